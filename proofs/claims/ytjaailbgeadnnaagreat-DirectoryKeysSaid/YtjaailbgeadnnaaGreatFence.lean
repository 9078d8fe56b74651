/- The contracts of the package fence and of planchetref14; the walk of FenceRaises. -/
import Derived.Test.YtjaailbgeadnnaaGreatGT
namespace Go.Proofs.YtjaailbgeadnnaaGreat
open Go Go.Sy Go.Proofs.Tryz
set_option maxRecDepth 100000
set_option maxHeartbeats 4000000
set_option linter.unusedSimpArgs false
set_option linter.unusedVariables false
attribute [go_sem] pl91
def hi_ (a1 a2 b1 b2 : Int) : Int := if b1 < a1 then a2 else if a1 < b1 then b2 else max a2 b2
theorem least_spec (a0 a1 a2 b0 b1 b2 : Int) : FnC Tryz.prog 52 [.agg [.int .i64 a0, .int .i64 a1, .int .i64 a2], .agg [.int .i64 b0, .int .i64 b1, .int .i64 b2]] [] (.agg [.int .i64 (max a0 b0), .int .i64 (max a1 b1), .int .i64 (hi_ a1 a2 b1 b2)]) [] := by
  refine fn0 mix [] 0 2 [.cell 4 90] Tryz.func52 rfl (by kernel_rfl) (by kernel_rfl) rfl (by kernel_rfl) (by kernel_rfl) (by simp) ?_
  simp (implicitDefEqProofs := false) (disch := omega) only [go_sem, ↓reduceIte]
  refine brd (fun h => ?_) (fun h => ?_)
  · simp (implicitDefEqProofs := false) (disch := omega) only [go_sem, ↓reduceIte]
    simp only [hi_, if_pos h, AV.agg.injEq, List.cons.injEq, AV.int.injEq, true_and, and_true]; omega
  simp (implicitDefEqProofs := false) (disch := omega) only [go_sem, ↓reduceIte]
  refine brd (fun h2 => ?_) (fun h2 => ?_)
  · simp (implicitDefEqProofs := false) (disch := omega) only [go_sem, ↓reduceIte]
    simp only [hi_, if_neg h, if_pos h2, AV.agg.injEq, List.cons.injEq, AV.int.injEq, true_and, and_true]; omega
  · simp (implicitDefEqProofs := false) (disch := omega) only [go_sem, ↓reduceIte]
    simp only [hi_, if_neg h, if_neg h2, AV.agg.injEq, List.cons.injEq, AV.int.injEq, true_and, and_true]; omega
theorem new_spec : FnC Tryz.prog 8 [] [] (.ref 0 []) [(0, .var (.agg [.agg [.int .i64 0, .int .i64 0, .int .i64 0]]))] := by
  refine fnN mix [] 0 0 [.tmp 0] Tryz.func8 rfl (by kernel_rfl) (by kernel_rfl) rfl (by kernel_rfl) (by kernel_rfl) (by simp) ?_
  simp (implicitDefEqProofs := false) (disch := omega) only [go_sem, ↓reduceIte]
  refine ⟨[(0, 0)], [], [], rfl, ?_, ?_, ?_⟩ <;> simp (implicitDefEqProofs := false) (disch := omega) only [go_sem, ↓reduceIte]
theorem marks_spec (a0 a1 a2 : Int) : FnC Tryz.prog 53 [.ref 0 []] [(0, .var (.agg [.agg [.int .i64 a0, .int .i64 a1, .int .i64 a2]]))] (.agg [.int .i64 a0, .int .i64 a1, .int .i64 a2]) [(0, .var (.agg [.agg [.int .i64 a0, .int .i64 a1, .int .i64 a2]]))] := by
  refine fnN mix [] 1 1 [.cell 2 90] Tryz.func53 rfl (by kernel_rfl) (by kernel_rfl) rfl (by kernel_rfl) (by kernel_rfl) (by simp) ?_
  simp (implicitDefEqProofs := false) (disch := omega) only [go_sem, ↓reduceIte]
  refine ⟨[(0, 0)], [], [], rfl, ?_, ?_, ?_⟩ <;> simp (implicitDefEqProofs := false) (disch := omega) only [go_sem, ↓reduceIte]
theorem raise_nil_spec (b0 b1 b2 : Int) : FnC Tryz.prog 91 [.nilp, .agg [.int .i64 b0, .int .i64 b1, .int .i64 b2]] [] (.agg [.int .i64 0, .int .i64 0, .int .i64 0]) [] := by
  refine fn0 mix pl91 0 2 [.cell 4 90] Tryz.func91 rfl (by kernel_rfl) (by kernel_rfl) rfl (by kernel_rfl) (by kernel_rfl) (by simp) ?_
  simp (implicitDefEqProofs := false) (disch := omega) only [go_sem, ↓reduceIte]
theorem raise_spec (a0 a1 a2 b0 b1 b2 : Int) : FnC Tryz.prog 91 [.ref 0 [], .agg [.int .i64 b0, .int .i64 b1, .int .i64 b2]] [(0, .var (.agg [.agg [.int .i64 a0, .int .i64 a1, .int .i64 a2]]))]
    (.agg [.int .i64 (max a0 b0), .int .i64 (max a1 b1), .int .i64 (hi_ a1 a2 b1 b2)]) [(0, .var (.agg [.agg [.int .i64 (max a0 b0), .int .i64 (max a1 b1), .int .i64 (hi_ a1 a2 b1 b2)]]))] := by
  refine fnN mix pl91 1 2 [.cell 4 90] Tryz.func91 rfl (by kernel_rfl) (by kernel_rfl) rfl (by kernel_rfl) (by kernel_rfl) (by simp) ?_
  simp (implicitDefEqProofs := false) (disch := omega) only [go_sem, ↓reduceIte]
  refine call0 (least_spec _ _ _ _ _ _) ?_
  simp (implicitDefEqProofs := false) (disch := omega) only [go_sem, ↓reduceIte]
  refine br (fun h => ?_) (fun h => ?_)
  · simp only [Bool.and_eq_true, decide_eq_true_eq] at h
    simp (implicitDefEqProofs := false) (disch := omega) only [go_sem, ↓reduceIte]
    refine ⟨[(0, 0)], [], [], rfl, ?_, ?_, ?_⟩ <;> simp (implicitDefEqProofs := false) (disch := omega) only [go_sem, ↓reduceIte, h.1, h.2.1, h.2.2]
  · simp (implicitDefEqProofs := false) (disch := omega) only [go_sem, ↓reduceIte]
    refine ⟨[(0, 0)], [], [], rfl, ?_, ?_, ?_⟩ <;> simp (implicitDefEqProofs := false) (disch := omega) only [go_sem, ↓reduceIte]
theorem ex_map {α : Type} {f : α → AV} {Q : α → Prop} : ∀ {es : List AV}, (∀ x ∈ es, ∃ a, x = f a ∧ Q a) → ∃ l : List α, es = l.map f ∧ ∀ a ∈ l, Q a
  | [], _ => ⟨[], rfl, by simp⟩
  | e :: es, h => by
    obtain ⟨a, rfl, ha⟩ := h e (by simp)
    obtain ⟨l, rfl, hl⟩ := ex_map (es := es) (fun x hx => h x (by simp [hx]))
    refine ⟨a :: l, rfl, fun b hb => ?_⟩
    rcases List.mem_cons.1 hb with rfl | hb
    · exact ha
    · exact hl b hb
theorem getP_map {α : Type} {f : α → AV} {l : List α} {i : Nat} {a : α} (h : l[i]? = some a) (K : AV → Prop) : getP (l.map f) i K = K (f a) := by simp [getP, h]
def mkm (a : Int × Int × Int) : AV := .agg [.int .i64 a.1, .int .i64 a.2.1, .int .i64 a.2.2]
def lst3 (x y : Int × Int × Int) : Int × Int × Int := (max x.1 y.1, max x.2.1 y.2.1, hi_ x.2.1 x.2.2 y.2.1 y.2.2)
def acc (ms : List (Int × Int × Int)) (i : Nat) : Int × Int × Int := (ms.take i).foldl lst3 (0, 0, 0)
theorem acc_succ {ms : List (Int × Int × Int)} {i : Nat} {a : Int × Int × Int} (h : ms[i]? = some a) : acc ms (i + 1) = lst3 (acc ms i) a := by
  unfold acc
  rw [List.take_add_one, List.foldl_append, h]
  rfl
end Go.Proofs.YtjaailbgeadnnaaGreat
