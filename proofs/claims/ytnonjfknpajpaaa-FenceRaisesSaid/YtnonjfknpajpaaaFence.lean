/- The contracts of the package fence and of planchetref14; the walk of FenceRaises. -/
import Derived.Test.YtnonjfknpajpaaaTy
import Derived.Test.YtnonjfknpajpaaaPl
namespace Go.Proofs.Ytnonjfknpajpaaa
open Go Go.Sy Go.Proofs.Try
set_option maxRecDepth 100000
set_option maxHeartbeats 4000000
set_option linter.unusedSimpArgs false
attribute [go_sem] pl6 pl26 pl31
def hi_ (a1 a2 b1 b2 : Int) : Int := if b1 < a1 then a2 else if a1 < b1 then b2 else max a2 b2
theorem least_spec (a0 a1 a2 b0 b1 b2 : Int) : FnC Try.prog 28 [.agg [.int .i64 a0, .int .i64 a1, .int .i64 a2], .agg [.int .i64 b0, .int .i64 b1, .int .i64 b2]] [] (.agg [.int .i64 (max a0 b0), .int .i64 (max a1 b1), .int .i64 (hi_ a1 a2 b1 b2)]) [] := by
  refine fn0 mix [] 0 2 [.cell 4 48] Try.func28 rfl (by kernel_rfl) (by kernel_rfl) rfl (by kernel_rfl) (by kernel_rfl) (by simp) ?_
  simp (implicitDefEqProofs := false) (disch := omega) only [go_sem, ↓reduceIte]
  refine brd (fun h => ?_) (fun h => ?_)
  · simp (implicitDefEqProofs := false) (disch := omega) only [go_sem, ↓reduceIte]
    simp only [hi_, if_pos h, AV.agg.injEq, List.cons.injEq, AV.int.injEq, true_and, and_true]; omega
  simp (implicitDefEqProofs := false) (disch := omega) only [go_sem, ↓reduceIte]
  refine brd (fun h2 => ?_) (fun h2 => ?_)
  · simp (implicitDefEqProofs := false) (disch := omega) only [go_sem, ↓reduceIte]
    simp only [hi_, if_neg h, if_pos h2, AV.agg.injEq, List.cons.injEq, AV.int.injEq, true_and, and_true]; omega
  · simp (implicitDefEqProofs := false) (disch := omega) only [go_sem, ↓reduceIte]
    simp only [hi_, if_neg h, if_neg h2, AV.agg.injEq, List.cons.injEq, AV.int.injEq, true_and, and_true]; omega
theorem refleast_spec (a0 a1 a2 b0 b1 b2 : Int) : FnC Try.prog 30 [.agg [.int .i64 a0, .int .i64 a1, .int .i64 a2], .agg [.int .i64 b0, .int .i64 b1, .int .i64 b2]] [] (.agg [.int .i64 (max a0 b0), .int .i64 (max a1 b1), .int .i64 (hi_ a1 a2 b1 b2)]) [] := by
  refine fn0 mix [] 0 2 [.cell 4 46] Try.func30 rfl (by kernel_rfl) (by kernel_rfl) rfl (by kernel_rfl) (by kernel_rfl) (by simp) ?_
  simp (implicitDefEqProofs := false) (disch := omega) only [go_sem, ↓reduceIte]
  have fin : ∀ g k h : Int, g = max a0 b0 → k = max a1 b1 → h = hi_ a1 a2 b1 b2 → (AV.int .i64 (max a0 b0) = .int .i64 g ∧ AV.int .i64 (max a1 b1) = .int .i64 k ∧ AV.int .i64 (hi_ a1 a2 b1 b2) = .int .i64 h) := fun g k h e1 e2 e3 => by rw [e1, e2, e3]; exact ⟨rfl, rfl, rfl⟩
  refine brd (fun h => ?_) (fun h => ?_) <;> simp (implicitDefEqProofs := false) (disch := omega) only [go_sem, ↓reduceIte]
  all_goals
    refine brd (fun h2 => ?_) (fun h2 => ?_) <;> simp (implicitDefEqProofs := false) (disch := omega) only [go_sem, ↓reduceIte]
    · refine fin _ _ _ (?_ : _ = _) (?_ : _ = _) (?_ : _ = _) <;> first | omega | (unfold hi_; rw [if_neg (by omega), if_pos h2]; done) | (unfold hi_; rw [if_neg (by omega), if_pos h2]; omega)
    refine brd (fun h3 => ?_) (fun h3 => ?_) <;> simp (implicitDefEqProofs := false) (disch := omega) only [go_sem, ↓reduceIte]
    · refine brd (fun h4 => ?_) (fun h4 => ?_) <;> simp (implicitDefEqProofs := false) (disch := omega) only [go_sem, ↓reduceIte]
      · refine fin _ _ _ (?_ : _ = _) (?_ : _ = _) (?_ : _ = _) <;> first | omega | (unfold hi_; rw [if_neg (by omega), if_neg h2]; done) | (unfold hi_; rw [if_neg (by omega), if_neg h2]; omega)
      · refine fin _ _ _ (?_ : _ = _) (?_ : _ = _) (?_ : _ = _) <;> first | omega | (unfold hi_; rw [if_neg (by omega), if_neg h2]; done) | (unfold hi_; rw [if_neg (by omega), if_neg h2]; omega)
    · refine fin _ _ _ (?_ : _ = _) (?_ : _ = _) (?_ : _ = _) <;> first | omega | (unfold hi_; rw [if_pos (by omega)]; done) | (unfold hi_; rw [if_pos (by omega)]; omega)
theorem as_spec (a0 a1 a2 : Int) : FnC Try.prog 27 [.agg [.int .i64 a0, .int .i64 a1, .int .i64 a2]] [] (.agg [.int .i64 a0, .int .i64 a1, .int .i64 a2]) [] := by
  refine fn0 mix [] 0 1 [.cell 2 46] Try.func27 rfl (by kernel_rfl) (by kernel_rfl) rfl (by kernel_rfl) (by kernel_rfl) (by simp) ?_
  simp (implicitDefEqProofs := false) (disch := omega) only [go_sem, ↓reduceIte]
theorem new_spec : FnC Try.prog 25 [] [] (.ref 0 []) [(0, .var (.agg [.agg [.int .i64 0, .int .i64 0, .int .i64 0]]))] := by
  refine fnN mix [] 0 0 [.tmp 0] Try.func25 rfl (by kernel_rfl) (by kernel_rfl) rfl (by kernel_rfl) (by kernel_rfl) (by simp) ?_
  simp (implicitDefEqProofs := false) (disch := omega) only [go_sem, ↓reduceIte]
  refine ⟨[(0, 0)], [], rfl, ?_, ?_, ?_⟩ <;> simp (implicitDefEqProofs := false) (disch := omega) only [go_sem, ↓reduceIte]
theorem marks_spec (a0 a1 a2 : Int) : FnC Try.prog 29 [.ref 0 []] [(0, .var (.agg [.agg [.int .i64 a0, .int .i64 a1, .int .i64 a2]]))] (.agg [.int .i64 a0, .int .i64 a1, .int .i64 a2]) [(0, .var (.agg [.agg [.int .i64 a0, .int .i64 a1, .int .i64 a2]]))] := by
  refine fnN mix [] 1 1 [.cell 2 48] Try.func29 rfl (by kernel_rfl) (by kernel_rfl) rfl (by kernel_rfl) (by kernel_rfl) (by simp) ?_
  simp (implicitDefEqProofs := false) (disch := omega) only [go_sem, ↓reduceIte]
  refine ⟨[(0, 0)], [], rfl, ?_, ?_, ?_⟩ <;> simp (implicitDefEqProofs := false) (disch := omega) only [go_sem, ↓reduceIte]
theorem raise_nil_spec (b0 b1 b2 : Int) : FnC Try.prog 31 [.nilp, .agg [.int .i64 b0, .int .i64 b1, .int .i64 b2]] [] (.agg [.int .i64 0, .int .i64 0, .int .i64 0]) [] := by
  refine fn0 mix pl31 0 2 [.cell 4 48] Try.func31 rfl (by kernel_rfl) (by kernel_rfl) rfl (by kernel_rfl) (by kernel_rfl) (by simp) ?_
  simp (implicitDefEqProofs := false) (disch := omega) only [go_sem, ↓reduceIte]
theorem raise_spec (a0 a1 a2 b0 b1 b2 : Int) : FnC Try.prog 31 [.ref 0 [], .agg [.int .i64 b0, .int .i64 b1, .int .i64 b2]] [(0, .var (.agg [.agg [.int .i64 a0, .int .i64 a1, .int .i64 a2]]))]
    (.agg [.int .i64 (max a0 b0), .int .i64 (max a1 b1), .int .i64 (hi_ a1 a2 b1 b2)]) [(0, .var (.agg [.agg [.int .i64 (max a0 b0), .int .i64 (max a1 b1), .int .i64 (hi_ a1 a2 b1 b2)]]))] := by
  refine fnN mix pl31 1 2 [.cell 4 48] Try.func31 rfl (by kernel_rfl) (by kernel_rfl) rfl (by kernel_rfl) (by kernel_rfl) (by simp) ?_
  simp (implicitDefEqProofs := false) (disch := omega) only [go_sem, ↓reduceIte]
  refine call0 (least_spec _ _ _ _ _ _) ?_
  simp (implicitDefEqProofs := false) (disch := omega) only [go_sem, ↓reduceIte]
  refine br (fun h => ?_) (fun h => ?_)
  · simp only [Bool.and_eq_true, decide_eq_true_eq] at h
    simp (implicitDefEqProofs := false) (disch := omega) only [go_sem, ↓reduceIte]
    refine ⟨[(0, 0)], [], rfl, ?_, ?_, ?_⟩ <;> simp (implicitDefEqProofs := false) (disch := omega) only [go_sem, ↓reduceIte, h.1, h.2.1, h.2.2]
  · simp (implicitDefEqProofs := false) (disch := omega) only [go_sem, ↓reduceIte]
    refine ⟨[(0, 0)], [], rfl, ?_, ?_, ?_⟩ <;> simp (implicitDefEqProofs := false) (disch := omega) only [go_sem, ↓reduceIte]
theorem knows14_spec : FnC Try.prog 26 [] [] (.bool true) [] := by
  have e1 : max (0 : Int) 1 = 1 := rfl
  have e2 : max (0 : Int) 0 = 0 := rfl
  have e3 : max (1 : Int) 0 = 1 := rfl
  have e4 : hi_ 0 0 0 5 = 5 := by decide
  have e5 : hi_ 0 5 1 2 = 2 := by decide
  refine fn0 mix pl26 0 0 [.tmp 0] Try.func26 rfl (by kernel_rfl) (by kernel_rfl) rfl (by kernel_rfl) (by kernel_rfl) (by simp) ?_
  simp (implicitDefEqProofs := false) (disch := omega) only [go_sem, ↓reduceIte]
  refine callF 1 new_spec ?_
  simp (implicitDefEqProofs := false) (disch := omega) only [go_sem, ↓reduceIte]
  refine callG false [(0, 0)] [(0, 0)] 1 (raise_spec 0 0 0 1 0 5) ?_ ?_
  · simp [keys]
  simp (implicitDefEqProofs := false) (disch := omega) only [go_sem, ↓reduceIte, e1, e2, e4]
  refine callG false [(0, 0)] [(0, 0)] 2 (raise_spec 1 0 5 0 1 2) ?_ ?_
  · simp [keys]
  simp (implicitDefEqProofs := false) (disch := omega) only [go_sem, ↓reduceIte, e1, e3, e5]
  refine callG false [(0, 0)] [(0, 0)] 3 (marks_spec 1 1 2) ?_ ?_
  · simp [keys]
  simp (implicitDefEqProofs := false) (disch := omega) only [go_sem, ↓reduceIte]
  refine call0 (raise_nil_spec _ _ _) ?_
  simp (implicitDefEqProofs := false) (disch := omega) only [go_sem, ↓reduceIte]
theorem ex_map {α : Type} {f : α → AV} {Q : α → Prop} : ∀ {es : List AV}, (∀ x ∈ es, ∃ a, x = f a ∧ Q a) → ∃ l : List α, es = l.map f ∧ ∀ a ∈ l, Q a
  | [], _ => ⟨[], rfl, by simp⟩
  | e :: es, h => by
    obtain ⟨a, rfl, ha⟩ := h e (by simp)
    obtain ⟨l, rfl, hl⟩ := ex_map (es := es) (fun x hx => h x (by simp [hx]))
    refine ⟨a :: l, rfl, fun b hb => ?_⟩
    rcases List.mem_cons.1 hb with rfl | hb
    · exact ha
    · exact hl b hb
theorem getP_map {α : Type} {f : α → AV} {l : List α} {i : Nat} {a : α} (h : l[i]? = some a) (K : AV → Prop) : getP (l.map f) i K = K (f a) := by simp [getP, h]
def mkm (a : Int × Int × Int) : AV := .agg [.int .i64 a.1, .int .i64 a.2.1, .int .i64 a.2.2]
def lst3 (x y : Int × Int × Int) : Int × Int × Int := (max x.1 y.1, max x.2.1 y.2.1, hi_ x.2.1 x.2.2 y.2.1 y.2.2)
def acc (ms : List (Int × Int × Int)) (i : Nat) : Int × Int × Int := (ms.take i).foldl lst3 (0, 0, 0)
theorem acc_succ {ms : List (Int × Int × Int)} {i : Nat} {a : Int × Int × Int} (h : ms[i]? = some a) : acc ms (i + 1) = lst3 (acc ms i) a := by
  unfold acc
  rw [List.take_add_one, List.foldl_append, h]
  rfl
theorem raises_spec (ms : List (Int × Int × Int)) (hl : ms.length ≤ 9223372036854775807) : FnC Try.prog 6 [.sl (.lst 3 ms.length (ms.map mkm))] [] (.bool true) [] := by
  refine fn0 mix pl6 0 1 [.tmp 2] Try.func6 rfl (by kernel_rfl) (by kernel_rfl) rfl (by kernel_rfl) (by kernel_rfl) (by simp) ?_
  simp (implicitDefEqProofs := false) (disch := omega) only [go_sem, ↓reduceIte]
  refine callF 1 new_spec ?_
  simp (implicitDefEqProofs := false) (disch := omega) only [go_sem, ↓reduceIte]
  refine brd (fun h => ?_) (fun h => ?_)
  · simp (implicitDefEqProofs := false) (disch := omega) only [go_sem, ↓reduceIte]
    refine call0 knows14_spec ?_
    simp (implicitDefEqProofs := false) (disch := omega) only [go_sem, ↓reduceIte]
  simp (implicitDefEqProofs := false) (disch := omega) only [go_sem, ↓reduceIte]
  refine loop (ι := Nat) 2 (fun i => i ≤ ms.length) (fun i => [(0, .sl (.lst 3 ms.length (ms.map mkm))), (3, .ref 0 []), (4, .ref 1 []), (5, .int .i64 i)])
    (fun i => [(0, .var (.agg [.agg [.int .i64 (acc ms i).1, .int .i64 (acc ms i).2.1, .int .i64 (acc ms i).2.2]])), (1, .var (.agg [.int .i64 (acc ms i).1, .int .i64 (acc ms i).2.1, .int .i64 (acc ms i).2.2]))])
    (fun i => ms.length - i) 0 [(0, 0), (1, 1)] [] (Nat.zero_le _) rfl ?_ ?_ ?_ (fun i hi => ?_)
  · simp (implicitDefEqProofs := false) (disch := omega) only [go_sem, ↓reduceIte]
  · simp (implicitDefEqProofs := false) (disch := omega) only [go_sem, ↓reduceIte]
  · simp (implicitDefEqProofs := false) (disch := omega) only [go_sem, ↓reduceIte, acc, List.take_zero, List.foldl_nil]
  simp (implicitDefEqProofs := false) (disch := omega) only [go_sem, ↓reduceIte]
  refine brd (fun h => ?_) (fun h => ?_)
  · have ha := List.getElem?_eq_getElem (show i < ms.length by omega)
    have hs := acc_succ ha
    have hg := fun K => getP_map (f := mkm) ha K
    generalize ms[i]'(show i < ms.length by omega) = a at *
    simp (implicitDefEqProofs := false) (disch := omega) only [go_sem, ↓reduceIte]
    refine callG false [(0, 0)] [(0, 0)] 2 (marks_spec (acc ms i).1 (acc ms i).2.1 (acc ms i).2.2) ?_ ?_
    · simp [keys]
    simp (implicitDefEqProofs := false) (disch := omega) only [go_sem, ↓reduceIte, hg, mkm]
    refine call0 (least_spec _ _ _ _ _ _) ?_
    simp (implicitDefEqProofs := false) (disch := omega) only [go_sem, ↓reduceIte, hg, mkm]
    refine call0 (as_spec _ _ _) ?_
    simp (implicitDefEqProofs := false) (disch := omega) only [go_sem, ↓reduceIte, hg, mkm]
    refine call0 (as_spec _ _ _) ?_
    simp (implicitDefEqProofs := false) (disch := omega) only [go_sem, ↓reduceIte, hg, mkm]
    refine call0 (refleast_spec _ _ _ _ _ _) ?_
    simp (implicitDefEqProofs := false) (disch := omega) only [go_sem, ↓reduceIte, hg, mkm]
    refine callG false [(0, 0)] [(0, 0)] 3 (raise_spec (acc ms i).1 (acc ms i).2.1 (acc ms i).2.2 a.1 a.2.1 a.2.2) ?_ ?_
    · simp [keys]
    simp (implicitDefEqProofs := false) (disch := omega) only [go_sem, ↓reduceIte, hg, mkm]
    refine call0 (as_spec _ _ _) ?_
    simp (implicitDefEqProofs := false) (disch := omega) only [go_sem, ↓reduceIte, hg, mkm]
    refine callG false [(0, 0)] [(0, 0)] 3 (marks_spec (max (acc ms i).1 a.1) (max (acc ms i).2.1 a.2.1) (hi_ (acc ms i).2.1 (acc ms i).2.2 a.2.1 a.2.2)) ?_ ?_
    · simp [keys]
    simp (implicitDefEqProofs := false) (disch := omega) only [go_sem, ↓reduceIte, hg, mkm]
    refine call0 (as_spec _ _ _) ?_
    simp (implicitDefEqProofs := false) (disch := omega) only [go_sem, ↓reduceIte, hg, mkm]
    refine ⟨i + 1, [(0, 0), (1, 1)], [], by dsimp only; omega, by dsimp only; omega, rfl, ?_, ?_, ?_⟩ <;> simp (implicitDefEqProofs := false) (disch := omega) only [go_sem, ↓reduceIte, hs, lst3]
  obtain rfl : i = ms.length := by omega
  simp (implicitDefEqProofs := false) (disch := omega) only [go_sem, ↓reduceIte]
  refine call0 knows14_spec ?_
  simp (implicitDefEqProofs := false) (disch := omega) only [go_sem, ↓reduceIte]
end Go.Proofs.Ytnonjfknpajpaaa
