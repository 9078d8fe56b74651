/- The walk of ShaWrites. -/
import Derived.Test.YtnonjfknpajpaaaShaLaw
namespace Go.Proofs.Ytnonjfknpajpaaa
open Go Go.Sy Go.Proofs.Try
set_option maxRecDepth 100000
set_option maxHeartbeats 16000000
set_option linter.unusedSimpArgs false
set_option linter.unusedVariables false
def plW13 : List (Nat × Plan) := [(11, [(0, [], none), (1, [], some [28]), (2, [0, 1], none), (3, [0, 1, 2], none), (4, [0, 1], none), (5, [], none), (6, [], none), (7, [], none)])]

attribute [go_sem] plW13
theorem FnC.nil1 {P : Program} {f : FuncId} {c r : AV} {O O' : OO} (h : FnC P f [.sl c] O r O') (hc : c.void = true) : FnC P f [.nils] O r O' :=
  ⟨h.1, fun w M β xs hids hst hxs => h.2 w M β xs hids hst (by
    cases hxs with
    | cons h1 h2 =>
      cases h2
      have e := h1.nils_inv
      subst e
      exact .cons (.one rfl (.sl (cc := []) (rv_void hc) (void_row hc).1 (void_row hc).2 (Nat.le_refl _) (.inl rfl))) .nil)⟩
theorem refsum_nil_spec : FnC Try.prog 51 [.nils] [] (.ints .u8 32 (sumD [])) [] := FnC.nil1 (refsum_spec [] (by simp) (by decide)) rfl
theorem shaWrites_spec (ps : List (List Int)) (hb : ∀ p ∈ ps, ∀ x ∈ p, 0 ≤ x ∧ x < 256) (hp : ∀ p ∈ ps, p.length ≤ 140737488351232) (hl : ps.length ≤ 9223372036854775807) : FnC Try.prog 13 [.sl (.lst 1 ps.length (ps.map bsl))] [] (.bool true) [] := by
  refine fn0 mix plW13 0 1 [.tmp 2] Try.func13 rfl (by kernel_rfl) (by kernel_rfl) rfl (by kernel_rfl) (by kernel_rfl) (by simp) ?_
  simp (implicitDefEqProofs := false) (disch := omega) only [go_sem, ↓reduceIte]
  refine call0 (few_spec ps 1000 hl (fun p h => Nat.le_trans (hp p h) (by decide))) ?_
  simp (implicitDefEqProofs := false) (disch := omega) only [go_sem, ↓reduceIte]
  refine br (fun h => ?_) (fun h => ?_)
  · simp only [Bool.and_eq_true, decide_eq_true_eq] at h
    have hw := wsum_eq ps hp ps.length (by omega) (Nat.le_refl _)
    rw [List.take_length] at hw
    have hn : (cat ps).length ≤ 1000 := by omega
    simp (implicitDefEqProofs := false) (disch := omega) only [go_sem, ↓reduceIte]
    refine callF 2 new_abs ?_
    simp (implicitDefEqProofs := false) (disch := omega) only [go_sem, ↓reduceIte]
    refine callB (write_nil_spec [1]) ?_ ?_
    · simp (implicitDefEqProofs := false) (disch := omega) only [go_sem, ↓reduceIte]
    simp (implicitDefEqProofs := false) (disch := omega) only [go_sem, ↓reduceIte]
    refine call0 sum_nil_spec ?_
    simp (implicitDefEqProofs := false) (disch := omega) only [go_sem, ↓reduceIte]
    refine call0 refsum_nil_spec ?_
    simp (implicitDefEqProofs := false) (disch := omega) only [go_sem, ↓reduceIte]
    refine loop (ι := Nat) 2 (fun i => i ≤ ps.length) (fun i => [(0, .sl (.lst 1 ps.length (ps.map bsl))), (3, .ref 0 []), (5, .int .i64 i)]) (fun i => [(0, .var (.agg [.ints .u32 8 (hst (cat (ps.take i))), .osl 1 [] 1 0 (hrest (cat (ps.take i))).length, .int .i64 (cat (ps.take i)).length])), (1, .row (.ints .u8 (hrest (cat (ps.take i))).length (hrest (cat (ps.take i)))))]) (fun i => ps.length - i) 0 [(0, 0), (1, 1)] [] (Nat.zero_le _) rfl ?_ ?_ ?_ (fun i hi => ?_)
    · simp (implicitDefEqProofs := false) (disch := omega) only [go_sem, ↓reduceIte]
    · simp (implicitDefEqProofs := false) (disch := omega) only [go_sem, ↓reduceIte]
    · simp (implicitDefEqProofs := false) (disch := omega) only [go_sem, ↓reduceIte, List.take_zero, cat, List.flatMap_nil, List.length_nil]
    simp (implicitDefEqProofs := false) (disch := omega) only [go_sem, ↓reduceIte]
    have hm := cat_mem hb i
    have hle := cat_le ps i
    refine brd (fun h3 => ?_) (fun h3 => ?_)
    · have hi' := List.getElem?_eq_getElem (show i < ps.length by omega)
      have hbm := hb _ (List.getElem_mem (show i < ps.length by omega))
      have hs := cat_succ hi'
      have hg := fun K => getP_map (f := bsl) hi' K
      generalize ps[i]'(show i < ps.length by omega) = b at *
      have h2 := cat_le ps (i + 1)
      rw [hs, List.length_append] at h2
      have hti : (ps.take i).length = i := by rw [List.length_take]; omega
      have hj := join_spec (ps.take i) (by omega) (by omega)
      rw [hti, List.map_take] at hj
      have e1 : decide (i = ps.length) = false := decide_eq_false (by omega)
      simp (implicitDefEqProofs := false) (disch := omega) only [go_sem, ↓reduceIte]
      refine callG false [(0, 0), (1, 1)] [(0, 0), (1, 2)] 3 (sum_abs (cat (ps.take i)) hm (by omega)) ?_ ?_
      · simp [keys]
      simp (implicitDefEqProofs := false) (disch := omega) only [go_sem, ↓reduceIte, e1]
      refine callF 1 hj ?_
      simp (implicitDefEqProofs := false) (disch := omega) only [go_sem, ↓reduceIte, e1]
      refine callB (refsum_spec (cat (ps.take i)) hm (by omega)) ?_ ?_
      · simp (implicitDefEqProofs := false) (disch := omega) only [go_sem, ↓reduceIte]
      simp (implicitDefEqProofs := false) (disch := omega) only [go_sem, ↓reduceIte, hg, bsl]
      refine callG false [(0, 0), (1, 2)] [(0, 0), (1, 4)] 5 (write_abs (cat (ps.take i)) b hm hbm (by omega) (by omega)) ?_ ?_
      · simp [keys]
      simp (implicitDefEqProofs := false) (disch := omega) only [go_sem, ↓reduceIte]
      refine ⟨i + 1, [(0, 0), (1, 4)], [], [], by dsimp only; omega, by dsimp only; omega, rfl, ?_, ?_, ?_⟩ <;> simp (implicitDefEqProofs := false) (disch := omega) only [go_sem, ↓reduceIte, hs]
    obtain rfl : i = ps.length := by omega
    rw [List.take_length]
    rw [List.take_length] at hm
    simp (implicitDefEqProofs := false) (disch := omega) only [go_sem, ↓reduceIte]
    refine callG false [(0, 0), (1, 1)] [(0, 0), (1, 2)] 3 (sum_abs (cat ps) hm (by omega)) ?_ ?_
    · simp [keys]
    simp (implicitDefEqProofs := false) (disch := omega) only [go_sem, ↓reduceIte]
    refine callF 1 (join_spec ps hl (by omega)) ?_
    simp (implicitDefEqProofs := false) (disch := omega) only [go_sem, ↓reduceIte]
    refine callB (refsum_spec (cat ps) hm (by omega)) ?_ ?_
    · simp (implicitDefEqProofs := false) (disch := omega) only [go_sem, ↓reduceIte]
    simp (implicitDefEqProofs := false) (disch := omega) only [go_sem, ↓reduceIte]
    refine call0 knows01_spec ?_
    simp (implicitDefEqProofs := false) (disch := omega) only [go_sem, ↓reduceIte]
  · simp (implicitDefEqProofs := false) (disch := omega) only [go_sem, ↓reduceIte]
    refine call0 knows01_spec ?_
    simp (implicitDefEqProofs := false) (disch := omega) only [go_sem, ↓reduceIte]
end Go.Proofs.Ytnonjfknpajpaaa
