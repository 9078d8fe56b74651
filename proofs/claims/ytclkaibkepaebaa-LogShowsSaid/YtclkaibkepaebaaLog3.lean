/- The walk of LogRoots. -/
import Derived.Test.YtclkaibkepaebaaLog2
import Derived.Test.YtclkaibkepaebaaRef01
import Derived.Test.YtclkaibkepaebaaTree5
namespace Go.Proofs.Ytclkaibkepaebaa
open Go Go.Sy Go.Proofs.Try
set_option maxRecDepth 100000
set_option maxHeartbeats 8000000
set_option linter.unusedSimpArgs false
set_option linter.unusedVariables false
attribute [go_sem] pl6 pl28
theorem abc_texts : textsP [[97], [98], [99]] := by
  intro b hb
  simp only [List.mem_cons, List.not_mem_nil, or_false] at hb
  rcases hb with rfl | rfl | rfl <;> exact ⟨by decide, by decide⟩
theorem rg_abc : rg [[97], [98], [99]] 0 3 = nodeL (nodeL (leafL [97]) (leafL [98])) (leafL [99]) := by
  have h3 : halfN 3 = 2 := by decide
  have h2 : halfN 2 = 1 := by decide
  rw [rg_two _ 0 (by decide), h3, rg_two _ 0 (by decide), h2, rg_one, rg_one, rg_one]
  rfl
theorem knows19_spec : FnC Try.prog 28 [] [] (.bool true) [] := by
  have r1 := logroot_spec [[97], [98], [99]] 3 rfl (by decide) abc_texts
  have r2 := (logroot_spec [] 0 rfl (by decide) (by intro b hb; cases hb)).nz (args' := [.nils]) (by simp [Go.Sy.nz, nzs, AV.void])
  have r3 := from_arg_spec [[97]] 1 0 (by decide) (.inl (by decide))
  rw [rg_abc] at r1
  rw [rg_zero] at r2
  refine fn0 mix pl28 0 0 [.tmp 0] Try.func28 rfl (by kernel_rfl) (by kernel_rfl) rfl (by kernel_rfl) (by kernel_rfl) (by simp) ?_
  simp (implicitDefEqProofs := false) (disch := omega) only [go_sem, ↓reduceIte]
  refine callB r1 ?_ ?_
  · simp (implicitDefEqProofs := false) (disch := omega) only [go_sem, ↓reduceIte, bsl]
  simp (implicitDefEqProofs := false) (disch := omega) only [go_sem, ↓reduceIte]
  refine call0 r2 ?_
  simp (implicitDefEqProofs := false) (disch := omega) only [go_sem, ↓reduceIte]
  refine callB r3 ?_ ?_
  · simp (implicitDefEqProofs := false) (disch := omega) only [go_sem, ↓reduceIte, bsl]
  simp (implicitDefEqProofs := false) (disch := omega) only [go_sem, ↓reduceIte]
  refine callB (leaf_spec19 [97] 1 rfl (by decide) (by decide)) ?_ ?_
  · simp (implicitDefEqProofs := false) (disch := omega) only [go_sem, ↓reduceIte]
  simp (implicitDefEqProofs := false) (disch := omega) only [go_sem, ↓reduceIte]
  refine callB (leaf_spec19 [98] 1 rfl (by decide) (by decide)) ?_ ?_
  · simp (implicitDefEqProofs := false) (disch := omega) only [go_sem, ↓reduceIte]
  simp (implicitDefEqProofs := false) (disch := omega) only [go_sem, ↓reduceIte]
  refine call0 (node_spec17 _ _ (leafL_good _) (leafL_good _)) ?_
  simp (implicitDefEqProofs := false) (disch := omega) only [go_sem, ↓reduceIte]
  refine callB (leaf_spec19 [99] 1 rfl (by decide) (by decide)) ?_ ?_
  · simp (implicitDefEqProofs := false) (disch := omega) only [go_sem, ↓reduceIte]
  simp (implicitDefEqProofs := false) (disch := omega) only [go_sem, ↓reduceIte]
  refine call0 (node_spec17 _ _ (nodeL_good _ _) (leafL_good _)) ?_
  simp (implicitDefEqProofs := false) (disch := omega) only [go_sem, ↓reduceIte]
theorem len_cat {ps : List (List Int)} {p : List Int} (h : p ∈ ps) : p.length ≤ (cat ps).length := by
  induction ps with
  | nil => cases h
  | cons q qs ih =>
    rw [cat, List.flatMap_cons, List.length_append]
    rcases List.mem_cons.1 h with rfl | h
    · exact Nat.le_add_right _ _
    · have := ih h
      rw [cat] at this
      omega
theorem logRoots_spec (l : List (List Int)) (i m : Int) (hi : i < 9223372036854775808) (hb : ∀ p ∈ l, ∀ x ∈ p, 0 ≤ x ∧ x < 256) (hpl : ∀ p ∈ l, p.length ≤ 140737488351232) (hl : l.length ≤ 9223372036854775807) :
    FnC Try.prog 6 [.sl (.lst 1 l.length (l.map bsl)), .int .i64 i, .int .i64 m] [] (.bool true) [] := by
  obtain ⟨n, hn⟩ : ∃ n, n = l.length := ⟨_, rfl⟩
  have hfew := few_spec l 2000 hl (fun p h => Nat.le_trans (hpl p h) (by decide))
  rw [← hn] at hfew ⊢
  refine fn0 mix pl6 0 3 [.tmp 6] Try.func6 rfl (by kernel_rfl) (by kernel_rfl) rfl (by kernel_rfl) (by kernel_rfl) (by simp) ?_
  by_cases c1 : 40 < n
  · by_cases c2 : n ≤ 200
    · have d1 : decide ((40 : Int) < n) = true := decide_eq_true (by omega)
      have d2 : decide ((n : Int) ≤ 200) = true := decide_eq_true (by omega)
      simp (implicitDefEqProofs := false) (disch := omega) only [go_sem, ↓reduceIte, d1, d2]
      refine call0 knows19_spec ?_
      simp (implicitDefEqProofs := false) (disch := omega) only [go_sem, ↓reduceIte]
    · by_cases c3 : 300 < n
      · have d1 : decide ((40 : Int) < n) = true := decide_eq_true (by omega)
        have d2 : decide ((n : Int) ≤ 200) = false := decide_eq_false (by omega)
        have d3 : decide ((300 : Int) < n) = true := decide_eq_true (by omega)
        simp (implicitDefEqProofs := false) (disch := omega) only [go_sem, ↓reduceIte, d1, d2, d3]
        refine call0 knows19_spec ?_
        simp (implicitDefEqProofs := false) (disch := omega) only [go_sem, ↓reduceIte]
      · have d1 : decide ((40 : Int) < n) = true := decide_eq_true (by omega)
        have d2 : decide ((n : Int) ≤ 200) = false := decide_eq_false (by omega)
        have d3 : decide ((300 : Int) < n) = false := decide_eq_false (by omega)
        have d4 : decide ((n : Int) ≤ 40) = false := decide_eq_false (by omega)
        simp (implicitDefEqProofs := false) (disch := omega) only [go_sem, ↓reduceIte, d1, d2, d3, d4]
        refine call0 (logroot_full_spec l n (by omega)) ?_
        simp (implicitDefEqProofs := false) (disch := omega) only [go_sem, ↓reduceIte]
        refine call0 (way_full_spec l n i (by omega)) ?_
        simp (implicitDefEqProofs := false) (disch := omega) only [go_sem, ↓reduceIte]
        refine call0 (from_full_spec l n m (by omega)) ?_
        simp (implicitDefEqProofs := false) (disch := omega) only [go_sem, ↓reduceIte]
        refine brd (fun h => ?_) (fun h => by omega)
        simp (implicitDefEqProofs := false) (disch := omega) only [go_sem, ↓reduceIte]
        refine call0 knows19_spec ?_
        simp (implicitDefEqProofs := false) (disch := omega) only [go_sem, ↓reduceIte]
  have d1 : decide ((40 : Int) < n) = false := decide_eq_false (by omega)
  have d3 : decide ((300 : Int) < n) = false := decide_eq_false (by omega)
  have d4 : decide ((n : Int) ≤ 40) = true := decide_eq_true (by omega)
  simp (implicitDefEqProofs := false) (disch := omega) only [go_sem, ↓reduceIte, d1, d3, d4]
  refine call0 hfew ?_
  by_cases hw : (decide (wsum l ≤ 2000) && decide ((n : Int) ≤ 100)) = true
  case neg =>
    rw [Bool.not_eq_true] at hw
    rw [hw]
    simp (implicitDefEqProofs := false) (disch := omega) only [go_sem, ↓reduceIte]
    refine call0 knows19_spec ?_
    simp (implicitDefEqProofs := false) (disch := omega) only [go_sem, ↓reduceIte]
  rw [hw]
  simp only [Bool.and_eq_true, decide_eq_true_eq] at hw
  have hw2 := wsum_eq l hpl l.length (by omega) (Nat.le_refl _)
  rw [List.take_length] at hw2
  have ht : textsP l := fun p h => ⟨hb p h, by have := len_cat h; omega⟩
  simp (implicitDefEqProofs := false) (disch := omega) only [go_sem, ↓reduceIte]
  refine call0 (logroot_spec l n hn.symm (by omega) ht) ?_
  simp (implicitDefEqProofs := false) (disch := omega) only [go_sem, ↓reduceIte]
  have c200 : decide ((200 : Int) < n) = false := decide_eq_false (by omega)
  have hrr := refroot_spec n l n hn.symm (Nat.le_refl _) (by omega) ht
  by_cases hii : i < 0 ∨ (n : Int) ≤ i
  · refine call0 (way_arg_spec l n i (by omega) hii) ?_
    simp (implicitDefEqProofs := false) (disch := omega) only [go_sem, ↓reduceIte]
    by_cases hmm : m < 1 ∨ (n : Int) < m
    · refine call0 (from_arg_spec l n m (by omega) hmm) ?_
      simp (implicitDefEqProofs := false) (disch := omega) only [go_sem, ↓reduceIte, c200]
      refine call0 hrr ?_
      by_cases hneg : i < 0
      · have d5 : decide (i < 0) = true := decide_eq_true hneg
        simp (implicitDefEqProofs := false) (disch := omega) only [go_sem, ↓reduceIte, d5]
        by_cases hm1 : m < 1
        · have e5 : decide (m < 1) = true := decide_eq_true hm1
          simp (implicitDefEqProofs := false) (disch := omega) only [go_sem, ↓reduceIte, e5]
          refine call0 knows19_spec ?_
          simp (implicitDefEqProofs := false) (disch := omega) only [go_sem, ↓reduceIte]
        · have e5 : decide (m < 1) = false := decide_eq_false hm1
          have e6 : decide ((n : Int) < m) = true := decide_eq_true (by omega)
          simp (implicitDefEqProofs := false) (disch := omega) only [go_sem, ↓reduceIte, e5, e6]
          refine call0 knows19_spec ?_
          simp (implicitDefEqProofs := false) (disch := omega) only [go_sem, ↓reduceIte]
      · have d5 : decide (i < 0) = false := decide_eq_false hneg
        have d6 : decide ((n : Int) ≤ i) = true := decide_eq_true (by omega)
        simp (implicitDefEqProofs := false) (disch := omega) only [go_sem, ↓reduceIte, d5, d6]
        by_cases hm1 : m < 1
        · have e5 : decide (m < 1) = true := decide_eq_true hm1
          simp (implicitDefEqProofs := false) (disch := omega) only [go_sem, ↓reduceIte, e5]
          refine call0 knows19_spec ?_
          simp (implicitDefEqProofs := false) (disch := omega) only [go_sem, ↓reduceIte]
        · have e5 : decide (m < 1) = false := decide_eq_false hm1
          have e6 : decide ((n : Int) < m) = true := decide_eq_true (by omega)
          simp (implicitDefEqProofs := false) (disch := omega) only [go_sem, ↓reduceIte, e5, e6]
          refine call0 knows19_spec ?_
          simp (implicitDefEqProofs := false) (disch := omega) only [go_sem, ↓reduceIte]
    · obtain ⟨M, rfl⟩ := Int.eq_ofNat_of_zero_le (show 0 ≤ m by omega)
      refine callF 1 (from_ok_spec l n M hn.symm (by omega) (by omega) (by omega) ht) ?_
      simp (implicitDefEqProofs := false) (disch := omega) only [go_sem, ↓reduceIte, c200]
      refine call0 hrr ?_
      by_cases hneg : i < 0
      · have d5 : decide (i < 0) = true := decide_eq_true hneg
        simp (implicitDefEqProofs := false) (disch := omega) only [go_sem, ↓reduceIte, d5]
        have e5 : decide ((M : Int) < 1) = false := decide_eq_false (by omega)
        have e6 : decide ((n : Int) < (M : Int)) = false := decide_eq_false (by omega)
        simp (implicitDefEqProofs := false) (disch := omega) only [go_sem, ↓reduceIte, e5, e6]
        refine callF 1 (reffrom_spec19 n l n M false hn.symm (Nat.le_refl _) (by omega) (by omega) (by omega) ht) ?_
        simp (implicitDefEqProofs := false) (disch := omega) only [go_sem, ↓reduceIte, e5, e6]
        refine callB (same_self (fromF n l M false) _ rfl (by have := fromF_len n l M false; omega)) ?_ ?_
        · simp (implicitDefEqProofs := false) (disch := omega) only [go_sem, ↓reduceIte]
        simp (implicitDefEqProofs := false) (disch := omega) only [go_sem, ↓reduceIte]
        refine call0 knows19_spec ?_
        simp (implicitDefEqProofs := false) (disch := omega) only [go_sem, ↓reduceIte]
      · have d5 : decide (i < 0) = false := decide_eq_false hneg
        have d6 : decide ((n : Int) ≤ i) = true := decide_eq_true (by omega)
        simp (implicitDefEqProofs := false) (disch := omega) only [go_sem, ↓reduceIte, d5, d6]
        have e5 : decide ((M : Int) < 1) = false := decide_eq_false (by omega)
        have e6 : decide ((n : Int) < (M : Int)) = false := decide_eq_false (by omega)
        simp (implicitDefEqProofs := false) (disch := omega) only [go_sem, ↓reduceIte, e5, e6]
        refine callF 1 (reffrom_spec19 n l n M false hn.symm (Nat.le_refl _) (by omega) (by omega) (by omega) ht) ?_
        simp (implicitDefEqProofs := false) (disch := omega) only [go_sem, ↓reduceIte, e5, e6]
        refine callB (same_self (fromF n l M false) _ rfl (by have := fromF_len n l M false; omega)) ?_ ?_
        · simp (implicitDefEqProofs := false) (disch := omega) only [go_sem, ↓reduceIte]
        simp (implicitDefEqProofs := false) (disch := omega) only [go_sem, ↓reduceIte]
        refine call0 knows19_spec ?_
        simp (implicitDefEqProofs := false) (disch := omega) only [go_sem, ↓reduceIte]
  · obtain ⟨I, rfl⟩ := Int.eq_ofNat_of_zero_le (show 0 ≤ i by omega)
    refine callF 1 (way_ok_spec l n I hn.symm (by omega) (by omega) ht) ?_
    simp (implicitDefEqProofs := false) (disch := omega) only [go_sem, ↓reduceIte]
    by_cases hmm : m < 1 ∨ (n : Int) < m
    · refine call0 (from_arg_spec l n m (by omega) hmm) ?_
      simp (implicitDefEqProofs := false) (disch := omega) only [go_sem, ↓reduceIte, c200]
      refine call0 hrr ?_
      have d5 : decide ((I : Int) < 0) = false := decide_eq_false (by omega)
      have d6 : decide ((n : Int) ≤ (I : Int)) = false := decide_eq_false (by omega)
      simp (implicitDefEqProofs := false) (disch := omega) only [go_sem, ↓reduceIte, d5, d6]
      refine callF 1 (refway_spec19 n l n I hn.symm (Nat.le_refl _) (by omega) (by omega) ht) ?_
      simp (implicitDefEqProofs := false) (disch := omega) only [go_sem, ↓reduceIte, d5, d6]
      refine callB (same_self (wayF n l I) _ rfl (by have := wayF_len n l I; omega)) ?_ ?_
      · simp (implicitDefEqProofs := false) (disch := omega) only [go_sem, ↓reduceIte]
      simp (implicitDefEqProofs := false) (disch := omega) only [go_sem, ↓reduceIte]
      by_cases hm1 : m < 1
      · have e5 : decide (m < 1) = true := decide_eq_true hm1
        simp (implicitDefEqProofs := false) (disch := omega) only [go_sem, ↓reduceIte, e5]
        refine call0 knows19_spec ?_
        simp (implicitDefEqProofs := false) (disch := omega) only [go_sem, ↓reduceIte]
      · have e5 : decide (m < 1) = false := decide_eq_false hm1
        have e6 : decide ((n : Int) < m) = true := decide_eq_true (by omega)
        simp (implicitDefEqProofs := false) (disch := omega) only [go_sem, ↓reduceIte, e5, e6]
        refine call0 knows19_spec ?_
        simp (implicitDefEqProofs := false) (disch := omega) only [go_sem, ↓reduceIte]
    · obtain ⟨M, rfl⟩ := Int.eq_ofNat_of_zero_le (show 0 ≤ m by omega)
      refine callF 1 (from_ok_spec l n M hn.symm (by omega) (by omega) (by omega) ht) ?_
      simp (implicitDefEqProofs := false) (disch := omega) only [go_sem, ↓reduceIte, c200]
      refine call0 hrr ?_
      have d5 : decide ((I : Int) < 0) = false := decide_eq_false (by omega)
      have d6 : decide ((n : Int) ≤ (I : Int)) = false := decide_eq_false (by omega)
      simp (implicitDefEqProofs := false) (disch := omega) only [go_sem, ↓reduceIte, d5, d6]
      refine callF 1 (refway_spec19 n l n I hn.symm (Nat.le_refl _) (by omega) (by omega) ht) ?_
      simp (implicitDefEqProofs := false) (disch := omega) only [go_sem, ↓reduceIte, d5, d6]
      refine callB (same_self (wayF n l I) _ rfl (by have := wayF_len n l I; omega)) ?_ ?_
      · simp (implicitDefEqProofs := false) (disch := omega) only [go_sem, ↓reduceIte]
      simp (implicitDefEqProofs := false) (disch := omega) only [go_sem, ↓reduceIte]
      have e5 : decide ((M : Int) < 1) = false := decide_eq_false (by omega)
      have e6 : decide ((n : Int) < (M : Int)) = false := decide_eq_false (by omega)
      simp (implicitDefEqProofs := false) (disch := omega) only [go_sem, ↓reduceIte, e5, e6]
      refine callF 1 (reffrom_spec19 n l n M false hn.symm (Nat.le_refl _) (by omega) (by omega) (by omega) ht) ?_
      simp (implicitDefEqProofs := false) (disch := omega) only [go_sem, ↓reduceIte, e5, e6]
      refine callB (same_self (fromF n l M false) _ rfl (by have := fromF_len n l M false; omega)) ?_ ?_
      · simp (implicitDefEqProofs := false) (disch := omega) only [go_sem, ↓reduceIte]
      simp (implicitDefEqProofs := false) (disch := omega) only [go_sem, ↓reduceIte]
      refine call0 knows19_spec ?_
      simp (implicitDefEqProofs := false) (disch := omega) only [go_sem, ↓reduceIte]
end Go.Proofs.Ytclkaibkepaebaa
