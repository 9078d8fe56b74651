/- The walk of LogShows. -/
import Derived.Test.YtclkaibkepaebaaLog9
namespace Go.Proofs.Ytclkaibkepaebaa
open Go Go.Sy Go.Proofs.Try
set_option maxRecDepth 100000
set_option maxHeartbeats 8000000
set_option linter.unusedSimpArgs false
set_option linter.unusedVariables false
attribute [go_sem] pl8
theorem holds_shows (l : List (List Int)) (n i : Nat) (hn : l.length = n) (h1 : 1 ≤ n) (h2 : n ≤ 200) (hi : i < n) : holdsP (rg l 0 n) n i (l.getD i []) (wayF n l i) := by
  have h := way_shows n l n i hn (Nat.le_refl _) h1 hi
  unfold holdsP
  rw [Int.toNat_natCast, Int.toNat_natCast]
  exact ⟨by omega, by omega, by omega, by omega, h.1, h.2⟩
theorem grows_shows (l : List (List Int)) (n m : Nat) (hn : l.length = n) (h1 : 1 ≤ m) (h2 : n ≤ 200) (hm : m ≤ n) : growsP (rg l 0 m) m (rg l 0 n) n (fromF n l m false) := by
  have h := from_shows (rg l 0 m) n l n m false hn (Nat.le_refl _) h1 hm (fun _ => rfl)
  unfold growsP
  rw [Int.toNat_natCast, Int.toNat_natCast]
  exact ⟨by omega, by omega, by omega, h.1, h.2⟩
theorem logShows_spec (l : List (List Int)) (a b : Int) (ha : 0 ≤ a ∧ a < 256) (hb' : 0 ≤ b ∧ b < 256) (hb : ∀ p ∈ l, ∀ x ∈ p, 0 ≤ x ∧ x < 256) (hpl : ∀ p ∈ l, p.length ≤ 140737488351232) (hl : l.length ≤ 9223372036854775807) :
    FnC Try.prog 8 [.sl (.lst 1 l.length (l.map bsl)), .int .u8 a, .int .u8 b] [] (.bool true) [] := by
  obtain ⟨n, hn⟩ : ∃ n, n = l.length := ⟨_, rfl⟩
  obtain ⟨a, rfl⟩ := Int.eq_ofNat_of_zero_le ha.1
  obtain ⟨b, rfl⟩ := Int.eq_ofNat_of_zero_le hb'.1
  have hfew := few_spec l 2000 hl (fun p h => Nat.le_trans (hpl p h) (by decide))
  rw [← hn] at hfew ⊢
  refine fn0 mix pl8 0 3 [.tmp 6] Try.func8 rfl (by kernel_rfl) (by kernel_rfl) rfl (by kernel_rfl) (by kernel_rfl) (by simp) ?_
  by_cases c0 : n = 0
  · have d0 : decide ((n : Int) = 0) = true := decide_eq_true (by omega)
    simp (implicitDefEqProofs := false) (disch := omega) only [go_sem, ↓reduceIte, d0]
    refine call0 knows19_spec ?_
    simp (implicitDefEqProofs := false) (disch := omega) only [go_sem, ↓reduceIte]
  have d0 : decide ((n : Int) = 0) = false := decide_eq_false (by omega)
  by_cases c1 : 40 < n
  · have d1 : decide ((40 : Int) < n) = true := decide_eq_true (by omega)
    simp (implicitDefEqProofs := false) (disch := omega) only [go_sem, ↓reduceIte, d0, d1]
    refine call0 knows19_spec ?_
    simp (implicitDefEqProofs := false) (disch := omega) only [go_sem, ↓reduceIte]
  have d1 : decide ((40 : Int) < n) = false := decide_eq_false (by omega)
  simp (implicitDefEqProofs := false) (disch := omega) only [go_sem, ↓reduceIte, d0, d1]
  refine call0 hfew ?_
  by_cases hw : (decide (wsum l ≤ 2000) && decide ((n : Int) ≤ 100)) = true
  case neg =>
    rw [Bool.not_eq_true] at hw
    rw [hw]
    simp (implicitDefEqProofs := false) (disch := omega) only [go_sem, ↓reduceIte]
    refine call0 knows19_spec ?_
    simp (implicitDefEqProofs := false) (disch := omega) only [go_sem, ↓reduceIte]
  rw [hw]
  simp only [Bool.and_eq_true, decide_eq_true_eq] at hw
  have hw2 := wsum_eq l hpl l.length (by omega) (Nat.le_refl _)
  rw [List.take_length] at hw2
  have ht : textsP l := fun p h => ⟨hb p h, by have := len_cat h; omega⟩
  obtain ⟨i, hi⟩ : ∃ i, i = a % n := ⟨_, rfl⟩
  obtain ⟨m, hm⟩ : ∃ m, m = b % n + 1 := ⟨_, rfl⟩
  have hi2 : i < n := by rw [hi]; exact Nat.mod_lt _ (by omega)
  have hm2 : m ≤ n := by rw [hm]; exact Nat.mod_lt _ (by omega)
  have hm1 : 1 ≤ m := by omega
  have ti : (a : Int).tmod (n : Int) = (i : Int) := by rw [Int.tmod_eq_emod_of_nonneg (by omega), hi, Int.natCast_emod]
  have tm : (b : Int).tmod (n : Int) = (m : Int) - 1 := by rw [Int.tmod_eq_emod_of_nonneg (by omega), hm, Int.natCast_add, Int.natCast_emod]; simp
  have tm2 : (m : Int) - 1 + 1 = (m : Int) := by omega
  have ltk : (l.take m).length = m := by rw [List.length_take]; omega
  have r1 := logroot_spec l n hn.symm (by omega) ht
  have r2 := logroot_spec (l.take m) m ltk (by omega) (textsP_take ht _)
  rw [List.map_take, rg_take l (Nat.le_refl m)] at r2
  have hbt := textsP_at ht (show i < l.length by omega)
  have gb := fun K => getB_map (l := l) (show i < l.length by omega) K
  have ho := holds_spec (rg l 0 n) (l.getD i []) _ n i (wayF n l i) _ (rg_good _ _ _) rfl hbt.1 hbt.2 rfl (by have := wayF_len n l i; omega) (wayF_good n l i)
  rw [decide_eq_true (holds_shows l n i hn.symm (by omega) (by omega) hi2)] at ho
  have gr := grows_spec (rg l 0 m) (rg l 0 n) m n (fromF n l m false) _ (rg_good _ _ _) (rg_good _ _ _) rfl (by have := fromF_len n l m false; omega) (fromF_good n l m false)
  rw [decide_eq_true (grows_shows l n m hn.symm hm1 (by omega) hm2)] at gr
  simp (implicitDefEqProofs := false) (disch := omega) only [go_sem, ↓reduceIte, ti, tm, tm2]
  refine call0 r1 ?_
  by_cases cm : m = n
  · have dm : decide (m = n) = true := decide_eq_true cm
    have r2' : FnC Try.prog 29 [.sl (.lst 1 n (l.map bsl))] [] (.tup [.ints .u8 32 (rg l 0 m), .int .i64 0]) [] := by rw [cm]; exact r1
    simp (implicitDefEqProofs := false) (disch := omega) only [go_sem, ↓reduceIte, ti, tm, tm2, dm]
    refine call0 r2' ?_
    simp (implicitDefEqProofs := false) (disch := omega) only [go_sem, ↓reduceIte, ti, tm, tm2]
    refine callF 1 (way_ok_spec l n i hn.symm (by omega) hi2 ht) ?_
    simp (implicitDefEqProofs := false) (disch := omega) only [go_sem, ↓reduceIte, ti, tm, tm2]
    refine callF 1 (from_ok_spec l n m hn.symm (by omega) hm1 hm2 ht) ?_
    simp (implicitDefEqProofs := false) (disch := omega) only [go_sem, ↓reduceIte, ↓gb]
    refine callB ho ?_ ?_
    · simp (implicitDefEqProofs := false) (disch := omega) only [go_sem, ↓reduceIte]
    simp (implicitDefEqProofs := false) (disch := omega) only [go_sem, ↓reduceIte]
    refine callB gr ?_ ?_
    · simp (implicitDefEqProofs := false) (disch := omega) only [go_sem, ↓reduceIte]
    simp (implicitDefEqProofs := false) (disch := omega) only [go_sem, ↓reduceIte]
    refine call0 knows19_spec ?_
    simp (implicitDefEqProofs := false) (disch := omega) only [go_sem, ↓reduceIte]
  · have dm : decide (m = n) = false := decide_eq_false cm
    simp (implicitDefEqProofs := false) (disch := omega) only [go_sem, ↓reduceIte, ti, tm, tm2, dm]
    refine call0 r2 ?_
    simp (implicitDefEqProofs := false) (disch := omega) only [go_sem, ↓reduceIte, ti, tm, tm2]
    refine callF 1 (way_ok_spec l n i hn.symm (by omega) hi2 ht) ?_
    simp (implicitDefEqProofs := false) (disch := omega) only [go_sem, ↓reduceIte, ti, tm, tm2]
    refine callF 1 (from_ok_spec l n m hn.symm (by omega) hm1 hm2 ht) ?_
    simp (implicitDefEqProofs := false) (disch := omega) only [go_sem, ↓reduceIte, ↓gb]
    refine callB ho ?_ ?_
    · simp (implicitDefEqProofs := false) (disch := omega) only [go_sem, ↓reduceIte]
    simp (implicitDefEqProofs := false) (disch := omega) only [go_sem, ↓reduceIte]
    refine callB gr ?_ ?_
    · simp (implicitDefEqProofs := false) (disch := omega) only [go_sem, ↓reduceIte]
    simp (implicitDefEqProofs := false) (disch := omega) only [go_sem, ↓reduceIte]
    refine call0 knows19_spec ?_
    simp (implicitDefEqProofs := false) (disch := omega) only [go_sem, ↓reduceIte]
end Go.Proofs.Ytclkaibkepaebaa
