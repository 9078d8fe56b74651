/- Logs: the pure law of roots; the contracts of log.Leaf, half, root, ptree.Node, and of planchetref17.Node, planchetref19.Leaf, Half, Root. -/
import Derived.Test.YtegbkbkcfcjkbaaKeyed
import Derived.Test.YtegbkbkcfcjkbaaSig
import Derived.Test.YtegbkbkcfcjkbaaTree
namespace Go.Proofs.Ytegbkbkcfcjkbaa
open Go Go.Sy Go.Proofs.Try
set_option maxRecDepth 100000
set_option maxHeartbeats 8000000
set_option linter.unusedSimpArgs false
set_option linter.unusedVariables false
attribute [go_sem] pl77 pl113
def leafL (b : List Int) : List Int := sumD (0 :: b)
def nodeL (a b : List Int) : List Int := sumD (1 :: (a ++ b))
theorem leafL_good (b : List Int) : goodD (leafL b) := ⟨sumD_len _, sumD_mem _⟩
theorem nodeL_good (a b : List Int) : goodD (nodeL a b) := ⟨sumD_len _, sumD_mem _⟩
/-- The greatest power of 2 below a number above 1. -/
def isHalf (n k : Nat) : Prop := (∃ j, k = pw j) ∧ k < n ∧ n ≤ 2 * k
theorem pw_mono {i j : Nat} (h : pw i < pw j) : i < j := by
  apply Nat.lt_of_not_le
  intro hle
  have := pw_le hle
  omega
theorem half_one {n k k' : Nat} (h : isHalf n k) (h' : isHalf n k') : k = k' := by
  obtain ⟨⟨i, rfl⟩, h1, h2⟩ := h
  obtain ⟨⟨j, rfl⟩, h3, h4⟩ := h'
  have e1 : pw (i + 1) = 2 * pw i := by unfold pw; rw [Nat.pow_succ]; omega
  have e2 : pw (j + 1) = 2 * pw j := by unfold pw; rw [Nat.pow_succ]; omega
  have h5 := pw_mono (show pw i < pw (j + 1) by omega)
  have h6 := pw_mono (show pw j < pw (i + 1) by omega)
  rw [show i = j by omega]
def halfF : Nat → Nat → Nat → Nat
  | 0, k, _ => k
  | f + 1, k, n => if 2 * k < n then halfF f (2 * k) n else k
theorem half_is : ∀ (f n j : Nat), n ≤ f + pw j → pw j < n → isHalf n (halfF f (pw j) n)
  | 0, n, j, h, h' => by omega
  | f + 1, n, j, h, h' => by
    have e : pw (j + 1) = 2 * pw j := by unfold pw; rw [Nat.pow_succ]; omega
    have := pw_pos j
    rw [halfF]
    by_cases c : 2 * pw j < n
    · rw [if_pos c, ← e]
      exact half_is f n (j + 1) (by omega) (by omega)
    · rw [if_neg c]
      exact ⟨⟨j, rfl⟩, h', by omega⟩
def halfN (n : Nat) : Nat := halfF n 1 n
theorem halfN_is {n : Nat} (h : 2 ≤ n) : isHalf n (halfN n) := half_is n n 0 (by have : pw 0 = 1 := rfl; omega) (by have : pw 0 = 1 := rfl; omega)
theorem halfN_eq {n k : Nat} (h : isHalf n k) (h2 : 2 ≤ n) : halfN n = k := half_one (halfN_is h2) h
theorem halfN_lt {n : Nat} (h : 2 ≤ n) : 1 ≤ halfN n ∧ halfN n < n := by
  obtain ⟨⟨j, e⟩, h1, h2⟩ := halfN_is h
  omega
theorem half_spec (n : Nat) (h : 2 ≤ n) (hn : n ≤ 1000) : FnC Try.prog 76 [.int .i64 n] [] (.int .i64 (halfN n)) [] := by
  refine fn0 mix [] 0 1 [.tmp 2] Try.func76 rfl (by kernel_rfl) (by kernel_rfl) rfl (by kernel_rfl) (by kernel_rfl) (by simp) ?_
  simp (implicitDefEqProofs := false) (disch := omega) only [go_sem, ↓reduceIte]
  refine loop (ι := Nat) 0 (fun j => pw j < n) (fun j => [(0, .int .i64 n), (3, .int .i64 (pw j))]) (fun j => []) (fun j => n - pw j) 0 [] [] (show 1 < n by omega) rfl ?_ ?_ ?_ (fun j hj => ?_)
  · simp (implicitDefEqProofs := false) (disch := omega) only [go_sem, ↓reduceIte]
  · simp (implicitDefEqProofs := false) (disch := omega) only [go_sem, ↓reduceIte, show pw 0 = 1 by rfl]
  · simp (implicitDefEqProofs := false) (disch := omega) only [go_sem, ↓reduceIte]
  have e := pw_succ j
  have hpp := pw_pos j
  simp (implicitDefEqProofs := false) (disch := omega) only [go_sem, ↓reduceIte]
  refine brd (fun h2 => ?_) (fun h2 => ?_)
  · simp (implicitDefEqProofs := false) (disch := omega) only [go_sem, ↓reduceIte, ← e]
    have hj2 : pw (j + 1) < n := by omega
    refine ⟨j + 1, [], [], [], hj2, by dsimp only; omega, rfl, ?_, ?_, ?_⟩ <;> simp (implicitDefEqProofs := false) (disch := omega) only [go_sem, ↓reduceIte, e]
  · have : halfN n = pw j := halfN_eq ⟨⟨j, rfl⟩, hj, by omega⟩ h
    rw [this]
    simp (implicitDefEqProofs := false) (disch := omega) only [go_sem, ↓reduceIte]
theorem refhalf_spec : ∀ (f n : Nat), n ≤ f → 2 ≤ n → n ≤ 1000 → FnC Try.prog 94 [.int .i64 n] [] (.int .i64 (halfN n)) [] := by
  intro f
  induction f with
  | zero => intro n h1 h2; omega
  | succ f ih =>
    intro n h1 h2 h3
    refine fn0 mix [] 0 1 [.tmp 2] Try.func94 rfl (by kernel_rfl) (by kernel_rfl) rfl (by kernel_rfl) (by kernel_rfl) (by simp) ?_
    simp (implicitDefEqProofs := false) (disch := omega) only [go_sem, ↓reduceIte]
    refine brd (fun h => ?_) (fun h => ?_)
    · obtain rfl : n = 2 := by omega
      have : halfN 2 = 1 := halfN_eq ⟨⟨0, rfl⟩, by decide, by decide⟩ (by decide)
      rw [this]
      simp (implicitDefEqProofs := false) (disch := omega) only [go_sem, ↓reduceIte]
    · have t3 : ((n : Int) + 1).tdiv 2 = ((n + 1) / 2 : Nat) := by rw [Int.tdiv_eq_ediv_of_nonneg (by omega)]; omega
      have hc := ih ((n + 1) / 2) (by omega) (by omega) (by omega)
      obtain ⟨⟨j, ej⟩, h4, h5⟩ := halfN_is (show 2 ≤ (n + 1) / 2 by omega)
      have : halfN n = 2 * halfN ((n + 1) / 2) := halfN_eq ⟨⟨j + 1, by rw [ej]; unfold pw; rw [Nat.pow_succ]; omega⟩, by omega, by omega⟩ h2
      rw [this]
      simp (implicitDefEqProofs := false) (disch := omega) only [go_sem, ↓reduceIte, t3]
      refine call0 hc ?_
      simp (implicitDefEqProofs := false) (disch := omega) only [go_sem, ↓reduceIte]
theorem leaf_spec19 (b : List Int) (n : Nat) (hn : b.length = n) (hb : ∀ x ∈ b, 0 ≤ x ∧ x < 256) (hl : n ≤ 100000) : FnC Try.prog 75 [.sl (.ints .u8 n b)] [] (.ints .u8 32 (leafL b)) [] := by
  have h1 := sums2 (a := [0]) (b := b) (by decide) hb (by rw [List.length_singleton]; omega)
  refine fn0 mix [] 0 1 [.cell 2 63] Try.func75 rfl (by kernel_rfl) (by kernel_rfl) rfl (by kernel_rfl) (by kernel_rfl) (by simp) ?_
  simp (implicitDefEqProofs := false) (disch := omega) only [go_sem, ↓reduceIte]
  refine callB h1 ?_ ?_
  · simp (implicitDefEqProofs := false) (disch := omega) only [go_sem, ↓reduceIte, bsl, hn]
  simp (implicitDefEqProofs := false) (disch := omega) only [go_sem, ↓reduceIte, leafL]
theorem node_spec17 (a b : List Int) (ha : goodD a) (hb : goodD b) : FnC Try.prog 77 [.ints .u8 32 a, .ints .u8 32 b] [] (.ints .u8 32 (nodeL a b)) [] := by
  have h1 := sums3 (a := [1]) (b := a) (c := b) (by decide) ha.2 hb.2 (by rw [List.length_singleton, ha.1, hb.1]; decide)
  have l1 := ha.1
  have l2 := hb.1
  refine fn0 mix pl77 0 2 [.cell 4 63] Try.func77 rfl (by kernel_rfl) (by kernel_rfl) rfl (by kernel_rfl) (by kernel_rfl) (by simp) ?_
  simp (implicitDefEqProofs := false) (disch := omega) only [go_sem, ↓reduceIte]
  refine callB h1 ?_ ?_
  · simp (implicitDefEqProofs := false) (disch := omega) only [go_sem, ↓reduceIte, bsl, l1, l2]
  simp (implicitDefEqProofs := false) (disch := omega) only [go_sem, ↓reduceIte, nodeL]
theorem refnode_spec17 (a b : List Int) (ha : goodD a) (hb : goodD b) : FnC Try.prog 113 [.ints .u8 32 a, .ints .u8 32 b] [] (.ints .u8 32 (nodeL a b)) [] := by
  have l1 := ha.1
  have l2 := hb.1
  have hb0 : ∀ x ∈ 1 :: (a ++ b), 0 ≤ x ∧ x < 256 := by
    intro x hx
    rcases List.mem_cons.1 hx with rfl | hx
    · decide
    · exact app_mem ha.2 hb.2 x hx
  have h1 := refsum_spec (1 :: (a ++ b)) hb0 (by rw [List.length_cons, List.length_append]; omega)
  have e1 : (1 :: (a ++ b)).length = 65 := by rw [List.length_cons, List.length_append]; omega
  rw [e1] at h1
  refine fn0 mix pl113 0 2 [.cell 4 63] Try.func113 rfl (by kernel_rfl) (by kernel_rfl) rfl (by kernel_rfl) (by kernel_rfl) (by simp) ?_
  simp (implicitDefEqProofs := false) (disch := omega) only [go_sem, ↓reduceIte]
  refine callB h1 ?_ ?_
  · simp (implicitDefEqProofs := false) (disch := omega) only [go_sem, ↓reduceIte, List.singleton_append, List.cons_append]
  simp (implicitDefEqProofs := false) (disch := omega) only [go_sem, ↓reduceIte, nodeL]
/-- The root of so many texts, from one on. -/
def rg (l : List (List Int)) (a n : Nat) : List Int :=
  if h0 : n = 0 then List.replicate 32 0 else if h1 : n = 1 then leafL (l.getD a []) else
    have h2 := halfN_lt (show 2 ≤ n by omega)
    nodeL (rg l a (halfN n)) (rg l (a + halfN n) (n - halfN n))
termination_by n
theorem rg_good (l : List (List Int)) : ∀ a n, goodD (rg l a n) := by
  intro a n
  rw [rg]
  split
  · exact ⟨rfl, by decide⟩
  · split
    · exact leafL_good _
    · exact nodeL_good _ _
theorem rg_two (l : List (List Int)) (a : Nat) {n : Nat} (h : 2 ≤ n) : rg l a n = nodeL (rg l a (halfN n)) (rg l (a + halfN n) (n - halfN n)) := by
  rw [rg, dif_neg (by omega), dif_neg (by omega)]
theorem rg_zero (l : List (List Int)) (a : Nat) : rg l a 0 = List.replicate 32 0 := by rw [rg, dif_pos rfl]
theorem rg_one (l : List (List Int)) (a : Nat) : rg l a 1 = leafL (l.getD a []) := by rw [rg, dif_neg (by decide), dif_pos rfl]
theorem rg_congr (l l' : List (List Int)) : ∀ (f n a a' : Nat), n ≤ f → (∀ i, i < n → l.getD (a + i) [] = l'.getD (a' + i) []) → rg l a n = rg l' a' n := by
  intro f
  induction f with
  | zero =>
    intro n a a' h _
    obtain rfl : n = 0 := by omega
    rw [rg_zero, rg_zero]
  | succ f ih =>
    intro n a a' h hi
    by_cases c0 : n = 0
    · subst c0; rw [rg_zero, rg_zero]
    by_cases c1 : n = 1
    · subst c1
      have := hi 0 (by decide)
      rw [Nat.add_zero, Nat.add_zero] at this
      rw [rg_one, rg_one, this]
    · have h2 := halfN_lt (show 2 ≤ n by omega)
      rw [rg_two l a (by omega), rg_two l' a' (by omega)]
      rw [ih (halfN n) a a' (by omega) (fun i h => hi i (by omega)), ih (n - halfN n) (a + halfN n) (a' + halfN n) (by omega) (fun i h => by
        have := hi (halfN n + i) (by omega)
        rw [← Nat.add_assoc, ← Nat.add_assoc] at this
        exact this)]
theorem take_getD' {l : List (List Int)} {k i : Nat} (h : i < k) : (l.take k).getD i [] = l.getD i [] := by
  simp only [List.getD, List.getElem?_take, if_pos h]
theorem drop_getD' (l : List (List Int)) (k i : Nat) : (l.drop k).getD i [] = l.getD (k + i) [] := by
  simp only [List.getD, List.getElem?_drop]
def textsP (l : List (List Int)) : Prop := ∀ b ∈ l, (∀ x ∈ b, 0 ≤ x ∧ x < 256) ∧ b.length ≤ 100000
theorem textsP_take {l : List (List Int)} (h : textsP l) (k : Nat) : textsP (l.take k) := fun b hb => h b (List.mem_of_mem_take hb)
theorem textsP_drop {l : List (List Int)} (h : textsP l) (k : Nat) : textsP (l.drop k) := fun b hb => h b (List.mem_of_mem_drop hb)
theorem textsP_at {l : List (List Int)} (h : textsP l) {i : Nat} (hi : i < l.length) : (∀ x ∈ l.getD i [], 0 ≤ x ∧ x < 256) ∧ (l.getD i []).length ≤ 100000 := by
  simp only [List.getD, List.getElem?_eq_getElem hi, Option.getD_some]
  exact h _ (List.getElem_mem hi)
theorem getB_map {l : List (List Int)} {i : Nat} (h : i < l.length) (K : AV → Prop) : getP (l.map bsl) i K = K (.sl (.ints .u8 (l.getD i []).length (l.getD i []))) := by
  refine getP_map (f := bsl) ?_ K
  simp only [List.getD, List.getElem?_eq_getElem h, Option.getD_some]
/-! What waits. -/
abbrev Wh := List Int × Nat
def whV (w : Wh) : AV := .agg [.ints .u8 32 w.1, .int .i64 w.2]
/-- A whole tree: its level, its place. -/
def blk (l : List (List Int)) : Nat → Nat → List Int
  | 0, q => leafL (l.getD q [])
  | k + 1, q => nodeL (blk l k (2 * q)) (blk l k (2 * q + 1))
theorem blk_good (l : List (List Int)) : ∀ k q, goodD (blk l k q)
  | 0, q => leafL_good _
  | k + 1, q => nodeL_good _ _
theorem halfN_pw (k : Nat) : halfN (pw (k + 1)) = pw k := by
  have e : pw (k + 1) = 2 * pw k := by unfold pw; rw [Nat.pow_succ]; omega
  have := pw_pos k
  exact halfN_eq ⟨⟨k, rfl⟩, by omega, by omega⟩ (by omega)
theorem rg_blk (l : List (List Int)) : ∀ k q, rg l (q * pw k) (pw k) = blk l k q
  | 0, q => by rw [show pw 0 = 1 by rfl, rg_one, Nat.mul_one]; rfl
  | k + 1, q => by
    have e : pw (k + 1) = 2 * pw k := by unfold pw; rw [Nat.pow_succ]; omega
    have hp := pw_pos k
    rw [rg_two l _ (by omega), halfN_pw, blk, ← rg_blk l k (2 * q), ← rg_blk l k (2 * q + 1)]
    have e1 : q * pw (k + 1) = 2 * q * pw k := by rw [e, ← Nat.mul_assoc, Nat.mul_comm q 2]
    have e2 : q * pw (k + 1) + pw k = (2 * q + 1) * pw k := by rw [e1, Nat.add_mul, Nat.one_mul]
    rw [e2, e1, show pw (k + 1) - pw k = pw k by omega]
/-- What waits behind so many whole trees of a level: the last one first. -/
def revS (l : List (List Int)) (lv q : Nat) : List Wh :=
  if h : q = 0 then [] else if q % 2 = 1 then (blk l lv (q - 1), pw lv) :: revS l (lv + 1) (q / 2) else revS l (lv + 1) (q / 2)
termination_by q
theorem revS_zero (l : List (List Int)) (lv : Nat) : revS l lv 0 = [] := by rw [revS, dif_pos rfl]
theorem revS_odd (l : List (List Int)) (lv : Nat) {q : Nat} (h : q % 2 = 1) : revS l lv q = (blk l lv (q - 1), pw lv) :: revS l (lv + 1) (q / 2) := by rw [revS, dif_neg (by omega), if_pos h]
theorem revS_even (l : List (List Int)) (lv : Nat) {q : Nat} (h : q % 2 = 0) : revS l lv q = revS l (lv + 1) (q / 2) := by
  by_cases h0 : q = 0
  · subst h0; rw [revS_zero, Nat.zero_div, revS_zero]
  · rw [revS, dif_neg h0, if_neg (by omega)]
theorem revS_len (l : List (List Int)) : ∀ (f lv q : Nat), q ≤ f → (revS l lv q).length ≤ q := by
  intro f
  induction f with
  | zero =>
    intro lv q h
    obtain rfl : q = 0 := by omega
    rw [revS_zero]; exact Nat.le_refl _
  | succ f ih =>
    intro lv q h
    by_cases h0 : q = 0
    · subst h0; rw [revS_zero]; exact Nat.le_refl _
    by_cases h1 : q % 2 = 1
    · rw [revS_odd l lv h1, List.length_cons]
      have := ih (lv + 1) (q / 2) (by omega)
      omega
    · rw [revS_even l lv (by omega)]
      have := ih (lv + 1) (q / 2) (by omega)
      omega
theorem revS_good (l : List (List Int)) : ∀ (f lv q : Nat), q ≤ f → ∀ w ∈ revS l lv q, goodD w.1 ∧ pw lv ≤ w.2 := by
  intro f
  induction f with
  | zero =>
    intro lv q h w hw
    obtain rfl : q = 0 := by omega
    rw [revS_zero] at hw; exact absurd hw List.not_mem_nil
  | succ f ih =>
    intro lv q h w hw
    by_cases h0 : q = 0
    · subst h0; rw [revS_zero] at hw; exact absurd hw List.not_mem_nil
    by_cases h1 : q % 2 = 1
    · rw [revS_odd l lv h1] at hw
      rcases List.mem_cons.1 hw with rfl | hw
      · exact ⟨blk_good _ _ _, Nat.le_refl _⟩
      · have := ih (lv + 1) (q / 2) (by omega) w hw
        exact ⟨this.1, Nat.le_trans (pw_le (by omega)) this.2⟩
    · rw [revS_even l lv (by omega)] at hw
      have := ih (lv + 1) (q / 2) (by omega) w hw
      exact ⟨this.1, Nat.le_trans (pw_le (by omega)) this.2⟩
/-- What comes of those that wait, from the last one on. -/
def foldW (l : List (List Int)) (N : Nat) : List Wh → Option (List Int) → List Int
  | [], none => List.replicate 32 0
  | [], some d => d
  | w :: ws, none => foldW l N ws (some w.1)
  | w :: ws, some d => foldW l N ws (some (nodeL w.1 d))
/-- What stands behind so many whole trees. -/
def tailO (l : List (List Int)) (a N : Nat) : Option (List Int) := if a = N then none else some (rg l a (N - a))
theorem fold_law (l : List (List Int)) (N : Nat) : ∀ (f lv q : Nat), q ≤ f → q * pw lv ≤ N → N < (q + 1) * pw lv → foldW l N (revS l lv q) (tailO l (q * pw lv) N) = rg l 0 N := by
  intro f
  have z0 : foldW l N [] (tailO l 0 N) = rg l 0 N := by
    unfold tailO
    by_cases c : 0 = N
    · rw [if_pos c, ← c, rg_zero]; rfl
    · rw [if_neg c, Nat.sub_zero]; rfl
  induction f with
  | zero =>
    intro lv q h h1 h2
    obtain rfl : q = 0 := by omega
    rw [revS_zero, Nat.zero_mul]; exact z0
  | succ f ih =>
    intro lv q h h1 h2
    have e : pw (lv + 1) = 2 * pw lv := by unfold pw; rw [Nat.pow_succ]; omega
    by_cases h0 : q = 0
    · subst h0; rw [revS_zero, Nat.zero_mul]; exact z0
    by_cases hq : q % 2 = 1
    · obtain ⟨m, rfl⟩ : ∃ m, q = 2 * m + 1 := ⟨q / 2, by omega⟩
      have e1 : (2 * m + 1) / 2 = m := by omega
      have e2 : 2 * m + 1 - 1 = 2 * m := by omega
      have m1 : (2 * m + 1) * pw lv = m * pw (lv + 1) + pw lv := by rw [e, Nat.add_mul, Nat.one_mul, Nat.mul_comm 2 m, Nat.mul_assoc]
      have m2 : (2 * m + 1 + 1) * pw lv = m * pw (lv + 1) + 2 * pw lv := by rw [Nat.add_mul, m1]; omega
      have m3 : (m + 1) * pw (lv + 1) = m * pw (lv + 1) + 2 * pw lv := by rw [Nat.add_mul, Nat.one_mul, e]
      have m4 : 2 * m * pw lv = m * pw (lv + 1) := by rw [e, Nat.mul_comm 2 m, Nat.mul_assoc]
      rw [revS_odd l lv hq, e1, e2]
      have hr := ih (lv + 1) m (by omega) (by omega) (by omega)
      have hb : blk l lv (2 * m) = rg l (m * pw (lv + 1)) (pw lv) := by rw [← rg_blk l lv (2 * m), m4]
      rw [← hr]
      have hp := pw_pos lv
      unfold tailO
      rw [if_neg (show ¬ m * pw (lv + 1) = N by omega), m1]
      by_cases c : m * pw (lv + 1) + pw lv = N
      · rw [if_pos c]
        show foldW l N _ (some (blk l lv (2 * m))) = _
        rw [hb, show N - m * pw (lv + 1) = pw lv by omega]
      · rw [if_neg c]
        show foldW l N _ (some (nodeL (blk l lv (2 * m)) _)) = _
        have hh : halfN (N - m * pw (lv + 1)) = pw lv := halfN_eq ⟨⟨lv, rfl⟩, by omega, by omega⟩ (by omega)
        rw [rg_two l (m * pw (lv + 1)) (n := N - m * pw (lv + 1)) (by omega), hh, hb, show N - (m * pw (lv + 1) + pw lv) = N - m * pw (lv + 1) - pw lv by omega]
    · obtain ⟨m, rfl⟩ : ∃ m, q = 2 * m := ⟨q / 2, by omega⟩
      have e1 : 2 * m / 2 = m := by omega
      have m4 : 2 * m * pw lv = m * pw (lv + 1) := by rw [e, Nat.mul_comm 2 m, Nat.mul_assoc]
      have m5 : (2 * m + 1) * pw lv = m * pw (lv + 1) + pw lv := by rw [Nat.add_mul, Nat.one_mul, m4]
      have m3 : (m + 1) * pw (lv + 1) = m * pw (lv + 1) + 2 * pw lv := by rw [Nat.add_mul, Nat.one_mul, e]
      have hr := ih (lv + 1) m (by omega) (by omega) (by omega)
      rw [revS_even l lv (by omega), e1, m4]
      exact hr
theorem getW_map {ws : List Wh} {i : Nat} {w : Wh} (h : ws[i]? = some w) (K : AV → Prop) : getP (ws.map whV) i K = K (.agg [.ints .u8 32 w.1, .int .i64 w.2]) := getP_map (f := whV) h K
theorem rev_last (w : Wh) (ws : List Wh) : (w :: ws).reverse[ws.length]? = some w := by
  rw [List.reverse_cons, List.getElem?_append_right (by rw [List.length_reverse]; exact Nat.le_refl _), List.length_reverse, Nat.sub_self]; rfl
end Go.Proofs.Ytegbkbkcfcjkbaa
