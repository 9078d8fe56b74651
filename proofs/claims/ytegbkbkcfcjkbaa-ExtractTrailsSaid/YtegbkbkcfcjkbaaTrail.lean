/- Trails of a log's ways: the plain laws. -/
import Derived.Test.YtegbkbkcfcjkbaaGL
namespace Go.Proofs.Ytegbkbkcfcjkbaa
open Go Go.Sy Go.Proofs.Try
set_option maxRecDepth 100000
set_option maxHeartbeats 8000000
set_option linter.unusedSimpArgs false
set_option linter.unusedVariables false

/-- The text of a node. -/
def pairL (a b : List Int) : List Int := 1 :: (a ++ b)
theorem sum_pair (a b : List Int) : sumD (pairL a b) = nodeL a b := rfl
theorem pair_inj_left {a b a' b' : List Int} (h : pairL a b = pairL a' b') (hl : a.length = a'.length) : a = a' ∧ b = b' := by
  unfold pairL at h
  exact List.append_inj (List.cons.inj h).2 hl
theorem pair_inj_right {a b a' b' : List Int} (h : pairL a b = pairL a' b') (hl : b.length = b'.length) : a = a' ∧ b = b' := by
  unfold pairL at h
  exact List.append_inj' (List.cons.inj h).2 hl
/-- The texts of the nodes above a leaf, from the top on. -/
def trailT (x : List Int) (W : List (List Int)) : Nat → Nat → Nat → List (List Int)
  | 0, _, _ => []
  | f + 1, n, i => if n ≤ 1 then [] else if i < halfN n then pairL (upV x W f (halfN n) i) (W.getD (depH f (halfN n) i) []) :: trailT x W f (halfN n) i
    else pairL (W.getD (depH f (n - halfN n) (i - halfN n)) []) (upV x W f (n - halfN n) (i - halfN n)) :: trailT x W f (n - halfN n) (i - halfN n)
/-- The like of a log that grows. -/
def growT (a : List Int) (W : List (List Int)) : Nat → Nat → Nat → Bool → List (List Int)
  | 0, _, _, _ => []
  | f + 1, m, n, cut => if m = n then [] else if m ≤ halfN n then pairL (groV a W f m (halfN n) cut).2 (W.getD (depG f m (halfN n) cut) []) :: growT a W f m (halfN n) cut
    else pairL (W.getD (depG f (m - halfN n) (n - halfN n) true) []) (groV a W f (m - halfN n) (n - halfN n) true).2 :: growT a W f (m - halfN n) (n - halfN n) true
theorem trailT_one (x : List Int) (W : List (List Int)) (f i : Nat) : trailT x W (f + 1) 1 i = [] := by rw [trailT, if_pos (Nat.le_refl 1)]
theorem trailT_lo (x : List Int) (W : List (List Int)) (f : Nat) {n i : Nat} (h : 2 ≤ n) (hi : i < halfN n) : trailT x W (f + 1) n i = pairL (upV x W f (halfN n) i) (W.getD (depH f (halfN n) i) []) :: trailT x W f (halfN n) i := by rw [trailT, if_neg (by omega), if_pos hi]
theorem trailT_hi (x : List Int) (W : List (List Int)) (f : Nat) {n i : Nat} (h : 2 ≤ n) (hi : ¬ i < halfN n) : trailT x W (f + 1) n i = pairL (W.getD (depH f (n - halfN n) (i - halfN n)) []) (upV x W f (n - halfN n) (i - halfN n)) :: trailT x W f (n - halfN n) (i - halfN n) := by rw [trailT, if_neg (by omega), if_neg hi]
theorem growT_lo (a : List Int) (W : List (List Int)) (f : Nat) {m n : Nat} (cut : Bool) (h : m ≠ n) (hi : m ≤ halfN n) : growT a W (f + 1) m n cut = pairL (groV a W f m (halfN n) cut).2 (W.getD (depG f m (halfN n) cut) []) :: growT a W f m (halfN n) cut := by rw [growT, if_neg h, if_pos hi]
theorem growT_hi (a : List Int) (W : List (List Int)) (f : Nat) {m n : Nat} (cut : Bool) (h : m ≠ n) (hi : ¬ m ≤ halfN n) : growT a W (f + 1) m n cut = pairL (W.getD (depG f (m - halfN n) (n - halfN n) true) []) (groV a W f (m - halfN n) (n - halfN n) true).2 :: growT a W f (m - halfN n) (n - halfN n) true := by rw [growT, if_neg h, if_neg hi]
/-- Where two rows part. -/
def PartsAt (T T' : List (List Int)) (p : Nat) : Prop := p < T.length ∧ p < T'.length ∧ (∀ j, j < p → T.getD j [] = T'.getD j []) ∧ T.getD p [] ≠ T'.getD p []
def Found (T T' : List (List Int)) : Prop := ∃ p, PartsAt T T' p ∧ sumD (T.getD p []) = sumD (T'.getD p [])
theorem found_head {h h' : List Int} {T T' : List (List Int)} (hs : sumD h = sumD h') (k : h = h' → Found T T') : Found (h :: T) (h' :: T') := by
  by_cases e : h = h'
  · obtain ⟨p, ⟨h1, h2, h3, h4⟩, h5⟩ := k e
    refine ⟨p + 1, ⟨by simpa using h1, by simpa using h2, fun j hj => ?_, by simpa using h4⟩, by simpa using h5⟩
    cases j with
    | zero => simpa using e
    | succ j => simpa using h3 j (by omega)
  · exact ⟨0, ⟨by simp, by simp, fun j hj => by omega, by simpa using e⟩, by simpa using hs⟩
theorem trail_found (b b' : List Int) (W W' : List (List Int)) (hb : b ≠ b') : ∀ (f n i : Nat), n ≤ f → 1 ≤ n → i < n → upV (sumD b) W f n i = upV (sumD b') W' f n i →
    Found (trailT (sumD b) W f n i ++ [b]) (trailT (sumD b') W' f n i ++ [b']) := by
  have g : ∀ c : List Int, goodD (sumD c) := fun c => ⟨sumD_len _, sumD_mem _⟩
  intro f
  induction f with
  | zero => intro n i h1 h2; omega
  | succ f ih =>
    intro n i h1 h2 h3 h
    by_cases c1 : n = 1
    · subst c1
      rw [upV_one, upV_one] at h
      rw [trailT_one, trailT_one]
      exact found_head h (fun e => absurd e hb)
    have hk := halfN_lt (show 2 ≤ n by omega)
    by_cases c2 : i < halfN n
    · rw [upV_lo _ _ f (by omega) c2, upV_lo _ _ f (by omega) c2, ← sum_pair, ← sum_pair] at h
      rw [trailT_lo _ _ f (by omega) c2, trailT_lo _ _ f (by omega) c2]
      refine found_head h (fun e => ih _ _ (by omega) (by omega) c2 ?_)
      exact (pair_inj_left e (by rw [(upV_good (g b) _ _ _).1, (upV_good (g b') _ _ _).1])).1
    · rw [upV_hi _ _ f (by omega) c2, upV_hi _ _ f (by omega) c2, ← sum_pair, ← sum_pair] at h
      rw [trailT_hi _ _ f (by omega) c2, trailT_hi _ _ f (by omega) c2]
      refine found_head h (fun e => ih _ _ (by omega) (by omega) (by omega) ?_)
      exact (pair_inj_right e (by rw [(upV_good (g b) _ _ _).1, (upV_good (g b') _ _ _).1])).2
theorem groV_good {a : List Int} (ha : goodD a) {W : List (List Int)} (hW : ∀ d ∈ W, goodD d) : ∀ (f m n : Nat) (cut : Bool), depG f m n cut ≤ W.length → goodD (groV a W f m n cut).1 ∧ goodD (groV a W f m n cut).2 := by
  intro f
  induction f with
  | zero => intro m n cut _; exact ⟨ha, ha⟩
  | succ f ih =>
    intro m n cut h
    by_cases c1 : m = n
    · subst c1
      rw [depG_eq] at h
      rw [groV_eq]
      cases cut
      · rw [if_neg (by decide)]; exact ⟨ha, ha⟩
      · rw [if_pos rfl] at h ⊢
        have := getD_good hW (show 0 < W.length by omega)
        exact ⟨this, this⟩
    by_cases c2 : m ≤ halfN n
    · rw [depG_lo f cut c1 c2] at h
      rw [groV_lo _ _ f cut c1 c2]
      exact ⟨(ih m (halfN n) cut (by omega)).1, nodeL_good _ _⟩
    · rw [groV_hi _ _ f cut c1 c2]
      exact ⟨nodeL_good _ _, nodeL_good _ _⟩
theorem grow_found {a a' : List Int} (ha : goodD a) (ha' : goodD a') {W W' : List (List Int)} (hW : ∀ d ∈ W, goodD d) (hW' : ∀ d ∈ W', goodD d) : ∀ (f m n : Nat) (cut : Bool), n ≤ f → 1 ≤ m → m ≤ n →
    depG f m n cut ≤ W.length → depG f m n cut ≤ W'.length → (groV a W f m n cut).2 = (groV a' W' f m n cut).2 → (groV a W f m n cut).1 ≠ (groV a' W' f m n cut).1 → Found (growT a W f m n cut) (growT a' W' f m n cut) := by
  intro f
  induction f with
  | zero => intro m n cut h1 h2; omega
  | succ f ih =>
    intro m n cut h1 h2 h3 h4 h5 h6 h7
    by_cases c1 : m = n
    · subst c1
      rw [groV_eq, groV_eq] at h6 h7
      cases cut
      · rw [if_neg (by decide), if_neg (by decide)] at h6 h7; exact absurd h6 h7
      · rw [if_pos rfl, if_pos rfl] at h6 h7; exact absurd h6 h7
    have hk := halfN_lt (show 2 ≤ n by omega)
    by_cases c2 : m ≤ halfN n
    · rw [depG_lo f cut c1 c2] at h4 h5
      rw [groV_lo _ _ f cut c1 c2, groV_lo _ _ f cut c1 c2] at h6 h7
      rw [growT_lo _ _ f cut c1 c2, growT_lo _ _ f cut c1 c2]
      refine found_head (by rw [sum_pair, sum_pair]; exact h6) (fun e => ih _ _ _ (by omega) h2 c2 (by omega) (by omega) ?_ h7)
      exact (pair_inj_left e (by rw [(groV_good ha hW _ _ _ _ (by omega)).2.1, (groV_good ha' hW' _ _ _ _ (by omega)).2.1])).1
    · rw [depG_hi f cut c1 c2] at h4 h5
      rw [groV_hi _ _ f cut c1 c2, groV_hi _ _ f cut c1 c2] at h6 h7
      rw [growT_hi _ _ f cut c1 c2, growT_hi _ _ f cut c1 c2]
      refine found_head (by rw [sum_pair, sum_pair]; exact h6) (fun e => ?_)
      have e := pair_inj_right e (by rw [(groV_good ha hW _ _ _ _ (by omega)).2.1, (groV_good ha' hW' _ _ _ _ (by omega)).2.1])
      refine ih _ _ _ (by omega) (by omega) (by omega) (by omega) (by omega) e.2 (fun h => h7 ?_)
      dsimp only
      rw [e.1, h]
/-! The way the code goes: from below on. -/
def stepT (W : List (List Int)) (r : Bool) (j : Nat) (x : List Int) : List Int := if r = true then pairL (W.getD j []) x else pairL x (W.getD j [])
def upTx (W : List (List Int)) : List Bool → Nat → List Int → List (List Int)
  | [], _, _ => []
  | r :: rs, j, x => stepT W r j x :: upTx W rs (j + 1) (sumD (stepT W r j x))
def upEnd (W : List (List Int)) : List Bool → Nat → List Int → List Int
  | [], _, x => x
  | r :: rs, j, x => upEnd W rs (j + 1) (sumD (stepT W r j x))
theorem up_snoc (W : List (List Int)) (r : Bool) : ∀ (rs : List Bool) (j : Nat) (x : List Int), upTx W (rs ++ [r]) j x = upTx W rs j x ++ [stepT W r (j + rs.length) (upEnd W rs j x)] ∧ upEnd W (rs ++ [r]) j x = sumD (stepT W r (j + rs.length) (upEnd W rs j x))
  | [], j, x => ⟨rfl, rfl⟩
  | q :: rs, j, x => by
    obtain ⟨h1, h2⟩ := up_snoc W r rs (j + 1) (sumD (stepT W q j x))
    have e : j + 1 + rs.length = j + (q :: rs).length := by simp only [List.length_cons]; omega
    rw [e] at h1 h2
    exact ⟨by rw [List.cons_append, upTx, h1]; rfl, by rw [List.cons_append, upEnd, h2]; rfl⟩
theorem upTx_len (W : List (List Int)) : ∀ (rs : List Bool) (j : Nat) (x : List Int), (upTx W rs j x).length = rs.length
  | [], _, _ => rfl
  | r :: rs, j, x => by rw [upTx, List.length_cons, upTx_len W rs, List.length_cons]
/-- The steps down to a place: right or not. -/
def downB : Nat → Nat → Nat → List Bool
  | 0, _, _ => []
  | f + 1, n, i => if n ≤ 1 then [] else if i < halfN n then false :: downB f (halfN n) i else true :: downB f (n - halfN n) (i - halfN n)
theorem downB_len : ∀ (f n i : Nat), (downB f n i).length = depH f n i
  | 0, _, _ => rfl
  | f + 1, n, i => by
    rw [downB, depH]
    by_cases c1 : n ≤ 1
    · rw [if_pos c1, if_pos c1]; rfl
    rw [if_neg c1, if_neg c1]
    by_cases c2 : i < halfN n
    · rw [if_pos c2, if_pos c2, List.length_cons, downB_len f]
    · rw [if_neg c2, if_neg c2, List.length_cons, downB_len f]
theorem way_up (x : List Int) (W : List (List Int)) : ∀ (f n i : Nat), upEnd W (downB f n i).reverse 0 x = upV x W f n i ∧ (upTx W (downB f n i).reverse 0 x).reverse = trailT x W f n i
  | 0, _, _ => ⟨rfl, rfl⟩
  | f + 1, n, i => by
    rw [downB, upV, trailT]
    by_cases c1 : n ≤ 1
    · rw [if_pos c1, if_pos c1, if_pos c1]; exact ⟨rfl, rfl⟩
    rw [if_neg c1, if_neg c1, if_neg c1]
    by_cases c2 : i < halfN n
    · rw [if_pos c2, if_pos c2, if_pos c2, List.reverse_cons, (up_snoc W _ _ _ _).1, (up_snoc W _ _ _ _).2, (way_up x W f (halfN n) i).1, List.reverse_append, (way_up x W f (halfN n) i).2, List.length_reverse, downB_len, Nat.zero_add]
      exact ⟨rfl, rfl⟩
    · rw [if_neg c2, if_neg c2, if_neg c2, List.reverse_cons, (up_snoc W _ _ _ _).1, (up_snoc W _ _ _ _).2, (way_up x W f (n - halfN n) (i - halfN n)).1, List.reverse_append, (way_up x W f (n - halfN n) (i - halfN n)).2, List.length_reverse, downB_len, Nat.zero_add]
      exact ⟨rfl, rfl⟩
/-- The steps to where a beginning is all that is below; whether one of them goes right. -/
def toB : Nat → Nat → Nat → List Bool
  | 0, _, _ => []
  | f + 1, m, n => if m = n then [] else if m ≤ halfN n then false :: toB f m (halfN n) else true :: toB f (m - halfN n) (n - halfN n)
def cutF : Nat → Nat → Nat → Bool → Bool
  | 0, _, _, cut => cut
  | f + 1, m, n, cut => if m = n then cut else if m ≤ halfN n then cutF f m (halfN n) cut else cutF f (m - halfN n) (n - halfN n) true
theorem toB_len : ∀ (f m n : Nat) (cut : Bool), n ≤ f → 1 ≤ m → m ≤ n → (toB f m n).length + (if cutF f m n cut = true then 1 else 0) = depG f m n cut
  | 0, m, n, cut, h1, h2, h3 => by omega
  | f + 1, m, n, cut, h1, h2, h3 => by
    by_cases c1 : m = n
    · subst c1
      rw [toB, cutF, if_pos rfl, if_pos rfl, depG_eq, List.length_nil, Nat.zero_add]
    have hk := halfN_lt (show 2 ≤ n by omega)
    rw [toB, cutF, if_neg c1, if_neg c1]
    by_cases c2 : m ≤ halfN n
    · rw [if_pos c2, if_pos c2, depG_lo f cut c1 c2, ← toB_len f m (halfN n) cut (by omega) h2 c2, List.length_cons]; omega
    · rw [if_neg c2, if_neg c2, depG_hi f cut c1 c2, ← toB_len f (m - halfN n) (n - halfN n) true (by omega) (by omega) (by omega), List.length_cons]; omega
/-- Where the way begins, and what is left of it. -/
def gro0 (a : List Int) (W : List (List Int)) (c : Bool) : List Int := if c = true then W.getD 0 [] else a
def groW (W : List (List Int)) (c : Bool) : List (List Int) := if c = true then W.drop 1 else W
theorem groW_getD (W : List (List Int)) (c : Bool) (j : Nat) : (groW W c).getD j [] = W.getD (j + if c = true then 1 else 0) [] := by
  unfold groW
  cases c
  · rw [if_neg (by decide), if_neg (by decide), Nat.add_zero]
  · rw [if_pos rfl, if_pos rfl, drop_getD']; congr 1; omega
theorem grow_up (a : List Int) (W : List (List Int)) : ∀ (f m n : Nat) (cut : Bool), n ≤ f → 1 ≤ m → m ≤ n → upEnd (groW W (cutF f m n cut)) (toB f m n).reverse 0 (gro0 a W (cutF f m n cut)) = (groV a W f m n cut).2 ∧
    (upTx (groW W (cutF f m n cut)) (toB f m n).reverse 0 (gro0 a W (cutF f m n cut))).reverse = growT a W f m n cut
  | 0, m, n, cut, h1, h2, h3 => by omega
  | f + 1, m, n, cut, h1, h2, h3 => by
    by_cases c1 : m = n
    · subst c1
      rw [toB, cutF, growT, if_pos rfl, if_pos rfl, if_pos rfl, groV_eq]
      refine ⟨?_, rfl⟩
      show gro0 a W cut = _
      unfold gro0
      cases cut <;> rfl
    have hk := halfN_lt (show 2 ≤ n by omega)
    rw [toB, cutF, growT, if_neg c1, if_neg c1, if_neg c1]
    by_cases c2 : m ≤ halfN n
    · obtain ⟨i1, i2⟩ := grow_up a W f m (halfN n) cut (by omega) h2 c2
      have hl := toB_len f m (halfN n) cut (by omega) h2 c2
      rw [if_pos c2, if_pos c2, if_pos c2, groV_lo a W f cut c1 c2, List.reverse_cons, (up_snoc _ _ _ _ _).1, (up_snoc _ _ _ _ _).2, i1, List.reverse_append, i2]
      unfold stepT
      rw [groW_getD, List.length_reverse, Nat.zero_add, hl]
      exact ⟨rfl, rfl⟩
    · obtain ⟨i1, i2⟩ := grow_up a W f (m - halfN n) (n - halfN n) true (by omega) (by omega) (by omega)
      have hl := toB_len f (m - halfN n) (n - halfN n) true (by omega) (by omega) (by omega)
      rw [if_neg c2, if_neg c2, if_neg c2, groV_hi a W f cut c1 c2, List.reverse_cons, (up_snoc _ _ _ _ _).1, (up_snoc _ _ _ _ _).2, i1, List.reverse_append, i2]
      unfold stepT
      rw [groW_getD, List.length_reverse, Nat.zero_add, hl]
      exact ⟨rfl, rfl⟩
end Go.Proofs.Ytegbkbkcfcjkbaa
