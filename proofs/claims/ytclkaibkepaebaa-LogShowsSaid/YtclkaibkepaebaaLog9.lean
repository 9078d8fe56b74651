/- What a log's ways show; the walk of LogShows. -/
import Derived.Test.YtclkaibkepaebaaLog8
namespace Go.Proofs.Ytclkaibkepaebaa
open Go Go.Sy Go.Proofs.Try
set_option maxRecDepth 100000
set_option maxHeartbeats 8000000
set_option linter.unusedSimpArgs false
set_option linter.unusedVariables false

theorem rg_halves (l : List (List Int)) {n : Nat} (hn : l.length = n) (h : 2 ≤ n) : rg l 0 n = nodeL (rg (l.take (halfN n)) 0 (halfN n)) (rg (l.drop (halfN n)) 0 (n - halfN n)) := by
  have hk := halfN_lt h
  rw [rg_two l 0 h]
  rw [rg_congr (l.take (halfN n)) l (halfN n) (halfN n) 0 0 (Nat.le_refl _) (fun i hi => take_getD' (by omega))]
  rw [rg_congr (l.drop (halfN n)) l (n - halfN n) (n - halfN n) 0 (0 + halfN n) (Nat.le_refl _) (fun i hi => by rw [drop_getD']; congr 1; omega)]
theorem getD_app_left {W V : List (List Int)} {j : Nat} (h : j < W.length) : (W ++ V).getD j [] = W.getD j [] := by
  simp only [List.getD, List.getElem?_append_left h]
theorem getD_app_end {W : List (List Int)} {x : List Int} {j : Nat} (h : j = W.length) : (W ++ [x]).getD j [] = x := by
  subst h
  simp only [List.getD, List.getElem?_append_right (Nat.le_refl _), Nat.sub_self]; rfl
theorem way_shows : ∀ (f : Nat) (l : List (List Int)) (n i : Nat), l.length = n → n ≤ f → 1 ≤ n → i < n → depH f n i = (wayF f l i).length ∧ upV (leafL (l.getD i [])) (wayF f l i) f n i = rg l 0 n := by
  intro f
  induction f with
  | zero => intro l n i h1 h2 h3; omega
  | succ f ih =>
    intro l n i hn h1 h2 h3
    by_cases c1 : n = 1
    · subst c1
      obtain rfl : i = 0 := by omega
      rw [depH_one, upV_one, wayF, if_pos (by omega), rg_one]
      exact ⟨rfl, rfl⟩
    have hk := halfN_lt (show 2 ≤ n by omega)
    rw [wayF, hn, if_neg (by omega)]
    rw [rg_halves l hn (by omega)]
    by_cases c2 : i < halfN n
    · rw [if_pos c2, depH_lo f (by omega) c2, upV_lo _ _ f (by omega) c2]
      obtain ⟨a1, a2⟩ := ih (l.take (halfN n)) (halfN n) i (by rw [List.length_take]; omega) (by omega) (by omega) c2
      rw [take_getD' c2] at a2
      refine ⟨by rw [List.length_append, List.length_singleton, a1], ?_⟩
      rw [getD_app_end a1, upV_congr _ _ (wayF f (l.take (halfN n)) i) f (halfN n) i (fun j hj => getD_app_left (by omega)), a2]
    · rw [if_neg c2, depH_hi f (by omega) c2, upV_hi _ _ f (by omega) c2]
      obtain ⟨a1, a2⟩ := ih (l.drop (halfN n)) (n - halfN n) (i - halfN n) (by rw [List.length_drop]; omega) (by omega) (by omega) (by omega)
      rw [drop_getD', show halfN n + (i - halfN n) = i by omega] at a2
      refine ⟨by rw [List.length_append, List.length_singleton, a1], ?_⟩
      rw [getD_app_end a1, upV_congr _ _ (wayF f (l.drop (halfN n)) (i - halfN n)) f (n - halfN n) (i - halfN n) (fun j hj => getD_app_left (by omega)), a2]
theorem rg_halves_m (l : List (List Int)) {n m : Nat} (hn : l.length = n) (h : 2 ≤ n) (hm : halfN n < m) (hmn : m ≤ n) : rg l 0 m = nodeL (rg (l.take (halfN n)) 0 (halfN n)) (rg (l.drop (halfN n)) 0 (m - halfN n)) := by
  have hk := halfN_lt h
  have hi := halfN_is h
  have e : halfN m = halfN n := halfN_eq ⟨hi.1, hm, by have := hi.2.2; omega⟩ (by omega)
  rw [rg_two l 0 (by omega), e]
  rw [rg_congr (l.take (halfN n)) l (halfN n) (halfN n) 0 0 (Nat.le_refl _) (fun i hi => take_getD' (by omega))]
  rw [rg_congr (l.drop (halfN n)) l (m - halfN n) (m - halfN n) 0 (0 + halfN n) (Nat.le_refl _) (fun i hi => by rw [drop_getD']; congr 1; omega)]
theorem rg_take (l : List (List Int)) {k m : Nat} (h : m ≤ k) : rg (l.take k) 0 m = rg l 0 m :=
  rg_congr (l.take k) l m m 0 0 (Nat.le_refl _) (fun i hi => take_getD' (by omega))
theorem from_shows (a : List Int) : ∀ (f : Nat) (l : List (List Int)) (n m : Nat) (cut : Bool), l.length = n → n ≤ f → 1 ≤ m → m ≤ n → (cut = false → a = rg l 0 m) →
    depG f m n cut = (fromF f l m cut).length ∧ groV a (fromF f l m cut) f m n cut = (rg l 0 m, rg l 0 n) := by
  intro f
  induction f with
  | zero => intro l n m cut h1 h2 h3; omega
  | succ f ih =>
    intro l n m cut hn h1 h2 h3 ha
    by_cases c1 : m = n
    · subst c1
      rw [depG_eq, groV_eq, fromF, hn, if_pos rfl]
      cases cut
      · rw [if_neg (by decide), if_neg (by decide), if_neg (by decide), ← ha rfl]
        exact ⟨rfl, rfl⟩
      · rw [if_pos rfl, if_pos rfl, if_pos rfl]
        exact ⟨rfl, rfl⟩
    have hk := halfN_lt (show 2 ≤ n by omega)
    rw [fromF, hn, if_neg c1]
    rw [rg_halves l hn (by omega)]
    by_cases c2 : m ≤ halfN n
    · rw [if_pos c2, depG_lo f cut c1 c2, groV_lo _ _ f cut c1 c2]
      obtain ⟨a1, a2⟩ := ih (l.take (halfN n)) (halfN n) m cut (by rw [List.length_take]; omega) (by omega) h2 c2 (fun h => by rw [rg_take l c2]; exact ha h)
      refine ⟨by rw [List.length_append, List.length_singleton, a1], ?_⟩
      rw [getD_app_end a1, groV_congr a _ (fromF f (l.take (halfN n)) m cut) f m (halfN n) cut (fun j hj => getD_app_left (by omega)), a2, rg_take l c2]
    · rw [if_neg c2, depG_hi f cut c1 c2, groV_hi _ _ f cut c1 c2]
      obtain ⟨a1, a2⟩ := ih (l.drop (halfN n)) (n - halfN n) (m - halfN n) true (by rw [List.length_drop]; omega) (by omega) (by omega) (by omega) (fun h => by cases h)
      refine ⟨by rw [List.length_append, List.length_singleton, a1], ?_⟩
      rw [getD_app_end a1, groV_congr a _ (fromF f (l.drop (halfN n)) (m - halfN n) true) f (m - halfN n) (n - halfN n) true (fun j hj => getD_app_left (by omega)), a2, rg_halves_m l hn (by omega) (by omega) h3]
theorem wayF_good : ∀ (f : Nat) (l : List (List Int)) (i : Nat), ∀ d ∈ wayF f l i, goodD d := by
  intro f
  induction f with
  | zero => intro l i d h; rw [wayF] at h; cases h
  | succ f ih =>
    intro l i d h
    rw [wayF] at h
    split at h
    · cases h
    split at h <;> rcases List.mem_append.1 h with h | h
    · exact ih _ _ d h
    · rw [List.mem_singleton] at h; subst h; exact rg_good _ _ _
    · exact ih _ _ d h
    · rw [List.mem_singleton] at h; subst h; exact rg_good _ _ _
theorem fromF_good : ∀ (f : Nat) (l : List (List Int)) (m : Nat) (cut : Bool), ∀ d ∈ fromF f l m cut, goodD d := by
  intro f
  induction f with
  | zero => intro l m cut d h; rw [fromF] at h; cases h
  | succ f ih =>
    intro l m cut d h
    rw [fromF] at h
    split at h
    · split at h
      · rw [List.mem_singleton] at h; subst h; exact rg_good _ _ _
      · cases h
    split at h <;> rcases List.mem_append.1 h with h | h
    · exact ih _ _ _ d h
    · rw [List.mem_singleton] at h; subst h; exact rg_good _ _ _
    · exact ih _ _ _ d h
    · rw [List.mem_singleton] at h; subst h; exact rg_good _ _ _
end Go.Proofs.Ytclkaibkepaebaa
