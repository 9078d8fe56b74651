/- The contracts of the package ltree and of planchetref09; the walks of LtreeMakes and LtreeFew. -/
import Derived.Test.YtegbkbkcfcjkbaaChain
import Derived.Test.YtegbkbkcfcjkbaaSig
import Derived.Test.YtegbkbkcfcjkbaaGG
namespace Go.Proofs.Ytegbkbkcfcjkbaa
open Go Go.Sy Go.Proofs.Try
set_option maxRecDepth 100000
set_option maxHeartbeats 8000000
set_option linter.unusedSimpArgs false
set_option linter.unusedVariables false

def goodD (d : List Int) : Prop := d.length = 32 ∧ ∀ x ∈ d, 0 ≤ x ∧ x < 256
def goodW (ws : List Int) : Prop := ws.length = 8 ∧ ∀ w ∈ ws, 0 ≤ w ∧ w < 4294967296
theorem goodW.set {ws : List Int} (h : goodW ws) (i : Nat) {x : Int} (hx : 0 ≤ x ∧ x < 4294967296) : goodW (ws.set i x) := by
  refine ⟨by rw [List.length_set]; exact h.1, fun y hy => ?_⟩
  rcases List.mem_or_eq_of_mem_set hy with hy | rfl
  · exact h.2 y hy
  · exact hx
theorem ofD_good (n : Int) (k m : List Int) : goodD (ofD n k m) := ⟨ofD_len _ _ _, ofD_mem _ _ _⟩
theorem maskD_good {a b : List Int} (ha : goodD a) (hb : goodD b) : goodD (maskD a b) := ⟨maskD_len ha.1 hb.1, maskD_mem ha.2 hb.2⟩
/-- A key, or a mask, of an address. -/
def keyW (pub ws : List Int) (w : Nat) : List Int := ofD 3 pub (bytesA (ws.set 7 w))
def joinD (a b pub ws : List Int) : List Int := ofD 1 (keyW pub ws 0) (maskD a (keyW pub ws 1) ++ maskD b (keyW pub ws 2))
theorem joinD_good (a b pub ws : List Int) : goodD (joinD a b pub ws) := ofD_good _ _ _
theorem keyW_good (pub ws : List Int) (w : Nat) : goodD (keyW pub ws w) := ofD_good _ _ _
def z32' : List Int := List.replicate 32 0
def keysW (pub ws : List Int) : Nat → List (List Int)
  | 0 => []
  | n + 1 => keysW pub ws n ++ [keyW pub ws n]
theorem keysW_len (pub ws : List Int) : ∀ n, (keysW pub ws n).length = n
  | 0 => rfl
  | n + 1 => by simp [keysW, keysW_len pub ws n]
theorem set_mid' {α : Type} (a : List α) (x y : α) (n i : Nat) (h : a.length = i) : (a ++ List.replicate (n + 1) x).set i y = (a ++ [y]) ++ List.replicate n x := by
  rw [List.set_append_right _ _ (by omega), h, Nat.sub_self, List.replicate_succ, List.set_cons_zero, List.append_assoc]
  rfl
theorem set_self {ws : List Int} {i : Nat} (h : i < ws.length) : ws.set i (ws.getD i 0) = ws := by
  simp only [List.getD, List.getElem?_eq_getElem h, Option.getD_some]
  exact List.set_getElem_self h
/-! A level. -/
def adrL (ws : List Int) (lv i : Nat) : List Int := ((ws.set 5 lv).set 6 i).set 7 0
theorem adrL_good {ws : List Int} (h : goodW ws) {lv i : Nat} (h1 : lv < 4294967296) (h2 : i < 4294967296) : goodW (adrL ws lv i) := ((h.set 5 (by omega)).set 6 (by omega)).set 7 (by omega)
/-- The joins of a level: so many. -/
def joins (pub ws : List Int) (lv : Nat) (row : List (List Int)) : Nat → List (List Int)
  | 0 => []
  | n + 1 => joins pub ws lv row n ++ [joinD (row.getD (2 * n) []) (row.getD (2 * n + 1) []) pub (adrL ws lv n)]
theorem joins_len (pub ws : List Int) (lv : Nat) (row : List (List Int)) : ∀ n, (joins pub ws lv row n).length = n
  | 0 => rfl
  | n + 1 => by simp [joins, joins_len pub ws lv row n]
theorem joins_good (pub ws : List Int) (lv : Nat) (row : List (List Int)) : ∀ n, ∀ d ∈ joins pub ws lv row n, goodD d
  | 0, d, h => by cases h
  | n + 1, d, h => by
    rcases List.mem_append.1 h with h | h
    · exact joins_good pub ws lv row n d h
    · rw [List.mem_singleton] at h; subst h; exact joinD_good _ _ _ _
def nextR (pub ws : List Int) (lv : Nat) (row : List (List Int)) : List (List Int) :=
  if row.length % 2 = 1 then joins pub ws lv row (row.length / 2) ++ [row.getD (row.length - 1) []] else joins pub ws lv row (row.length / 2)
theorem nextR_len (pub ws : List Int) (lv : Nat) (row : List (List Int)) : (nextR pub ws lv row).length = (row.length + 1) / 2 := by
  unfold nextR
  split
  · rw [List.length_append, joins_len, List.length_singleton]; omega
  · rw [joins_len]; omega
theorem getD_good {row : List (List Int)} (h : ∀ d ∈ row, goodD d) {i : Nat} (hi : i < row.length) : goodD (row.getD i []) := by
  simp only [List.getD, List.getElem?_eq_getElem hi, Option.getD_some]
  exact h _ (List.getElem_mem hi)
theorem nextR_good (pub ws : List Int) (lv : Nat) {row : List (List Int)} (h : ∀ d ∈ row, goodD d) : ∀ d ∈ nextR pub ws lv row, goodD d := by
  intro d hd
  unfold nextR at hd
  split at hd
  · rcases List.mem_append.1 hd with hd | hd
    · exact joins_good _ _ _ _ _ d hd
    · rw [List.mem_singleton] at hd; subst hd; exact getD_good h (by omega)
  · exact joins_good _ _ _ _ _ d hd
/-- What a row comes to, from a level on. -/
def upD (pub ws : List Int) : Nat → Nat → List (List Int) → List Int
  | 0, _, row => row.getD 0 []
  | f + 1, lv, row => if row.length ≤ 1 then row.getD 0 [] else upD pub ws f (lv + 1) (nextR pub ws lv row)
theorem upD_fuel (pub ws : List Int) : ∀ (f g lv : Nat) (row : List (List Int)), row.length ≤ f + 1 → row.length ≤ g + 1 → upD pub ws f lv row = upD pub ws g lv row
  | 0, 0, _, _, _, _ => rfl
  | 0, g + 1, lv, row, h, _ => by rw [upD, upD, if_pos (by omega)]
  | f + 1, 0, lv, row, _, h => by rw [upD, upD, if_pos (by omega)]
  | f + 1, g + 1, lv, row, h1, h2 => by
    rw [upD, upD]
    by_cases h : row.length ≤ 1
    · rw [if_pos h, if_pos h]
    · rw [if_neg h, if_neg h]
      have := nextR_len pub ws lv row
      exact upD_fuel pub ws f g (lv + 1) _ (by omega) (by omega)
def compressD (pub ws : List Int) (row : List (List Int)) : List Int := upD pub ws row.length 0 row
theorem upD_good (pub ws : List Int) : ∀ (f lv : Nat) {row : List (List Int)}, 1 ≤ row.length → (∀ d ∈ row, goodD d) → goodD (upD pub ws f lv row)
  | 0, _, row, h1, h => getD_good h (by omega)
  | f + 1, lv, row, h1, h => by
    rw [upD]
    split
    · exact getD_good h (by omega)
    · exact upD_good pub ws f (lv + 1) (by rw [nextR_len]; omega) (nextR_good pub ws lv h)
theorem compressD_good (pub ws : List Int) {row : List (List Int)} (h1 : 1 ≤ row.length) (h : ∀ d ∈ row, goodD d) : goodD (compressD pub ws row) := upD_good pub ws _ _ h1 h
theorem getD_some' {row : List (List Int)} {i : Nat} (h : i < row.length) : row[i]? = some (row.getD i []) := by
  simp only [List.getD, List.getElem?_eq_getElem h, Option.getD_some]
theorem wr_get {C P : List (List Int)} {i j : Nat} {d : List Int} (hi : i ≤ P.length) (hij : i ≤ j) (hj : C[j]? = some d) : (P.take i ++ C.drop i)[j]? = some d := by
  rw [List.getElem?_append_right (by rw [List.length_take]; omega), List.length_take, List.getElem?_drop, ← hj]
  congr 1; omega
theorem wr_set {C P : List (List Int)} {i : Nat} {d : List Int} (hd : P[i]? = some d) (hC : i < C.length) : ((P.take i ++ C.drop i).map dg).set i (dg d) = (P.take (i + 1) ++ C.drop (i + 1)).map dg := by
  have hi : i < P.length := by
    apply Classical.byContradiction; intro h
    rw [List.getElem?_eq_none (by omega)] at hd; cases hd
  have ht : (P.take i).length = i := by rw [List.length_take]; omega
  have e : (P.take i ++ C.drop i).set i d = P.take (i + 1) ++ C.drop (i + 1) := by
    rw [List.drop_eq_getElem_cons hC, List.set_append_right _ _ (by omega), ht, Nat.sub_self, List.set_cons_zero, List.take_add_one, hd, List.append_assoc]
    rfl
  rw [← e, List.map_set]
theorem joins_at (pub ws : List Int) (lv : Nat) (row : List (List Int)) : ∀ (n i : Nat), i < n → (joins pub ws lv row n)[i]? = some (joinD (row.getD (2 * i) []) (row.getD (2 * i + 1) []) pub (adrL ws lv i))
  | n + 1, i, h => by
    by_cases e : i = n
    · subst e
      rw [joins, List.getElem?_append_right (by rw [joins_len]; exact Nat.le_refl _), joins_len, Nat.sub_self]
      rfl
    · rw [joins, List.getElem?_append_left (by rw [joins_len]; omega)]
      exact joins_at pub ws lv row n i (by omega)
theorem joins_pre {pub ws : List Int} {lv : Nat} {row row' : List (List Int)} : ∀ (n : Nat), (∀ i, i < 2 * n → row.getD i [] = row'.getD i []) → joins pub ws lv row n = joins pub ws lv row' n
  | 0, _ => rfl
  | n + 1, h => by
    rw [joins, joins, joins_pre n (fun i hi => h i (by omega)), h (2 * n) (by omega), h (2 * n + 1) (by omega)]
theorem take_getD {C : List (List Int)} {m i : Nat} (h : i < m) : (C.take m).getD i [] = C.getD i [] := by
  simp only [List.getD, List.getElem?_take, if_pos h]
/-- A level's row in its place: so many places of a longer row. -/
def nextC (pub ws : List Int) (lv : Nat) (C : List (List Int)) (m : Nat) : List (List Int) :=
  if m % 2 = 1 then ((joins pub ws lv C (m / 2)) ++ C.drop (m / 2)).set (m / 2) (C.getD (m - 1) []) else joins pub ws lv C (m / 2) ++ C.drop (m / 2)
theorem nextC_len (pub ws : List Int) (lv : Nat) {C : List (List Int)} {m : Nat} (h : m ≤ C.length) : (nextC pub ws lv C m).length = C.length := by
  unfold nextC
  split
  · rw [List.length_set, List.length_append, joins_len, List.length_drop]; omega
  · rw [List.length_append, joins_len, List.length_drop]; omega
theorem nextC_take (pub ws : List Int) (lv : Nat) {C : List (List Int)} {m : Nat} (h : m ≤ C.length) (h1 : 1 ≤ m) : (nextC pub ws lv C m).take ((m + 1) / 2) = nextR pub ws lv (C.take m) := by
  have hl : (C.take m).length = m := by rw [List.length_take]; omega
  have hj : joins pub ws lv (C.take m) (m / 2) = joins pub ws lv C (m / 2) := joins_pre _ fun i hi => take_getD (by omega)
  have hjl := joins_len pub ws lv C (m / 2)
  unfold nextC nextR
  rw [hl, hj]
  split
  · rename_i ho
    have hd : C.drop (m / 2) = C[m / 2]'(by omega) :: C.drop (m / 2 + 1) := List.drop_eq_getElem_cons (by omega)
    rw [hd, List.set_append_right _ _ (by omega), hjl, Nat.sub_self, List.set_cons_zero, show (m + 1) / 2 = m / 2 + 1 by omega, take_getD (show m - 1 < m by omega)]
    have e : joins pub ws lv C (m / 2) ++ C.getD (m - 1) [] :: C.drop (m / 2 + 1) = (joins pub ws lv C (m / 2) ++ [C.getD (m - 1) []]) ++ C.drop (m / 2 + 1) := by rw [List.append_assoc]; rfl
    rw [e, List.take_append_of_le_length (by rw [List.length_append, hjl, List.length_singleton]; exact Nat.le_refl _), List.take_of_length_le (by rw [List.length_append, hjl, List.length_singleton]; exact Nat.le_refl _)]
  · rw [show (m + 1) / 2 = m / 2 by omega, List.take_append_of_le_length (by omega), List.take_of_length_le (by omega)]
theorem nextC_good (pub ws : List Int) (lv : Nat) {C : List (List Int)} {m : Nat} (h : m ≤ C.length) (h1 : 1 ≤ m) (hg : ∀ d ∈ C, goodD d) : ∀ d ∈ nextC pub ws lv C m, goodD d := by
  have base : ∀ d ∈ joins pub ws lv C (m / 2) ++ C.drop (m / 2), goodD d := fun d hd => by
    rcases List.mem_append.1 hd with hd | hd
    · exact joins_good _ _ _ _ _ d hd
    · exact hg d (List.mem_of_mem_drop hd)
  intro d hd
  unfold nextC at hd
  split at hd
  · rcases List.mem_or_eq_of_mem_set hd with hd | rfl
    · exact base d hd
    · exact getD_good hg (by omega)
  · exact base d hd
theorem seven_good : goodD (7 :: List.replicate 31 0) := ⟨rfl, by decide⟩
theorem zero_goodW : goodW (List.replicate 8 0) := ⟨rfl, by decide⟩
theorem zero_good : goodD (List.replicate 32 0) := ⟨rfl, by decide⟩
theorem digests_of {bs : Nat} {x : AV} (h : TD.has (.sl bs (.arr 32 (.int .u8))) x) : ∃ ds : List (List Int), x = .sl (.lst 32 ds.length (ds.map dg)) ∧ (∀ d ∈ ds, goodD d) ∧ ds.length ≤ 9223372036854775807 := by
  simp only [TD.has, TD.ik, TD.cs] at h
  obtain ⟨es, rfl, _, hl, he⟩ := h
  obtain ⟨ds, rfl, hd⟩ := ex_map' (f := dg) (Q := goodD) (es := es) (fun x hx => by
    obtain ⟨xs, rfl, h1, h2⟩ := he x hx
    exact ⟨xs, rfl, h1, fun y hy => wf_u8 (h2 y hy)⟩)
  exact ⟨ds, by simp, hd, by rw [List.length_map] at hl; exact hl⟩
end Go.Proofs.Ytegbkbkcfcjkbaa
