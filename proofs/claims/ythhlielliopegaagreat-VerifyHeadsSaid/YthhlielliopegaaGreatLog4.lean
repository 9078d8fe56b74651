/- Holds and Grows of the package log, and of planchetref19. -/
import Derived.Test.YthhlielliopegaaGreatLog3
namespace Go.Proofs.YthhlielliopegaaGreat
open Go Go.Sy Go.Proofs.Tryz
set_option maxRecDepth 100000
set_option maxHeartbeats 8000000
set_option linter.unusedSimpArgs false
set_option linter.unusedVariables false

/-- How many digests the way of a place has. -/
def depH : Nat → Nat → Nat → Nat
  | 0, _, _ => 0
  | f + 1, n, i => if n ≤ 1 then 0 else if i < halfN n then depH f (halfN n) i + 1 else depH f (n - halfN n) (i - halfN n) + 1
/-- Where a way leads to from a leaf. -/
def upV (x : List Int) (W : List (List Int)) : Nat → Nat → Nat → List Int
  | 0, _, _ => x
  | f + 1, n, i => if n ≤ 1 then x else if i < halfN n then nodeL (upV x W f (halfN n) i) (W.getD (depH f (halfN n) i) []) else nodeL (W.getD (depH f (n - halfN n) (i - halfN n)) []) (upV x W f (n - halfN n) (i - halfN n))
theorem upV_congr (x : List Int) (W W' : List (List Int)) : ∀ (f n i : Nat), (∀ j, j < depH f n i → W.getD j [] = W'.getD j []) → upV x W f n i = upV x W' f n i
  | 0, _, _, _ => rfl
  | f + 1, n, i, h => by
    rw [depH] at h
    rw [upV, upV]
    by_cases c : n ≤ 1
    · rw [if_pos c, if_pos c]
    rw [if_neg c, if_neg c]
    rw [if_neg c] at h
    by_cases c2 : i < halfN n
    · rw [if_pos c2, if_pos c2]
      rw [if_pos c2] at h
      rw [upV_congr x W W' f (halfN n) i (fun j hj => h j (by omega)), h (depH f (halfN n) i) (by omega)]
    · rw [if_neg c2, if_neg c2]
      rw [if_neg c2] at h
      rw [upV_congr x W W' f (n - halfN n) (i - halfN n) (fun j hj => h j (by omega)), h (depH f (n - halfN n) (i - halfN n)) (by omega)]
theorem drop_cons' {W : List (List Int)} {d : Nat} (h : d < W.length) : W.drop d = W.getD d [] :: W.drop (d + 1) := by
  rw [List.drop_eq_getElem_cons h]
  simp only [List.getD, List.getElem?_eq_getElem h, Option.getD_some]
theorem upV_good {x : List Int} (hx : goodD x) {W : List (List Int)} : ∀ (f n i : Nat), goodD (upV x W f n i)
  | 0, _, _ => hx
  | f + 1, n, i => by
    rw [upV]
    split
    · exact hx
    · split <;> exact nodeL_good _ _
theorem depH_one (f i : Nat) : depH (f + 1) 1 i = 0 := by rw [depH, if_pos (Nat.le_refl 1)]
theorem depH_lo (f : Nat) {n i : Nat} (h : 2 ≤ n) (hi : i < halfN n) : depH (f + 1) n i = depH f (halfN n) i + 1 := by rw [depH, if_neg (by omega), if_pos hi]
theorem depH_hi (f : Nat) {n i : Nat} (h : 2 ≤ n) (hi : ¬ i < halfN n) : depH (f + 1) n i = depH f (n - halfN n) (i - halfN n) + 1 := by rw [depH, if_neg (by omega), if_neg hi]
theorem upV_one (x : List Int) (W : List (List Int)) (f i : Nat) : upV x W (f + 1) 1 i = x := by rw [upV, if_pos (Nat.le_refl 1)]
theorem upV_lo (x : List Int) (W : List (List Int)) (f : Nat) {n i : Nat} (h : 2 ≤ n) (hi : i < halfN n) : upV x W (f + 1) n i = nodeL (upV x W f (halfN n) i) (W.getD (depH f (halfN n) i) []) := by rw [upV, if_neg (by omega), if_pos hi]
theorem upV_hi (x : List Int) (W : List (List Int)) (f : Nat) {n i : Nat} (h : 2 ≤ n) (hi : ¬ i < halfN n) : upV x W (f + 1) n i = nodeL (W.getD (depH f (n - halfN n) (i - halfN n)) []) (upV x W f (n - halfN n) (i - halfN n)) := by rw [upV, if_neg (by omega), if_neg hi]
def holdsP (d : List Int) (n i : Int) (b : List Int) (W : List (List Int)) : Prop := 1 ≤ n ∧ n ≤ 200 ∧ 0 ≤ i ∧ i < n ∧ depH n.toNat n.toNat i.toNat = W.length ∧ upV (leafL b) W n.toNat n.toNat i.toNat = d
instance (d : List Int) (n i : Int) (b : List Int) (W : List (List Int)) : Decidable (holdsP d n i b W) := by unfold holdsP; infer_instance
end Go.Proofs.YthhlielliopegaaGreat
