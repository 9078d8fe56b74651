/- Shapes and signatures: the contracts of hyper.Right and Many, of planchetref11 and planchetref08.Same. -/
import Derived.Test.YtegbkbkcfcjkbaaPack
namespace Go.Proofs.Ytegbkbkcfcjkbaa
open Go Go.Sy Go.Proofs.Try
set_option maxRecDepth 100000
set_option maxHeartbeats 8000000
set_option linter.unusedSimpArgs false
set_option linter.unusedVariables false

abbrev Part := List (List Int) × List (List Int)
def dg (d : List Int) : AV := .ints .u8 32 d
def pt (p : Part) : AV := .agg [.sl (.lst 32 p.1.length (p.1.map dg)), .sl (.lst 32 p.2.length (p.2.map dg))]
def rightP (a b : Int) : Prop := 1 ≤ a ∧ a ≤ 4 ∧ 1 ≤ b ∧ b ≤ 4
instance (a b : Int) : Decidable (rightP a b) := by unfold rightP; infer_instance
/-- How many indices a shape has. -/
def manyD (a b : Int) : Nat := if rightP a b then 2 ^ (a * b).toNat else 0
theorem mul_16 {a b : Int} (h : rightP a b) : 1 ≤ a * b ∧ a * b ≤ 16 := by
  obtain ⟨h1, h2, h3, h4⟩ := h
  have x1 : 0 ≤ (a - 1) * (b - 1) := Int.mul_nonneg (by omega) (by omega)
  have x2 : 0 ≤ (4 - a) * b := Int.mul_nonneg (by omega) (by omega)
  rw [Int.sub_mul, Int.mul_sub] at x1
  rw [Int.sub_mul] at x2
  omega
theorem manyD_le (a b : Int) : manyD a b ≤ 65536 := by
  unfold manyD
  split
  · rename_i h
    have := mul_16 h
    exact Nat.le_trans (Nat.pow_le_pow_right (show 0 < 2 by decide) (show (a * b).toNat ≤ 16 by omega)) (by decide)
  · omega
theorem manyD_pos {a b : Int} (h : rightP a b) : 0 < manyD a b := by
  unfold manyD
  rw [if_pos h]
  exact Nat.two_pow_pos _
theorem pow_62 {n : Nat} (h : n ≤ 62) : (2 : Int) ^ n ≤ 4611686018427387904 ∧ 1 ≤ (2 : Int) ^ n := by
  have h1 := Nat.pow_le_pow_right (show 0 < 2 by decide) h
  have h2 := Nat.two_pow_pos n
  have e : (2 : Int) ^ n = ((2 ^ n : Nat) : Int) := by simp
  have e2 : (2 : Nat) ^ 62 = 4611686018427387904 := by decide
  omega
theorem shl_one {n : Nat} (h : n ≤ 62) : ishl .i64 1 n = 2 ^ n := by
  have hp := pow_62 h
  unfold ishl
  rw [Nat.min_eq_left (show n ≤ IntKind.i64.bits by show n ≤ 64; omega), Int.one_mul]
  exact wrap_i64 (by omega) (by omega)
theorem take_next' {α : Type} {l : List α} {i : Nat} {x : α} (h : l[i]? = some x) : l.take (i + 1) = l.take i ++ [x] := by
  rw [List.take_add_one, h]; rfl
theorem take_eq {α : Type} {a b : List α} {i : Nat} {x y : α} (ha : a[i]? = some x) (hb : b[i]? = some y) (h : a.take i = b.take i) (e : x = y) : a.take (i + 1) = b.take (i + 1) := by
  rw [take_next' ha, take_next' hb, h, e]
theorem ne_of_at {α : Type} {a b : List α} {i : Nat} {x y : α} (ha : a[i]? = some x) (hb : b[i]? = some y) (e : x ≠ y) : a ≠ b := by
  intro h; subst h; rw [ha] at hb; exact e (Option.some.inj hb)
def fewP (ps : List Part) : Prop := (∀ p ∈ ps, p.1.length ≤ 100 ∧ p.2.length ≤ 100) ∧ ps.length ≤ 20
instance (ps : List Part) : Decidable (fewP ps) := by unfold fewP; infer_instance
theorem all_take {α : Type} {p : α → Prop} {l : List α} {i : Nat} {x : α} (h : l[i]? = some x) (ht : ∀ y ∈ l.take i, p y) (hx : p x) : ∀ y ∈ l.take (i + 1), p y := by
  rw [take_next' h]
  intro y hy
  rcases List.mem_append.1 hy with hy | hy
  · exact ht y hy
  · rw [List.mem_singleton] at hy; rw [hy]; exact hx
/-- Has a signature the parts that a shape asks for? -/
def formedP (a b i : Int) (ps : List Part) : Prop := 0 ≤ i ∧ i < manyD a b ∧ (ps.length : Int) = a ∧ ∀ p ∈ ps, p.1.length = 67 ∧ (p.2.length : Int) = b
instance (a b i : Int) (ps : List Part) : Decidable (formedP a b i ps) := by unfold formedP; infer_instance
end Go.Proofs.Ytegbkbkcfcjkbaa
