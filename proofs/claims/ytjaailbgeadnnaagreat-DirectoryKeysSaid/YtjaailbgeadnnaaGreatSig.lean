/- Shapes and signatures: the contracts of hyper.Right and Many, of planchetref11 and planchetref08.Same. -/
import Derived.Test.YtjaailbgeadnnaaGreatPack
namespace Go.Proofs.YtjaailbgeadnnaaGreat
open Go Go.Sy Go.Proofs.Tryz
set_option maxRecDepth 100000
set_option maxHeartbeats 8000000
set_option linter.unusedSimpArgs false
set_option linter.unusedVariables false

abbrev Part := List (List Int) × List (List Int)
def dg (d : List Int) : AV := .ints .u8 32 d
def pt (p : Part) : AV := .agg [.sl (.lst 32 p.1.length (p.1.map dg)), .sl (.lst 32 p.2.length (p.2.map dg))]
def rightP (a b : Int) : Prop := 1 ≤ a ∧ a ≤ 4 ∧ 1 ≤ b ∧ b ≤ 4
instance (a b : Int) : Decidable (rightP a b) := by unfold rightP; infer_instance
/-- How many indices a shape has. -/
def manyD (a b : Int) : Nat := if rightP a b then 2 ^ (a * b).toNat else 0
theorem mul_16 {a b : Int} (h : rightP a b) : 1 ≤ a * b ∧ a * b ≤ 16 := by
  obtain ⟨h1, h2, h3, h4⟩ := h
  have x1 : 0 ≤ (a - 1) * (b - 1) := Int.mul_nonneg (by omega) (by omega)
  have x2 : 0 ≤ (4 - a) * b := Int.mul_nonneg (by omega) (by omega)
  rw [Int.sub_mul, Int.mul_sub] at x1
  rw [Int.sub_mul] at x2
  omega
theorem manyD_le (a b : Int) : manyD a b ≤ 65536 := by
  unfold manyD
  split
  · rename_i h
    have := mul_16 h
    exact Nat.le_trans (Nat.pow_le_pow_right (show 0 < 2 by decide) (show (a * b).toNat ≤ 16 by omega)) (by decide)
  · omega
theorem manyD_pos {a b : Int} (h : rightP a b) : 0 < manyD a b := by
  unfold manyD
  rw [if_pos h]
  exact Nat.two_pow_pos _
theorem right_spec11 (a b : Int) : FnC Tryz.prog 18 [.agg [.int .i64 a, .int .i64 b]] [] (.bool (decide (rightP a b))) [] := by
  refine fn0 mix [] 0 1 [.tmp 2] Tryz.func18 rfl (by kernel_rfl) (by kernel_rfl) rfl (by kernel_rfl) (by kernel_rfl) (by simp) ?_
  simp (implicitDefEqProofs := false) (disch := omega) only [go_sem, ↓reduceIte]
  by_cases hr : rightP a b
  · obtain ⟨h1, h2, h3, h4⟩ := id hr
    have d1 : decide (1 ≤ a) = true := decide_eq_true h1
    have d2 : decide (a ≤ 4) = true := decide_eq_true h2
    have d3 : decide (1 ≤ b) = true := decide_eq_true h3
    have d4 : decide (b ≤ 4) = true := decide_eq_true h4
    have e : decide (rightP a b) = true := decide_eq_true hr
    simp (implicitDefEqProofs := false) (disch := omega) only [go_sem, ↓reduceIte, d1, d2, d3, d4, e]
  · have e : decide (rightP a b) = false := decide_eq_false hr
    unfold rightP at hr
    rw [e]
    simp (implicitDefEqProofs := false) (disch := omega) only [go_sem, ↓reduceIte]
    refine brd (fun h1 => ?_) (fun h1 => ?_)
    case' refine_2 => simp (implicitDefEqProofs := false) (disch := omega) only [go_sem, ↓reduceIte]
    simp (implicitDefEqProofs := false) (disch := omega) only [go_sem, ↓reduceIte]
    refine brd (fun h2 => ?_) (fun h2 => ?_)
    case' refine_2 => simp (implicitDefEqProofs := false) (disch := omega) only [go_sem, ↓reduceIte]
    simp (implicitDefEqProofs := false) (disch := omega) only [go_sem, ↓reduceIte]
    refine brd (fun h3 => ?_) (fun h3 => ?_)
    case' refine_2 => simp (implicitDefEqProofs := false) (disch := omega) only [go_sem, ↓reduceIte]
    have d4 : decide (b ≤ 4) = false := decide_eq_false (by omega)
    simp (implicitDefEqProofs := false) (disch := omega) only [go_sem, ↓reduceIte, d4]
theorem refright_spec (a b : Int) : FnC Tryz.prog 13 [.agg [.int .i64 a, .int .i64 b]] [] (.bool (decide (rightP a b))) [] := by
  refine fn0 mix [] 0 1 [.tmp 2] Tryz.func13 rfl (by kernel_rfl) (by kernel_rfl) rfl (by kernel_rfl) (by kernel_rfl) (by simp) ?_
  simp (implicitDefEqProofs := false) (disch := omega) only [go_sem, ↓reduceIte]
  by_cases hr : rightP a b
  · obtain ⟨h1, h2, h3, h4⟩ := id hr
    have d1 : decide (1 ≤ a) = true := decide_eq_true h1
    have d2 : decide (a ≤ 4) = true := decide_eq_true h2
    have d3 : decide (1 ≤ b) = true := decide_eq_true h3
    have d4 : decide (b ≤ 4) = true := decide_eq_true h4
    have e : decide (rightP a b) = true := decide_eq_true hr
    simp (implicitDefEqProofs := false) (disch := omega) only [go_sem, ↓reduceIte, d1, d2, d3, d4, e]
  · have e : decide (rightP a b) = false := decide_eq_false hr
    unfold rightP at hr
    rw [e]
    simp (implicitDefEqProofs := false) (disch := omega) only [go_sem, ↓reduceIte]
    refine brd (fun h1 => ?_) (fun h1 => ?_)
    case' refine_2 => simp (implicitDefEqProofs := false) (disch := omega) only [go_sem, ↓reduceIte]
    simp (implicitDefEqProofs := false) (disch := omega) only [go_sem, ↓reduceIte]
    refine brd (fun h2 => ?_) (fun h2 => ?_)
    case' refine_2 => simp (implicitDefEqProofs := false) (disch := omega) only [go_sem, ↓reduceIte]
    simp (implicitDefEqProofs := false) (disch := omega) only [go_sem, ↓reduceIte]
    refine brd (fun h3 => ?_) (fun h3 => ?_)
    case' refine_2 => simp (implicitDefEqProofs := false) (disch := omega) only [go_sem, ↓reduceIte]
    have d4 : decide (b ≤ 4) = false := decide_eq_false (by omega)
    simp (implicitDefEqProofs := false) (disch := omega) only [go_sem, ↓reduceIte, d4]
theorem pow_62 {n : Nat} (h : n ≤ 62) : (2 : Int) ^ n ≤ 4611686018427387904 ∧ 1 ≤ (2 : Int) ^ n := by
  have h1 := Nat.pow_le_pow_right (show 0 < 2 by decide) h
  have h2 := Nat.two_pow_pos n
  have e : (2 : Int) ^ n = ((2 ^ n : Nat) : Int) := by simp
  have e2 : (2 : Nat) ^ 62 = 4611686018427387904 := by decide
  omega
theorem shl_one {n : Nat} (h : n ≤ 62) : ishl .i64 1 n = 2 ^ n := by
  have hp := pow_62 h
  unfold ishl
  rw [Nat.min_eq_left (show n ≤ IntKind.i64.bits by show n ≤ 64; omega), Int.one_mul]
  exact wrap_i64 (by omega) (by omega)
theorem many_spec (a b : Int) : FnC Tryz.prog 20 [.agg [.int .i64 a, .int .i64 b]] [] (.int .i64 (manyD a b)) [] := by
  refine fn0 mix [] 0 1 [.tmp 2] Tryz.func20 rfl (by kernel_rfl) (by kernel_rfl) rfl (by kernel_rfl) (by kernel_rfl) (by simp) ?_
  simp (implicitDefEqProofs := false) (disch := omega) only [go_sem, ↓reduceIte]
  refine call0 (right_spec11 a b) ?_
  simp (implicitDefEqProofs := false) (disch := omega) only [go_sem, ↓reduceIte]
  refine brd (fun h => ?_) (fun h => ?_)
  · have hm := mul_16 h
    have e1 : ishl .i64 1 (a * b).toNat = (manyD a b : Int) := by
      rw [shl_one (by omega), manyD, if_pos h]; simp
    simp (implicitDefEqProofs := false) (disch := omega) only [go_sem, ↓reduceIte, e1]
    exact Int.le_trans (by decide) hm.1
  · have e1 : manyD a b = 0 := by rw [manyD, if_neg h]
    simp (implicitDefEqProofs := false) (disch := omega) only [go_sem, ↓reduceIte, e1]
theorem power_spec (n : Nat) (h : n ≤ 60) : FnC Tryz.prog 34 [.int .i64 n] [] (.int .i64 (2 ^ n)) [] := by
  refine fn0 mix [] 0 1 [.tmp 2] Tryz.func34 rfl (by kernel_rfl) (by kernel_rfl) rfl (by kernel_rfl) (by kernel_rfl) (by simp) ?_
  simp (implicitDefEqProofs := false) (disch := omega) only [go_sem, ↓reduceIte]
  refine loop (ι := Nat) 0 (fun i => i ≤ n) (fun i => [(0, .int .i64 n), (3, .int .i64 (2 ^ i)), (4, .int .i64 i)]) (fun i => []) (fun i => n - i) 0 [] [] (Nat.zero_le _) rfl ?_ ?_ ?_ (fun i hi => ?_)
  · simp (implicitDefEqProofs := false) (disch := omega) only [go_sem, ↓reduceIte]
  · simp (implicitDefEqProofs := false) (disch := omega) only [go_sem, ↓reduceIte, Int.pow_zero]
  · simp (implicitDefEqProofs := false) (disch := omega) only [go_sem, ↓reduceIte]
  simp (implicitDefEqProofs := false) (disch := omega) only [go_sem, ↓reduceIte]
  refine brd (fun h => ?_) (fun h => ?_)
  · have hp := pow_62 (show i ≤ 62 by omega)
    have hp2 := pow_62 (show i + 1 ≤ 62 by omega)
    have e : (2 : Int) ^ i * 2 = 2 ^ (i + 1) := (Int.pow_succ 2 i).symm
    simp (implicitDefEqProofs := false) (disch := omega) only [go_sem, ↓reduceIte, e]
    refine ⟨i + 1, [], [], [], by dsimp only; omega, by dsimp only; omega, rfl, ?_, ?_, ?_⟩ <;> simp (implicitDefEqProofs := false) (disch := omega) only [go_sem, ↓reduceIte]
  obtain rfl : i = n := by omega
  simp (implicitDefEqProofs := false) (disch := omega) only [go_sem, ↓reduceIte]
theorem take_next' {α : Type} {l : List α} {i : Nat} {x : α} (h : l[i]? = some x) : l.take (i + 1) = l.take i ++ [x] := by
  rw [List.take_add_one, h]; rfl
theorem take_eq {α : Type} {a b : List α} {i : Nat} {x y : α} (ha : a[i]? = some x) (hb : b[i]? = some y) (h : a.take i = b.take i) (e : x = y) : a.take (i + 1) = b.take (i + 1) := by
  rw [take_next' ha, take_next' hb, h, e]
theorem ne_of_at {α : Type} {a b : List α} {i : Nat} {x y : α} (ha : a[i]? = some x) (hb : b[i]? = some y) (e : x ≠ y) : a ≠ b := by
  intro h; subst h; rw [ha] at hb; exact e (Option.some.inj hb)
def fewP (ps : List Part) : Prop := (∀ p ∈ ps, p.1.length ≤ 100 ∧ p.2.length ≤ 100) ∧ ps.length ≤ 20
instance (ps : List Part) : Decidable (fewP ps) := by unfold fewP; infer_instance
theorem all_take {α : Type} {p : α → Prop} {l : List α} {i : Nat} {x : α} (h : l[i]? = some x) (ht : ∀ y ∈ l.take i, p y) (hx : p x) : ∀ y ∈ l.take (i + 1), p y := by
  rw [take_next' h]
  intro y hy
  rcases List.mem_append.1 hy with hy | hy
  · exact ht y hy
  · rw [List.mem_singleton] at hy; rw [hy]; exact hx
/-- Has a signature the parts that a shape asks for? -/
def formedP (a b i : Int) (ps : List Part) : Prop := 0 ≤ i ∧ i < manyD a b ∧ (ps.length : Int) = a ∧ ∀ p ∈ ps, p.1.length = 67 ∧ (p.2.length : Int) = b
instance (a b i : Int) (ps : List Part) : Decidable (formedP a b i ps) := by unfold formedP; infer_instance
end Go.Proofs.YtjaailbgeadnnaaGreat
