/- Shapes and signatures: the contracts of hyper.Right and Many, of planchetref11 and planchetref08.Same. -/
import Derived.Test.YtclkaibkepaebaaPack
namespace Go.Proofs.Ytclkaibkepaebaa
open Go Go.Sy Go.Proofs.Try
set_option maxRecDepth 100000
set_option maxHeartbeats 8000000
set_option linter.unusedSimpArgs false
set_option linter.unusedVariables false
attribute [go_sem] pl21 pl33 pl79
abbrev Part := List (List Int) × List (List Int)
def dg (d : List Int) : AV := .ints .u8 32 d
def pt (p : Part) : AV := .agg [.sl (.lst 32 p.1.length (p.1.map dg)), .sl (.lst 32 p.2.length (p.2.map dg))]
def rightP (a b : Int) : Prop := 1 ≤ a ∧ a ≤ 4 ∧ 1 ≤ b ∧ b ≤ 4
instance (a b : Int) : Decidable (rightP a b) := by unfold rightP; infer_instance
/-- How many indices a shape has. -/
def manyD (a b : Int) : Nat := if rightP a b then 2 ^ (a * b).toNat else 0
theorem mul_16 {a b : Int} (h : rightP a b) : 1 ≤ a * b ∧ a * b ≤ 16 := by
  obtain ⟨h1, h2, h3, h4⟩ := h
  have x1 : 0 ≤ (a - 1) * (b - 1) := Int.mul_nonneg (by omega) (by omega)
  have x2 : 0 ≤ (4 - a) * b := Int.mul_nonneg (by omega) (by omega)
  rw [Int.sub_mul, Int.mul_sub] at x1
  rw [Int.sub_mul] at x2
  omega
theorem manyD_le (a b : Int) : manyD a b ≤ 65536 := by
  unfold manyD
  split
  · rename_i h
    have := mul_16 h
    exact Nat.le_trans (Nat.pow_le_pow_right (show 0 < 2 by decide) (show (a * b).toNat ≤ 16 by omega)) (by decide)
  · omega
theorem manyD_pos {a b : Int} (h : rightP a b) : 0 < manyD a b := by
  unfold manyD
  rw [if_pos h]
  exact Nat.two_pow_pos _
theorem right_spec11 (a b : Int) : FnC Try.prog 63 [.agg [.int .i64 a, .int .i64 b]] [] (.bool (decide (rightP a b))) [] := by
  refine fn0 mix [] 0 1 [.tmp 2] Try.func63 rfl (by kernel_rfl) (by kernel_rfl) rfl (by kernel_rfl) (by kernel_rfl) (by simp) ?_
  simp (implicitDefEqProofs := false) (disch := omega) only [go_sem, ↓reduceIte]
  by_cases hr : rightP a b
  · obtain ⟨h1, h2, h3, h4⟩ := id hr
    have d1 : decide (1 ≤ a) = true := decide_eq_true h1
    have d2 : decide (a ≤ 4) = true := decide_eq_true h2
    have d3 : decide (1 ≤ b) = true := decide_eq_true h3
    have d4 : decide (b ≤ 4) = true := decide_eq_true h4
    have e : decide (rightP a b) = true := decide_eq_true hr
    simp (implicitDefEqProofs := false) (disch := omega) only [go_sem, ↓reduceIte, d1, d2, d3, d4, e]
  · have e : decide (rightP a b) = false := decide_eq_false hr
    unfold rightP at hr
    rw [e]
    simp (implicitDefEqProofs := false) (disch := omega) only [go_sem, ↓reduceIte]
    refine brd (fun h1 => ?_) (fun h1 => ?_)
    case' refine_2 => simp (implicitDefEqProofs := false) (disch := omega) only [go_sem, ↓reduceIte]
    simp (implicitDefEqProofs := false) (disch := omega) only [go_sem, ↓reduceIte]
    refine brd (fun h2 => ?_) (fun h2 => ?_)
    case' refine_2 => simp (implicitDefEqProofs := false) (disch := omega) only [go_sem, ↓reduceIte]
    simp (implicitDefEqProofs := false) (disch := omega) only [go_sem, ↓reduceIte]
    refine brd (fun h3 => ?_) (fun h3 => ?_)
    case' refine_2 => simp (implicitDefEqProofs := false) (disch := omega) only [go_sem, ↓reduceIte]
    have d4 : decide (b ≤ 4) = false := decide_eq_false (by omega)
    simp (implicitDefEqProofs := false) (disch := omega) only [go_sem, ↓reduceIte, d4]
theorem refright_spec (a b : Int) : FnC Try.prog 19 [.agg [.int .i64 a, .int .i64 b]] [] (.bool (decide (rightP a b))) [] := by
  refine fn0 mix [] 0 1 [.tmp 2] Try.func19 rfl (by kernel_rfl) (by kernel_rfl) rfl (by kernel_rfl) (by kernel_rfl) (by simp) ?_
  simp (implicitDefEqProofs := false) (disch := omega) only [go_sem, ↓reduceIte]
  by_cases hr : rightP a b
  · obtain ⟨h1, h2, h3, h4⟩ := id hr
    have d1 : decide (1 ≤ a) = true := decide_eq_true h1
    have d2 : decide (a ≤ 4) = true := decide_eq_true h2
    have d3 : decide (1 ≤ b) = true := decide_eq_true h3
    have d4 : decide (b ≤ 4) = true := decide_eq_true h4
    have e : decide (rightP a b) = true := decide_eq_true hr
    simp (implicitDefEqProofs := false) (disch := omega) only [go_sem, ↓reduceIte, d1, d2, d3, d4, e]
  · have e : decide (rightP a b) = false := decide_eq_false hr
    unfold rightP at hr
    rw [e]
    simp (implicitDefEqProofs := false) (disch := omega) only [go_sem, ↓reduceIte]
    refine brd (fun h1 => ?_) (fun h1 => ?_)
    case' refine_2 => simp (implicitDefEqProofs := false) (disch := omega) only [go_sem, ↓reduceIte]
    simp (implicitDefEqProofs := false) (disch := omega) only [go_sem, ↓reduceIte]
    refine brd (fun h2 => ?_) (fun h2 => ?_)
    case' refine_2 => simp (implicitDefEqProofs := false) (disch := omega) only [go_sem, ↓reduceIte]
    simp (implicitDefEqProofs := false) (disch := omega) only [go_sem, ↓reduceIte]
    refine brd (fun h3 => ?_) (fun h3 => ?_)
    case' refine_2 => simp (implicitDefEqProofs := false) (disch := omega) only [go_sem, ↓reduceIte]
    have d4 : decide (b ≤ 4) = false := decide_eq_false (by omega)
    simp (implicitDefEqProofs := false) (disch := omega) only [go_sem, ↓reduceIte, d4]
theorem pow_62 {n : Nat} (h : n ≤ 62) : (2 : Int) ^ n ≤ 4611686018427387904 ∧ 1 ≤ (2 : Int) ^ n := by
  have h1 := Nat.pow_le_pow_right (show 0 < 2 by decide) h
  have h2 := Nat.two_pow_pos n
  have e : (2 : Int) ^ n = ((2 ^ n : Nat) : Int) := by simp
  have e2 : (2 : Nat) ^ 62 = 4611686018427387904 := by decide
  omega
theorem shl_one {n : Nat} (h : n ≤ 62) : ishl .i64 1 n = 2 ^ n := by
  have hp := pow_62 h
  unfold ishl
  rw [Nat.min_eq_left (show n ≤ IntKind.i64.bits by show n ≤ 64; omega), Int.one_mul]
  exact wrap_i64 (by omega) (by omega)
theorem many_spec (a b : Int) : FnC Try.prog 62 [.agg [.int .i64 a, .int .i64 b]] [] (.int .i64 (manyD a b)) [] := by
  refine fn0 mix [] 0 1 [.tmp 2] Try.func62 rfl (by kernel_rfl) (by kernel_rfl) rfl (by kernel_rfl) (by kernel_rfl) (by simp) ?_
  simp (implicitDefEqProofs := false) (disch := omega) only [go_sem, ↓reduceIte]
  refine call0 (right_spec11 a b) ?_
  simp (implicitDefEqProofs := false) (disch := omega) only [go_sem, ↓reduceIte]
  refine brd (fun h => ?_) (fun h => ?_)
  · have hm := mul_16 h
    have e1 : ishl .i64 1 (a * b).toNat = (manyD a b : Int) := by
      rw [shl_one (by omega), manyD, if_pos h]; simp
    simp (implicitDefEqProofs := false) (disch := omega) only [go_sem, ↓reduceIte, e1]
    exact Int.le_trans (by decide) hm.1
  · have e1 : manyD a b = 0 := by rw [manyD, if_neg h]
    simp (implicitDefEqProofs := false) (disch := omega) only [go_sem, ↓reduceIte, e1]
theorem power_spec (n : Nat) (h : n ≤ 60) : FnC Try.prog 61 [.int .i64 n] [] (.int .i64 (2 ^ n)) [] := by
  refine fn0 mix [] 0 1 [.tmp 2] Try.func61 rfl (by kernel_rfl) (by kernel_rfl) rfl (by kernel_rfl) (by kernel_rfl) (by simp) ?_
  simp (implicitDefEqProofs := false) (disch := omega) only [go_sem, ↓reduceIte]
  refine loop (ι := Nat) 0 (fun i => i ≤ n) (fun i => [(0, .int .i64 n), (3, .int .i64 (2 ^ i)), (4, .int .i64 i)]) (fun i => []) (fun i => n - i) 0 [] [] (Nat.zero_le _) rfl ?_ ?_ ?_ (fun i hi => ?_)
  · simp (implicitDefEqProofs := false) (disch := omega) only [go_sem, ↓reduceIte]
  · simp (implicitDefEqProofs := false) (disch := omega) only [go_sem, ↓reduceIte, Int.pow_zero]
  · simp (implicitDefEqProofs := false) (disch := omega) only [go_sem, ↓reduceIte]
  simp (implicitDefEqProofs := false) (disch := omega) only [go_sem, ↓reduceIte]
  refine brd (fun h => ?_) (fun h => ?_)
  · have hp := pow_62 (show i ≤ 62 by omega)
    have hp2 := pow_62 (show i + 1 ≤ 62 by omega)
    have e : (2 : Int) ^ i * 2 = 2 ^ (i + 1) := (Int.pow_succ 2 i).symm
    simp (implicitDefEqProofs := false) (disch := omega) only [go_sem, ↓reduceIte, e]
    refine ⟨i + 1, [], [], [], by dsimp only; omega, by dsimp only; omega, rfl, ?_, ?_, ?_⟩ <;> simp (implicitDefEqProofs := false) (disch := omega) only [go_sem, ↓reduceIte]
  obtain rfl : i = n := by omega
  simp (implicitDefEqProofs := false) (disch := omega) only [go_sem, ↓reduceIte]
theorem refmany_spec (a b : Int) : FnC Try.prog 20 [.agg [.int .i64 a, .int .i64 b]] [] (.int .i64 (manyD a b)) [] := by
  refine fn0 mix [] 0 1 [.tmp 2] Try.func20 rfl (by kernel_rfl) (by kernel_rfl) rfl (by kernel_rfl) (by kernel_rfl) (by simp) ?_
  simp (implicitDefEqProofs := false) (disch := omega) only [go_sem, ↓reduceIte]
  refine call0 (refright_spec a b) ?_
  simp (implicitDefEqProofs := false) (disch := omega) only [go_sem, ↓reduceIte]
  refine brd (fun h => ?_) (fun h => ?_)
  · have hm := mul_16 h
    have e0 : a * b = ((a * b).toNat : Int) := by omega
    have e1 : (manyD a b : Int) = 2 ^ (a * b).toNat := by rw [manyD, if_pos h]; simp
    simp (implicitDefEqProofs := false) (disch := omega) only [go_sem, ↓reduceIte]
    rw [e0]
    refine call0 (power_spec (a * b).toNat (by omega)) ?_
    simp (implicitDefEqProofs := false) (disch := omega) only [go_sem, ↓reduceIte, e1, Int.toNat_natCast]
  · have e1 : manyD a b = 0 := by rw [manyD, if_neg h]
    simp (implicitDefEqProofs := false) (disch := omega) only [go_sem, ↓reduceIte, e1]
theorem take_next' {α : Type} {l : List α} {i : Nat} {x : α} (h : l[i]? = some x) : l.take (i + 1) = l.take i ++ [x] := by
  rw [List.take_add_one, h]; rfl
theorem take_eq {α : Type} {a b : List α} {i : Nat} {x y : α} (ha : a[i]? = some x) (hb : b[i]? = some y) (h : a.take i = b.take i) (e : x = y) : a.take (i + 1) = b.take (i + 1) := by
  rw [take_next' ha, take_next' hb, h, e]
theorem ne_of_at {α : Type} {a b : List α} {i : Nat} {x y : α} (ha : a[i]? = some x) (hb : b[i]? = some y) (e : x ≠ y) : a ≠ b := by
  intro h; subst h; rw [ha] at hb; exact e (Option.some.inj hb)
theorem same08_spec (a b : List (List Int)) (ha : a.length ≤ 9223372036854775807) : FnC Try.prog 33 [.sl (.lst 32 a.length (a.map dg)), .sl (.lst 32 b.length (b.map dg))] [] (.bool (decide (a = b))) [] := by
  refine fn0 mix pl33 0 2 [.tmp 4] Try.func33 rfl (by kernel_rfl) (by kernel_rfl) rfl (by kernel_rfl) (by kernel_rfl) (by simp) ?_
  simp (implicitDefEqProofs := false) (disch := omega) only [go_sem, ↓reduceIte]
  refine brd (fun h => ?_) (fun h => ?_)
  case' refine_2 =>
    have e : decide (a = b) = false := decide_eq_false (fun e => h (by rw [e]))
    simp (implicitDefEqProofs := false) (disch := omega) only [go_sem, ↓reduceIte, e]
  have hl : a.length = b.length := by omega
  simp (implicitDefEqProofs := false) (disch := omega) only [go_sem, ↓reduceIte]
  refine loop (ι := Nat) 0 (fun i => i ≤ a.length ∧ a.take i = b.take i) (fun i => [(0, .sl (.lst 32 a.length (a.map dg))), (1, .sl (.lst 32 b.length (b.map dg))), (5, .int .i64 i)]) (fun i => []) (fun i => a.length - i) 0 [] [] ⟨Nat.zero_le _, rfl⟩ rfl ?_ ?_ ?_ (fun i hi => ?_)
  · simp (implicitDefEqProofs := false) (disch := omega) only [go_sem, ↓reduceIte]
  · simp (implicitDefEqProofs := false) (disch := omega) only [go_sem, ↓reduceIte]
  · simp (implicitDefEqProofs := false) (disch := omega) only [go_sem, ↓reduceIte]
  obtain ⟨hi, ht⟩ := hi
  simp (implicitDefEqProofs := false) (disch := omega) only [go_sem, ↓reduceIte]
  refine brd (fun h => ?_) (fun h => ?_)
  · have ha' := List.getElem?_eq_getElem (show i < a.length by omega)
    have hb' := List.getElem?_eq_getElem (show i < b.length by omega)
    have g1 := fun K => getP_map (f := dg) ha' K
    have g2 := fun K => getP_map (f := dg) hb' K
    generalize a[i]'(show i < a.length by omega) = x at *
    generalize b[i]'(show i < b.length by omega) = y at *
    simp (implicitDefEqProofs := false) (disch := omega) only [go_sem, ↓reduceIte, g1, g2, dg]
    refine brd (fun h => ?_) (fun h => ?_)
    · simp (implicitDefEqProofs := false) (disch := omega) only [go_sem, ↓reduceIte]
      refine ⟨i + 1, [], [], [], ⟨by omega, take_eq ha' hb' ht h⟩, by dsimp only; omega, rfl, ?_, ?_, ?_⟩ <;> simp (implicitDefEqProofs := false) (disch := omega) only [go_sem, ↓reduceIte]
    · have e : decide (a = b) = false := decide_eq_false (ne_of_at ha' hb' h)
      simp (implicitDefEqProofs := false) (disch := omega) only [go_sem, ↓reduceIte, e]
  obtain rfl : i = a.length := by omega
  have e : decide (a = b) = true := decide_eq_true (by rw [List.take_of_length_le (Nat.le_refl _), List.take_of_length_le (by omega)] at ht; exact ht)
  simp (implicitDefEqProofs := false) (disch := omega) only [go_sem, ↓reduceIte, e]
def fewP (ps : List Part) : Prop := (∀ p ∈ ps, p.1.length ≤ 100 ∧ p.2.length ≤ 100) ∧ ps.length ≤ 20
instance (ps : List Part) : Decidable (fewP ps) := by unfold fewP; infer_instance
theorem all_take {α : Type} {p : α → Prop} {l : List α} {i : Nat} {x : α} (h : l[i]? = some x) (ht : ∀ y ∈ l.take i, p y) (hx : p x) : ∀ y ∈ l.take (i + 1), p y := by
  rw [take_next' h]
  intro y hy
  rcases List.mem_append.1 hy with hy | hy
  · exact ht y hy
  · rw [List.mem_singleton] at hy; rw [hy]; exact hx
theorem few11_spec (i : Int) (r : List Int) (ps : List Part) (hl : ps.length ≤ 9223372036854775807) : FnC Try.prog 24 [.agg [.int .i64 i, .ints .u8 32 r, .sl (.lst 2 ps.length (ps.map pt))]] [] (.bool (decide (fewP ps))) [] := by
  refine fn0 mix [] 0 1 [.tmp 2] Try.func24 rfl (by kernel_rfl) (by kernel_rfl) rfl (by kernel_rfl) (by kernel_rfl) (by simp) ?_
  simp (implicitDefEqProofs := false) (disch := omega) only [go_sem, ↓reduceIte]
  refine loop (ι := Nat) 1 (fun k => k ≤ ps.length ∧ ∀ p ∈ ps.take k, p.1.length ≤ 100 ∧ p.2.length ≤ 100) (fun k => [(1, .ref 0 []), (3, .int .i64 k)]) (fun k => [(0, .var (.agg [.int .i64 i, .ints .u8 32 r, .sl (.lst 2 ps.length (ps.map pt))]))]) (fun k => ps.length - k) 0 [(0, 0)] [] ⟨Nat.zero_le _, by simp⟩ rfl ?_ ?_ ?_ (fun k hk => ?_)
  · simp (implicitDefEqProofs := false) (disch := omega) only [go_sem, ↓reduceIte]
  · simp (implicitDefEqProofs := false) (disch := omega) only [go_sem, ↓reduceIte]
  · simp (implicitDefEqProofs := false) (disch := omega) only [go_sem, ↓reduceIte]
  obtain ⟨hk, ht⟩ := hk
  simp (implicitDefEqProofs := false) (disch := omega) only [go_sem, ↓reduceIte]
  refine brd (fun h => ?_) (fun h => ?_)
  · have hp := List.getElem?_eq_getElem (show k < ps.length by omega)
    have hmem := List.getElem_mem (show k < ps.length by omega)
    have hg := fun K => getP_map (f := pt) hp K
    generalize ps[k]'(show k < ps.length by omega) = p at *
    simp (implicitDefEqProofs := false) (disch := omega) only [go_sem, ↓reduceIte, hg, pt]
    refine brd (fun h1 => ?_) (fun h1 => ?_)
    · have e : decide (fewP ps) = false := decide_eq_false (fun e => by have := (e.1 p hmem).1; omega)
      simp (implicitDefEqProofs := false) (disch := omega) only [go_sem, ↓reduceIte, e]
    simp (implicitDefEqProofs := false) (disch := omega) only [go_sem, ↓reduceIte, hg, pt]
    refine brd (fun h2 => ?_) (fun h2 => ?_)
    · have e : decide (fewP ps) = false := decide_eq_false (fun e => by have := (e.1 p hmem).2; omega)
      simp (implicitDefEqProofs := false) (disch := omega) only [go_sem, ↓reduceIte, e]
    simp (implicitDefEqProofs := false) (disch := omega) only [go_sem, ↓reduceIte]
    refine ⟨k + 1, [(0, 0)], [], [], ⟨by omega, all_take hp ht ⟨by omega, by omega⟩⟩, by dsimp only; omega, rfl, ?_, ?_, ?_⟩ <;> simp (implicitDefEqProofs := false) (disch := omega) only [go_sem, ↓reduceIte]
  obtain rfl : k = ps.length := by omega
  rw [List.take_of_length_le (Nat.le_refl _)] at ht
  have e : decide ((ps.length : Int) ≤ 20) = decide (fewP ps) := decide_eq_decide.2 ⟨fun h => ⟨ht, by omega⟩, fun h => by have := h.2; omega⟩
  simp (implicitDefEqProofs := false) (disch := omega) only [go_sem, ↓reduceIte, e]
theorem same11_spec (i i' : Int) (r r' : List Int) (ps ps' : List Part) (hl : ps.length ≤ 1000000) (hp : ∀ p ∈ ps, p.1.length ≤ 1000000 ∧ p.2.length ≤ 1000000) :
    FnC Try.prog 21 [.agg [.int .i64 i, .ints .u8 32 r, .sl (.lst 2 ps.length (ps.map pt))], .agg [.int .i64 i', .ints .u8 32 r', .sl (.lst 2 ps'.length (ps'.map pt))]] [] (.bool (decide (i = i' ∧ r = r' ∧ ps = ps'))) [] := by
  refine fn0 mix pl21 0 2 [.tmp 4] Try.func21 rfl (by kernel_rfl) (by kernel_rfl) rfl (by kernel_rfl) (by kernel_rfl) (by simp) ?_
  simp (implicitDefEqProofs := false) (disch := omega) only [go_sem, ↓reduceIte]
  refine brd (fun h1 => ?_) (fun h1 => ?_)
  case' refine_2 =>
    have e : decide (i = i' ∧ r = r' ∧ ps = ps') = false := decide_eq_false (fun e => h1 e.1)
    simp (implicitDefEqProofs := false) (disch := omega) only [go_sem, ↓reduceIte, e]
  simp (implicitDefEqProofs := false) (disch := omega) only [go_sem, ↓reduceIte]
  refine brd (fun h2 => ?_) (fun h2 => ?_)
  case' refine_2 =>
    have e : decide (i = i' ∧ r = r' ∧ ps = ps') = false := decide_eq_false (fun e => h2 e.2.1)
    simp (implicitDefEqProofs := false) (disch := omega) only [go_sem, ↓reduceIte, e]
  simp (implicitDefEqProofs := false) (disch := omega) only [go_sem, ↓reduceIte]
  refine brd (fun h3 => ?_) (fun h3 => ?_)
  case' refine_2 =>
    have e : decide (i = i' ∧ r = r' ∧ ps = ps') = false := decide_eq_false (fun e => h3 (by rw [e.2.2]))
    simp (implicitDefEqProofs := false) (disch := omega) only [go_sem, ↓reduceIte, e]
  have hll : ps.length = ps'.length := by omega
  simp (implicitDefEqProofs := false) (disch := omega) only [go_sem, ↓reduceIte]
  refine loop (ι := Nat) 2 (fun k => k ≤ ps.length ∧ ps.take k = ps'.take k) (fun k => [(2, .ref 0 []), (3, .ref 1 []), (5, .int .i64 k)]) (fun k => [(0, .var (.agg [.int .i64 i, .ints .u8 32 r, .sl (.lst 2 ps.length (ps.map pt))])), (1, .var (.agg [.int .i64 i', .ints .u8 32 r', .sl (.lst 2 ps'.length (ps'.map pt))]))]) (fun k => ps.length - k) 0 [(0, 0), (1, 1)] [] ⟨Nat.zero_le _, rfl⟩ rfl ?_ ?_ ?_ (fun k hk => ?_)
  · simp (implicitDefEqProofs := false) (disch := omega) only [go_sem, ↓reduceIte]
  · simp (implicitDefEqProofs := false) (disch := omega) only [go_sem, ↓reduceIte]
  · simp (implicitDefEqProofs := false) (disch := omega) only [go_sem, ↓reduceIte]
  obtain ⟨hk, ht⟩ := hk
  simp (implicitDefEqProofs := false) (disch := omega) only [go_sem, ↓reduceIte]
  refine brd (fun h => ?_) (fun h => ?_)
  · have ha := List.getElem?_eq_getElem (show k < ps.length by omega)
    have hb := List.getElem?_eq_getElem (show k < ps'.length by omega)
    have hm := hp _ (List.getElem_mem (show k < ps.length by omega))
    have g1 := fun K => getP_map (f := pt) ha K
    have g2 := fun K => getP_map (f := pt) hb K
    generalize ps[k]'(show k < ps.length by omega) = p at *
    generalize ps'[k]'(show k < ps'.length by omega) = q at *
    simp (implicitDefEqProofs := false) (disch := omega) only [go_sem, ↓reduceIte, g1, g2, pt]
    refine call0 (same08_spec p.1 q.1 (by omega)) ?_
    simp (implicitDefEqProofs := false) (disch := omega) only [go_sem, ↓reduceIte]
    refine brd (fun h4 => ?_) (fun h4 => ?_)
    case' refine_2 =>
      have e : decide (i = i' ∧ r = r' ∧ ps = ps') = false := decide_eq_false (fun e => ne_of_at ha hb (fun e => h4 (by rw [e])) e.2.2)
      simp (implicitDefEqProofs := false) (disch := omega) only [go_sem, ↓reduceIte, e]
    simp (implicitDefEqProofs := false) (disch := omega) only [go_sem, ↓reduceIte, g1, g2, pt]
    refine call0 (same08_spec p.2 q.2 (by omega)) ?_
    simp (implicitDefEqProofs := false) (disch := omega) only [go_sem, ↓reduceIte]
    refine brd (fun h5 => ?_) (fun h5 => ?_)
    case' refine_2 =>
      have e : decide (i = i' ∧ r = r' ∧ ps = ps') = false := decide_eq_false (fun e => ne_of_at ha hb (fun e => h5 (by rw [e])) e.2.2)
      simp (implicitDefEqProofs := false) (disch := omega) only [go_sem, ↓reduceIte, e]
    simp (implicitDefEqProofs := false) (disch := omega) only [go_sem, ↓reduceIte]
    refine ⟨k + 1, [(0, 0), (1, 1)], [], [], ⟨by omega, take_eq ha hb ht (Prod.ext h4 h5)⟩, by dsimp only; omega, rfl, ?_, ?_, ?_⟩ <;> simp (implicitDefEqProofs := false) (disch := omega) only [go_sem, ↓reduceIte]
  obtain rfl : k = ps.length := by omega
  have e : decide (i = i' ∧ r = r' ∧ ps = ps') = true := decide_eq_true ⟨h1, h2, by rw [List.take_of_length_le (Nat.le_refl _), List.take_of_length_le (by omega)] at ht; exact ht⟩
  simp (implicitDefEqProofs := false) (disch := omega) only [go_sem, ↓reduceIte, e]
/-- Has a signature the parts that a shape asks for? -/
def formedP (a b i : Int) (ps : List Part) : Prop := 0 ≤ i ∧ i < manyD a b ∧ (ps.length : Int) = a ∧ ∀ p ∈ ps, p.1.length = 67 ∧ (p.2.length : Int) = b
instance (a b i : Int) (ps : List Part) : Decidable (formedP a b i ps) := by unfold formedP; infer_instance
theorem formed_spec (a b i : Int) (r : List Int) (ps : List Part) (hl : ps.length ≤ 9223372036854775807) : FnC Try.prog 79 [.agg [.int .i64 a, .int .i64 b], .agg [.int .i64 i, .ints .u8 32 r, .sl (.lst 2 ps.length (ps.map pt))]] [] (.bool (decide (formedP a b i ps))) [] := by
  refine fn0 mix pl79 0 2 [.tmp 4] Try.func79 rfl (by kernel_rfl) (by kernel_rfl) rfl (by kernel_rfl) (by kernel_rfl) (by simp) ?_
  simp (implicitDefEqProofs := false) (disch := omega) only [go_sem, ↓reduceIte]
  refine brd (fun h1 => ?_) (fun h1 => ?_)
  · have e : decide (formedP a b i ps) = false := decide_eq_false (fun e => by have := e.1; omega)
    simp (implicitDefEqProofs := false) (disch := omega) only [go_sem, ↓reduceIte, e]
  simp (implicitDefEqProofs := false) (disch := omega) only [go_sem, ↓reduceIte]
  refine call0 (refmany_spec a b) ?_
  simp (implicitDefEqProofs := false) (disch := omega) only [go_sem, ↓reduceIte]
  refine brd (fun h2 => ?_) (fun h2 => ?_)
  · have e : decide (formedP a b i ps) = false := decide_eq_false (fun e => by have := e.2.1; omega)
    simp (implicitDefEqProofs := false) (disch := omega) only [go_sem, ↓reduceIte, e]
  simp (implicitDefEqProofs := false) (disch := omega) only [go_sem, ↓reduceIte]
  refine brd (fun h3 => ?_) (fun h3 => ?_)
  case' refine_2 =>
    have e : decide (formedP a b i ps) = false := decide_eq_false (fun e => by have := e.2.2.1; omega)
    simp (implicitDefEqProofs := false) (disch := omega) only [go_sem, ↓reduceIte, e]
  simp (implicitDefEqProofs := false) (disch := omega) only [go_sem, ↓reduceIte]
  refine loop (ι := Nat) 2 (fun k => k ≤ ps.length ∧ ∀ p ∈ ps.take k, p.1.length = 67 ∧ (p.2.length : Int) = b) (fun k => [(2, .ref 0 []), (3, .ref 1 []), (5, .int .i64 k)]) (fun k => [(0, .var (.agg [.int .i64 a, .int .i64 b])), (1, .var (.agg [.int .i64 i, .ints .u8 32 r, .sl (.lst 2 ps.length (ps.map pt))]))]) (fun k => ps.length - k) 0 [(0, 0), (1, 1)] [] ⟨Nat.zero_le _, by simp⟩ rfl ?_ ?_ ?_ (fun k hk => ?_)
  · simp (implicitDefEqProofs := false) (disch := omega) only [go_sem, ↓reduceIte]
  · simp (implicitDefEqProofs := false) (disch := omega) only [go_sem, ↓reduceIte]
  · simp (implicitDefEqProofs := false) (disch := omega) only [go_sem, ↓reduceIte]
  obtain ⟨hk, ht⟩ := hk
  simp (implicitDefEqProofs := false) (disch := omega) only [go_sem, ↓reduceIte]
  refine brd (fun h => ?_) (fun h => ?_)
  · have hp := List.getElem?_eq_getElem (show k < ps.length by omega)
    have hmem := List.getElem_mem (show k < ps.length by omega)
    have hg := fun K => getP_map (f := pt) hp K
    generalize ps[k]'(show k < ps.length by omega) = p at *
    simp (implicitDefEqProofs := false) (disch := omega) only [go_sem, ↓reduceIte, hg, pt]
    refine brd (fun h4 => ?_) (fun h4 => ?_)
    case' refine_2 =>
      have e : decide (formedP a b i ps) = false := decide_eq_false (fun e => by have := (e.2.2.2 p hmem).1; omega)
      simp (implicitDefEqProofs := false) (disch := omega) only [go_sem, ↓reduceIte, e]
    simp (implicitDefEqProofs := false) (disch := omega) only [go_sem, ↓reduceIte, hg, pt]
    refine brd (fun h5 => ?_) (fun h5 => ?_)
    case' refine_2 =>
      have e : decide (formedP a b i ps) = false := decide_eq_false (fun e => by have := (e.2.2.2 p hmem).2; omega)
      simp (implicitDefEqProofs := false) (disch := omega) only [go_sem, ↓reduceIte, e]
    simp (implicitDefEqProofs := false) (disch := omega) only [go_sem, ↓reduceIte]
    refine ⟨k + 1, [(0, 0), (1, 1)], [], [], ⟨by omega, all_take hp ht ⟨by omega, by omega⟩⟩, by dsimp only; omega, rfl, ?_, ?_, ?_⟩ <;> simp (implicitDefEqProofs := false) (disch := omega) only [go_sem, ↓reduceIte]
  obtain rfl : k = ps.length := by omega
  rw [List.take_of_length_le (Nat.le_refl _)] at ht
  have e : decide (formedP a b i ps) = true := decide_eq_true ⟨by omega, by omega, h3, ht⟩
  simp (implicitDefEqProofs := false) (disch := omega) only [go_sem, ↓reduceIte, e]
end Go.Proofs.Ytclkaibkepaebaa
