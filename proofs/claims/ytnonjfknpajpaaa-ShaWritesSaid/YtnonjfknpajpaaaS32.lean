/- Numbers: shifts, masks. -/
import Derived.Test.YtnonjfknpajpaaaS31
namespace Go.Sy
open Go
set_option linter.unusedVariables false
theorem ishr_div (k : IntKind) (a : Int) (n : Nat) (h : n ≤ k.bits) : ishr k a n = a / 2 ^ n := by
  unfold ishr
  rw [Nat.min_eq_left h]
  exact Int.fdiv_eq_ediv_of_nonneg a (Int.le_of_lt (Int.pow_pos (by decide)))
theorem ofInt_toNat {w : Nat} {a : Int} (h : 0 ≤ a) (h' : a < 2 ^ w) : (BitVec.ofInt w a).toNat = a.toNat := by
  rw [BitVec.toNat_ofInt]
  rw [Int.emod_eq_of_lt h (by exact_mod_cast h')]
theorem iand_nat {k : IntKind} {a b : Int} (ha : 0 ≤ a) (ha' : a < 2 ^ k.bits) (hb : 0 ≤ b) (hb' : b < 2 ^ k.bits) : iand k a b = k.wrap ((a.toNat &&& b.toNat : Nat) : Int) := by
  unfold iand
  rw [BitVec.toNat_and, ofInt_toNat ha ha', ofInt_toNat hb hb']
theorem ior_nat {k : IntKind} {a b : Int} (ha : 0 ≤ a) (ha' : a < 2 ^ k.bits) (hb : 0 ≤ b) (hb' : b < 2 ^ k.bits) : ior k a b = k.wrap ((a.toNat ||| b.toNat : Nat) : Int) := by
  unfold ior
  rw [BitVec.toNat_or, ofInt_toNat ha ha', ofInt_toNat hb hb']
theorem and_mask (n j : Nat) : n &&& (2 ^ j - 1) = n % 2 ^ j := Nat.and_two_pow_sub_one_eq_mod n j
/-- A mask of low ones. -/
theorem iand_mask {k : IntKind} {a b : Int} (j : Nat) (hb : b = 2 ^ j - 1) (hj : j < k.bits) (ha : 0 ≤ a) (ha' : a < 2 ^ k.bits) : iand k a b = a % 2 ^ j := by
  have hp : (1 : Int) ≤ 2 ^ j := Int.pow_pos (by decide)
  have hlt : (2 : Int) ^ j < 2 ^ k.bits := by
    have := Nat.pow_lt_pow_right (show 1 < 2 by decide) hj
    exact_mod_cast this
  rw [iand_nat ha ha' (by omega) (by omega)]
  have e : b.toNat = 2 ^ j - 1 := by
    rw [hb]
    have : ((2 : Int) ^ j - 1) = ((2 ^ j - 1 : Nat) : Int) := by
      rw [Int.natCast_sub (Nat.one_le_two_pow)]
      simp
    rw [this, Int.toNat_natCast]
  rw [e, and_mask]
  have e2 : ((a.toNat % 2 ^ j : Nat) : Int) = a % 2 ^ j := by
    rw [Int.natCast_emod, Int.toNat_of_nonneg ha]
    simp
  rw [e2]
  have h0 : 0 ≤ a % 2 ^ j := Int.emod_nonneg _ (by omega)
  have h1 : a % 2 ^ j < 2 ^ j := Int.emod_lt_of_pos _ (by omega)
  have hh : (2 : Int) ^ j ≤ 2 ^ (k.bits - 1) := by
    have := Nat.pow_le_pow_right (show 0 < 2 by decide) (show j ≤ k.bits - 1 by omega)
    exact_mod_cast this
  unfold IntKind.wrap
  rw [Int.emod_eq_of_lt h0 (by omega)]
  simp only []
  rw [if_neg]
  simp only [Bool.and_eq_true, decide_eq_true_eq, not_and, ge_iff_le]
  intro _
  omega
end Go.Sy
