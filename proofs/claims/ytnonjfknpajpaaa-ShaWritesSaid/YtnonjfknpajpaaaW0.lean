/- Words of 32 bits as whole numbers: turned, chosen, joined. -/
import Derived.Test.YtnonjfknpajpaaaS32
namespace Go.Sy
open Go
set_option linter.unusedVariables false
theorem ixor_nat {k : IntKind} {a b : Int} (ha : 0 ≤ a) (ha' : a < 2 ^ k.bits) (hb : 0 ≤ b) (hb' : b < 2 ^ k.bits) : ixor k a b = k.wrap ((a.toNat ^^^ b.toNat : Nat) : Int) := by
  unfold ixor
  rw [BitVec.toNat_xor, ofInt_toNat ha ha', ofInt_toNat hb hb']
/-- A word. -/
def isW (a : Int) : Prop := 0 ≤ a ∧ a < 4294967296
theorem isW.nat {a : Int} (h : isW a) : a.toNat < 2 ^ 32 := by have := h.1; have := h.2; omega
theorem isW.of {n : Nat} (h : n < 2 ^ 32) : isW (n : Int) := ⟨by omega, by omega⟩
theorem wrapW {n : Nat} (h : n < 2 ^ 32) : IntKind.u32.wrap (n : Int) = n := wrap_u32 (by omega) (by omega)
theorem wrap_isW (n : Int) : isW (IntKind.u32.wrap n) := by
  have : IntKind.u32.wrap n = n % 4294967296 := by simp [IntKind.wrap, IntKind.signed, IntKind.bits]
  rw [this]
  exact ⟨by omega, by omega⟩
theorem andW {a b : Int} (ha : isW a) (hb : isW b) : iand .u32 a b = ((a.toNat &&& b.toNat : Nat) : Int) := by
  rw [iand_nat (k := .u32) ha.1 ha.2 hb.1 hb.2]
  exact wrapW (Nat.and_lt_two_pow _ hb.nat)
theorem orW {a b : Int} (ha : isW a) (hb : isW b) : ior .u32 a b = ((a.toNat ||| b.toNat : Nat) : Int) := by
  rw [ior_nat (k := .u32) ha.1 ha.2 hb.1 hb.2]
  exact wrapW (Nat.or_lt_two_pow ha.nat hb.nat)
theorem xorW {a b : Int} (ha : isW a) (hb : isW b) : ixor .u32 a b = ((a.toNat ^^^ b.toNat : Nat) : Int) := by
  rw [ixor_nat (k := .u32) ha.1 ha.2 hb.1 hb.2]
  exact wrapW (Nat.xor_lt_two_pow ha.nat hb.nat)
theorem and_isW {a b : Int} (ha : isW a) (hb : isW b) : isW (iand .u32 a b) := by rw [andW ha hb]; exact .of (Nat.and_lt_two_pow _ hb.nat)
theorem or_isW {a b : Int} (ha : isW a) (hb : isW b) : isW (ior .u32 a b) := by rw [orW ha hb]; exact .of (Nat.or_lt_two_pow ha.nat hb.nat)
theorem xor_isW {a b : Int} (ha : isW a) (hb : isW b) : isW (ixor .u32 a b) := by rw [xorW ha hb]; exact .of (Nat.xor_lt_two_pow ha.nat hb.nat)
theorem notW {a : Int} (ha : isW a) : inot .u32 a = 4294967295 - a := by
  have h0 := ha.1
  have h1 := ha.2
  have hM : isW 4294967295 := ⟨by decide, by decide⟩
  show ixor .u32 4294967295 a = _
  rw [xorW hM ha]
  have e : (4294967295 : Int).toNat ^^^ a.toNat = 4294967295 - a.toNat := by
    apply Nat.eq_of_testBit_eq
    intro i
    have hs := Nat.testBit_two_pow_sub_succ (x := a.toNat) (n := 32) ha.nat i
    have hm := Nat.testBit_two_pow_sub_one 32 i
    rw [show 4294967295 - a.toNat = 2 ^ 32 - (a.toNat + 1) by omega, hs, Nat.testBit_xor]
    rw [show (4294967295 : Int).toNat = 2 ^ 32 - 1 by decide, hm]
    by_cases hi : i < 32
    · simp [hi]
    · have : a.toNat.testBit i = false := Nat.testBit_lt_two_pow (Nat.lt_of_lt_of_le ha.nat (Nat.pow_le_pow_right (by decide) (by omega)))
      simp [hi, this]
  rw [e]
  omega
theorem not_isW {a : Int} (ha : isW a) : isW (4294967295 - a) := by have := ha.1; have := ha.2; exact ⟨by omega, by omega⟩
/-- The choice. -/
def chI (e f g : Int) : Int := ixor .u32 (iand .u32 e f) (iand .u32 (4294967295 - e) g)
/-- What two have. -/
def maI (a b c : Int) : Int := ixor .u32 (ixor .u32 (iand .u32 a b) (iand .u32 a c)) (iand .u32 b c)
theorem ch_isW {e f g : Int} (he : isW e) (hf : isW f) (hg : isW g) : isW (chI e f g) := xor_isW (and_isW he hf) (and_isW (not_isW he) hg)
theorem ma_isW {e f g : Int} (he : isW e) (hf : isW f) (hg : isW g) : isW (maI e f g) := xor_isW (xor_isW (and_isW he hf) (and_isW he hg)) (and_isW hf hg)
theorem ch_or {e f g : Int} (he : isW e) (hf : isW f) (hg : isW g) : ior .u32 (iand .u32 e f) (iand .u32 (inot .u32 e) g) = chI e f g := by
  have hn := not_isW he
  rw [notW he, chI, orW (and_isW he hf) (and_isW hn hg), xorW (and_isW he hf) (and_isW hn hg), andW he hf, andW hn hg]
  congr 1
  simp only [Int.toNat_natCast]
  apply Nat.eq_of_testBit_eq
  intro i
  have hs := Nat.testBit_two_pow_sub_succ (x := e.toNat) (n := 32) he.nat i
  have e2 : (4294967295 - e).toNat = 2 ^ 32 - (e.toNat + 1) := by have := he.1; have := he.2; omega
  simp only [Nat.testBit_or, Nat.testBit_xor, Nat.testBit_and, e2, hs]
  cases e.toNat.testBit i <;> cases f.toNat.testBit i <;> cases g.toNat.testBit i <;> simp
theorem ma_or {a b c : Int} (ha : isW a) (hb : isW b) (hc : isW c) : ior .u32 (ior .u32 (iand .u32 a b) (iand .u32 a c)) (iand .u32 b c) = maI a b c := by
  rw [maI, orW (or_isW (and_isW ha hb) (and_isW ha hc)) (and_isW hb hc), xorW (xor_isW (and_isW ha hb) (and_isW ha hc)) (and_isW hb hc), orW (and_isW ha hb) (and_isW ha hc), xorW (and_isW ha hb) (and_isW ha hc), andW ha hb, andW ha hc, andW hb hc]
  congr 1
  simp only [Int.toNat_natCast]
  apply Nat.eq_of_testBit_eq
  intro i
  simp only [Nat.testBit_or, Nat.testBit_xor, Nat.testBit_and]
  cases a.toNat.testBit i <;> cases b.toNat.testBit i <;> cases c.toNat.testBit i <;> simp
/-- A word turned right by the places that p has noughts, q the others. -/
def rot (p q x : Int) : Int := x / p + x % p * q
theorem rot_bound {p q x : Int} (h : p * q = 4294967296) (hp : 0 < p) (hq : 0 < q) (hx : isW x) : 0 ≤ x / p ∧ x / p < q ∧ 0 ≤ x % p * q ∧ x % p * q ≤ 4294967296 - q := by
  have h1 : x / p < q := Int.ediv_lt_of_lt_mul hp (by rw [Int.mul_comm, h]; exact hx.2)
  have h2 : x % p < p := Int.emod_lt_of_pos _ hp
  have h3 : 0 ≤ x % p := Int.emod_nonneg _ (by omega)
  have h4 : x % p * q ≤ (p - 1) * q := Int.mul_le_mul_of_nonneg_right (by omega) (by omega)
  have h5 : (p - 1) * q = 4294967296 - q := by rw [Int.sub_mul, h, Int.one_mul]
  exact ⟨Int.ediv_nonneg hx.1 (by omega), h1, Int.mul_nonneg h3 (by omega), by omega⟩
theorem rot_isW {p q x : Int} (h : p * q = 4294967296) (hp : 0 < p) (hq : 0 < q) (hx : isW x) : isW (rot p q x) := by
  obtain ⟨h1, h2, h3, h4⟩ := rot_bound h hp hq hx
  exact ⟨by unfold rot; omega, by unfold rot; omega⟩
theorem rot_right {p q x : Int} (h : p * q = 4294967296) (hp : 0 < p) (hq : 0 < q) (hx : isW x) : IntKind.u32.wrap (x.tdiv p + IntKind.u32.wrap (x.tmod p * q)) = rot p q x := by
  obtain ⟨h1, h2, h3, h4⟩ := rot_bound h hp hq hx
  rw [Int.tdiv_eq_ediv_of_nonneg hx.1, Int.tmod_eq_emod_of_nonneg hx.1, wrap_u32 (n := x % p * q) h3 (by omega), wrap_u32 (by omega) (by omega)]
  rfl
theorem rot_left {x : Int} (n m : Nat) (h : n + m = 32) (hx : isW x) : ior .u32 (ishl .u32 x m) (ishr .u32 x n) = rot (2 ^ n) (2 ^ m) x := by
  have hp : (0 : Int) < 2 ^ n := Int.pow_pos (by decide)
  have hq : (0 : Int) < 2 ^ m := Int.pow_pos (by decide)
  have hpq : (2 : Int) ^ n * 2 ^ m = 4294967296 := by rw [← Int.pow_add, h]; decide
  obtain ⟨h1, h2, h3, h4⟩ := rot_bound hpq hp hq hx
  have e1 : ishr .u32 x n = x / 2 ^ n := ishr_div _ _ n (by show n ≤ 32; omega)
  have e2 : ishl .u32 x m = x % 2 ^ n * 2 ^ m := by
    unfold ishl
    rw [Nat.min_eq_left (show m ≤ IntKind.u32.bits by show m ≤ 32; omega)]
    have : ∀ n, IntKind.u32.wrap n = n % 4294967296 := fun n => by simp [IntKind.wrap, IntKind.signed, IntKind.bits]
    rw [this, ← hpq, Int.mul_comm x, Int.mul_comm (2 ^ n), Int.mul_emod_mul_of_pos _ _ hq, Int.mul_comm]
  have w1 : isW (x % 2 ^ n * 2 ^ m) := ⟨h3, by omega⟩
  have w2 : isW (x / 2 ^ n) := ⟨h1, Int.lt_of_le_of_lt (Int.ediv_le_self _ hx.1) hx.2⟩
  rw [e1, e2, orW w1 w2]
  have hn : (x % 2 ^ n * 2 ^ m).toNat = (x % 2 ^ n).toNat <<< m := by
    rw [Nat.shiftLeft_eq]
    have : x % 2 ^ n * 2 ^ m = (((x % 2 ^ n).toNat * 2 ^ m : Nat) : Int) := by
      rw [Int.natCast_mul, Int.toNat_of_nonneg (Int.emod_nonneg _ (by omega))]
      simp
    rw [this, Int.toNat_natCast]
  have hb : (x / 2 ^ n).toNat < 2 ^ m := by
    have : ((2 ^ m : Nat) : Int) = 2 ^ m := by simp
    omega
  rw [hn, ← Nat.shiftLeft_add_eq_or_of_lt hb, Int.natCast_add, ← hn, Int.toNat_of_nonneg w1.1, Int.toNat_of_nonneg w2.1]
  unfold rot
  omega
end Go.Sy
