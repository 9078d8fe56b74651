/- The contracts of the package mac and of planchetref02. -/
import Derived.Test.YtclkaibkepaebaaRefSum
namespace Go.Proofs.Ytclkaibkepaebaa
open Go Go.Sy Go.Proofs.Try
set_option maxRecDepth 100000
set_option maxHeartbeats 8000000
set_option linter.unusedSimpArgs false
set_option linter.unusedVariables false

theorem sumD_len (X : List Int) : (sumD X).length = 32 := by
  show (bytesA _).length = 32
  rw [bytesA_len, runB_len _ init_len]
theorem bytesA_mem (ws : List Int) : ∀ x ∈ bytesA ws, 0 ≤ x ∧ x < 256 := by
  intro x hx
  obtain ⟨w, _, hx⟩ := List.mem_flatMap.1 hx
  exact be_mem _ _ x hx
theorem sumD_mem (X : List Int) : ∀ x ∈ sumD X, 0 ≤ x ∧ x < 256 := bytesA_mem _
theorem ixor_u8 {a b : Int} (ha : 0 ≤ a ∧ a < 256) (hb : 0 ≤ b ∧ b < 256) : ixor .u8 a b = ((a.toNat ^^^ b.toNat : Nat) : Int) ∧ 0 ≤ ixor .u8 a b ∧ ixor .u8 a b < 256 := by
  have e := ixor_nat (k := .u8) ha.1 (by show _ < (2 : Int) ^ 8; omega) hb.1 (by show _ < (2 : Int) ^ 8; omega)
  have h : a.toNat ^^^ b.toNat < 2 ^ 8 := Nat.xor_lt_two_pow (by omega) (by omega)
  rw [wrap_u8 (by omega) (by omega)] at e
  rw [e]
  omega
theorem ior_u8 {a b : Int} (ha : 0 ≤ a ∧ a < 256) (hb : 0 ≤ b ∧ b < 256) : ior .u8 a b = ((a.toNat ||| b.toNat : Nat) : Int) ∧ 0 ≤ ior .u8 a b ∧ ior .u8 a b < 256 := by
  have e := ior_nat (k := .u8) ha.1 (by show _ < (2 : Int) ^ 8; omega) hb.1 (by show _ < (2 : Int) ^ 8; omega)
  have h : a.toNat ||| b.toNat < 2 ^ 8 := Nat.or_lt_two_pow (by omega) (by omega)
  rw [wrap_u8 (by omega) (by omega)] at e
  rw [e]
  omega
theorem app_mem {p : Int → Prop} {a b : List Int} (ha : ∀ x ∈ a, p x) (hb : ∀ x ∈ b, p x) : ∀ x ∈ a ++ b, p x := fun x hx => by
  rcases List.mem_append.1 hx with hx | hx
  · exact ha x hx
  · exact hb x hx
theorem xor_zero_iff {x y : Nat} : x ^^^ y = 0 ↔ x = y := by
  constructor
  · intro h
    have e : (x ^^^ y) ^^^ y = x := by rw [Nat.xor_assoc, Nat.xor_self, Nat.xor_zero]
    rw [h, Nat.zero_xor] at e
    exact e.symm
  · intro h; rw [h, Nat.xor_self]
/-- A key's block. -/
def k64 (key : List Int) : List Int := if 64 < key.length then sumD key ++ List.replicate 32 0 else key ++ List.replicate (64 - key.length) 0
def pad (key : List Int) (x : Int) : List Int := (k64 key).map fun y => ixor .u8 y x
theorem k64_len (key : List Int) : (k64 key).length = 64 := by
  unfold k64
  split
  · simp [sumD_len]
  · simp; omega
theorem k64_mem {key : List Int} (h : ∀ x ∈ key, 0 ≤ x ∧ x < 256) : ∀ x ∈ k64 key, 0 ≤ x ∧ x < 256 := by
  intro x hx
  unfold k64 at hx
  split at hx
  · rcases List.mem_append.1 hx with hx | hx
    · exact sumD_mem _ x hx
    · rw [List.mem_replicate] at hx; omega
  · rcases List.mem_append.1 hx with hx | hx
    · exact h x hx
    · rw [List.mem_replicate] at hx; omega
theorem pad_len (key : List Int) (x : Int) : (pad key x).length = 64 := by rw [pad, List.length_map, k64_len]
theorem pad_mem {key : List Int} (h : ∀ x ∈ key, 0 ≤ x ∧ x < 256) {y : Int} (hy : 0 ≤ y ∧ y < 256) : ∀ x ∈ pad key y, 0 ≤ x ∧ x < 256 := by
  intro x hx
  obtain ⟨z, hz, rfl⟩ := List.mem_map.1 hx
  exact (ixor_u8 (k64_mem h z hz) hy).2
theorem pad_get (key : List Int) (x : Int) {i : Nat} (h : i < 64) : (pad key x).getD i 0 = ixor .u8 ((k64 key).getD i 0) x := by
  simp only [List.getD, pad, List.getElem?_map, List.getElem?_eq_getElem (show i < (k64 key).length by rw [k64_len]; exact h), Option.map_some, Option.getD_some]
theorem mix_get {a b : List Int} {i n : Nat} (ha : a.length = n) (hb : b.length = n) (h : i < n) : (a.take i ++ b.drop i).getD i 0 = b.getD i 0 := by
  simp only [List.getD]
  rw [List.getElem?_append_right (by rw [List.length_take]; omega), List.length_take, List.getElem?_drop]
  congr 2; omega
theorem mix_set {a b : List Int} {i n : Nat} (ha : a.length = n) (hb : b.length = n) (h : i < n) : (a.take i ++ b.drop i).set i (a.getD i 0) = a.take (i + 1) ++ b.drop (i + 1) := by
  have hd : b.drop i = b[i]'(by omega) :: b.drop (i + 1) := List.drop_eq_getElem_cons (by omega)
  have ht : (a.take i).length = i := by rw [List.length_take]; omega
  rw [hd, List.set_append_right _ _ (by omega), ht, Nat.sub_self, List.set_cons_zero, ← take_next (show i < a.length by omega), List.append_assoc]
  rfl
theorem sums2 {a b : List Int} (ha : ∀ x ∈ a, 0 ≤ x ∧ x < 256) (hb : ∀ x ∈ b, 0 ≤ x ∧ x < 256) (hn : a.length + b.length ≤ 1000000) : FnC Try.prog 94 [.sl (.lst 1 2 [bsl a, bsl b])] [] (.ints .u8 32 (sumD (a ++ b))) [] := by
  have := sums_spec [a, b] (by intro p hp; simp only [List.mem_cons, List.not_mem_nil, or_false] at hp; rcases hp with rfl | rfl <;> assumption) (by simpa [cat] using hn) (by simp)
  have hc : cat [a, b] = a ++ b := by simp [cat]
  rw [hc] at this
  exact this
/-- A text's code. -/
def code (key text : List Int) : List Int := sumD (pad key 92 ++ sumD (pad key 54 ++ text))
theorem code_ex : code [74, 101, 102, 101] [119, 104, 97, 116, 32, 100, 111, 32, 121, 97, 32, 119, 97, 110, 116, 32, 102, 111, 114, 32, 110, 111, 116, 104, 105, 110, 103, 63] =
    [91, 220, 193, 70, 191, 96, 117, 78, 106, 4, 36, 38, 8, 149, 117, 199, 90, 0, 63, 8, 157, 39, 57, 131, 157, 236, 88, 185, 100, 236, 56, 67] := by decide +kernel
/-- What is unlike, gathered. -/
def un (a b : List Int) : Nat → Int
  | 0 => 0
  | i + 1 => ior .u8 (un a b i) (ixor .u8 (a.getD i 0) (b.getD i 0))
theorem un_law {a b : List Int} (ha : ∀ x ∈ a, 0 ≤ x ∧ x < 256) (hb : ∀ x ∈ b, 0 ≤ x ∧ x < 256) : ∀ i, i ≤ a.length → i ≤ b.length → (0 ≤ un a b i ∧ un a b i < 256) ∧ (un a b i = 0 ↔ a.take i = b.take i)
  | 0, _, _ => by simp [un]
  | i + 1, h1, h2 => by
    obtain ⟨r, ih⟩ := un_law ha hb i (by omega) (by omega)
    have x := getD_all' ha (show i < a.length by omega)
    have y := getD_all' hb (show i < b.length by omega)
    obtain ⟨e1, r1⟩ := ixor_u8 x y
    obtain ⟨e2, r2⟩ := ior_u8 r r1
    refine ⟨by rw [un]; exact r2, ?_⟩
    have z : un a b (i + 1) = 0 ↔ un a b i = 0 ∧ a.getD i 0 = b.getD i 0 := by
      rw [un, e2]
      have o : ((un a b i).toNat ||| (ixor .u8 (a.getD i 0) (b.getD i 0)).toNat : Nat) = 0 ↔ (un a b i).toNat = 0 ∧ (ixor .u8 (a.getD i 0) (b.getD i 0)).toNat = 0 := Nat.or_eq_zero_iff
      have w : (a.getD i 0).toNat ^^^ (b.getD i 0).toNat = 0 ↔ (a.getD i 0).toNat = (b.getD i 0).toNat := xor_zero_iff
      omega
    rw [z, ih, ← take_next (show i < a.length by omega), ← take_next (show i < b.length by omega)]
    constructor
    · rintro ⟨h, h'⟩; rw [h, h']
    · intro h
      have hl : (a.take i).length = (b.take i).length := by rw [List.length_take, List.length_take]; omega
      obtain ⟨h3, h4⟩ := List.append_inj h hl
      exact ⟨h3, by simpa using h4⟩
end Go.Proofs.Ytclkaibkepaebaa
