/- The contracts of the package keyed and of planchetref05. -/
import Derived.Test.YtegbkbkcfcjkbaaMac
namespace Go.Proofs.Ytegbkbkcfcjkbaa
open Go Go.Sy Go.Proofs.Try
set_option maxRecDepth 100000
set_option maxHeartbeats 8000000
set_option linter.unusedSimpArgs false
set_option linter.unusedVariables false

/-- The sum of a number ahead, a key and a text. -/
def ofD (n : Int) (key m : List Int) : List Int := sumD (be n 32 ++ (key ++ m))
theorem ofD_len (n : Int) (key m : List Int) : (ofD n key m).length = 32 := sumD_len _
theorem ofD_mem (n : Int) (key m : List Int) : ∀ x ∈ ofD n key m, 0 ≤ x ∧ x < 256 := sumD_mem _
def maskD (a b : List Int) : List Int := List.zipWith (ixor .u8) a b
theorem maskD_len {a b : List Int} (ha : a.length = 32) (hb : b.length = 32) : (maskD a b).length = 32 := by simp [maskD, ha, hb]
theorem maskD_get {a b : List Int} {i : Nat} (ha : i < a.length) (hb : i < b.length) : (maskD a b).getD i 0 = ixor .u8 (a.getD i 0) (b.getD i 0) := by
  simp [maskD, List.getD, List.getElem?_zipWith, List.getElem?_eq_getElem ha, List.getElem?_eq_getElem hb]
theorem maskD_mem : ∀ {a b : List Int}, (∀ x ∈ a, 0 ≤ x ∧ x < 256) → (∀ x ∈ b, 0 ≤ x ∧ x < 256) → ∀ x ∈ maskD a b, 0 ≤ x ∧ x < 256
  | [], _, _, _, x, h => by simp [maskD] at h
  | _ :: _, [], _, _, x, h => by simp [maskD] at h
  | u :: a, v :: b, ha, hb, x, h => by
    simp only [maskD, List.zipWith_cons_cons, List.mem_cons] at h
    rcases h with rfl | h
    · exact (ixor_u8 (ha u (by simp)) (hb v (by simp))).2
    · exact maskD_mem (fun z hz => ha z (by simp [hz])) (fun z hz => hb z (by simp [hz])) x h
theorem maskD_twice : ∀ {a b : List Int}, a.length = b.length → (∀ x ∈ a, 0 ≤ x ∧ x < 256) → (∀ x ∈ b, 0 ≤ x ∧ x < 256) → maskD (maskD a b) b = a
  | [], [], _, _, _ => rfl
  | u :: a, v :: b, hl, ha, hb => by
    have ih := maskD_twice (a := a) (b := b) (by simpa using hl) (fun z hz => ha z (by simp [hz])) (fun z hz => hb z (by simp [hz]))
    have hu := ha u (by simp)
    have hv := hb v (by simp)
    obtain ⟨e1, r1⟩ := ixor_u8 hu hv
    obtain ⟨e2, _⟩ := ixor_u8 r1 hv
    have e3 : (u.toNat ^^^ v.toNat) ^^^ v.toNat = u.toNat := by rw [Nat.xor_assoc, Nat.xor_self, Nat.xor_zero]
    simp only [maskD, List.zipWith_cons_cons] at ih ⊢
    rw [ih, e2, e1, Int.toNat_natCast, e3]
    congr 1; omega
theorem be_mem' (n : Int) (c : Nat) : ∀ x ∈ be n c, 0 ≤ x ∧ x < 256 := be_mem n c
theorem sums3 {a b c : List Int} (ha : ∀ x ∈ a, 0 ≤ x ∧ x < 256) (hb : ∀ x ∈ b, 0 ≤ x ∧ x < 256) (hc : ∀ x ∈ c, 0 ≤ x ∧ x < 256) (hn : a.length + b.length + c.length ≤ 1000000) : FnC Try.prog 83 [.sl (.lst 1 3 [bsl a, bsl b, bsl c])] [] (.ints .u8 32 (sumD (a ++ (b ++ c)))) [] := by
  have := sums_spec [a, b, c] (by intro p hp; simp only [List.mem_cons, List.not_mem_nil, or_false] at hp; rcases hp with rfl | rfl | rfl <;> assumption) (by simp [cat]; omega) (by simp)
  have hc : cat [a, b, c] = a ++ (b ++ c) := by simp [cat]
  rw [hc] at this
  exact this
theorem sums4 {a b c d : List Int} (ha : ∀ x ∈ a, 0 ≤ x ∧ x < 256) (hb : ∀ x ∈ b, 0 ≤ x ∧ x < 256) (hc : ∀ x ∈ c, 0 ≤ x ∧ x < 256) (hd : ∀ x ∈ d, 0 ≤ x ∧ x < 256) (hn : a.length + b.length + c.length + d.length ≤ 1000000) : FnC Try.prog 83 [.sl (.lst 1 4 [bsl a, bsl b, bsl c, bsl d])] [] (.ints .u8 32 (sumD (a ++ (b ++ (c ++ d))))) [] := by
  have := sums_spec [a, b, c, d] (by intro p hp; simp only [List.mem_cons, List.not_mem_nil, or_false] at hp; rcases hp with rfl | rfl | rfl | rfl <;> assumption) (by simp [cat]; omega) (by simp)
  have hc : cat [a, b, c, d] = a ++ (b ++ (c ++ d)) := by simp [cat]
  rw [hc] at this
  exact this
/-- What a message is signed by. -/
def msgD (r root : List Int) (index : Int) (m : List Int) : List Int := ofD 2 r (root ++ (be index 32 ++ m))
theorem zero_mem (n : Nat) : ∀ x ∈ List.replicate n (0 : Int), 0 ≤ x ∧ x < 256 := by intro x hx; rw [List.mem_replicate] at hx; omega
theorem f_zero : (ofD 0 (List.replicate 32 0) (List.replicate 32 0) = List.replicate 32 0) = False := by
  rw [eq_iff_iff, iff_false]; decide +kernel
theorem f_zero' : ofD 0 (List.replicate 32 0) (List.replicate 32 0) = sumD (List.replicate 96 0) := by
  have : be 0 32 = List.replicate 32 0 := by decide +kernel
  rw [ofD, this, List.replicate_append_replicate, List.replicate_append_replicate]
theorem mask_zero {x : List Int} (h : x.length = 32) (hx : ∀ y ∈ x, 0 ≤ y ∧ y < 256) : maskD x (List.replicate 32 0) = x := by
  refine List.ext_getElem (by rw [maskD_len h (by simp), h]) fun i h1 h2 => ?_
  have e := maskD_get (a := x) (b := List.replicate 32 0) (i := i) h2 (by simp; omega)
  have g := getD_all' hx h2
  have z : (List.replicate 32 (0 : Int)).getD i 0 = 0 := by simp only [List.getD, List.getElem?_replicate]; split <;> rfl
  rw [z, (ixor_u8 g (by omega)).1] at e
  simp only [List.getD, List.getElem?_eq_getElem h1, List.getElem?_eq_getElem h2, Option.getD_some] at e g
  rw [e]
  show (((x[i]).toNat ^^^ 0 : Nat) : Int) = _
  rw [Nat.xor_zero]; omega
end Go.Proofs.Ytegbkbkcfcjkbaa
