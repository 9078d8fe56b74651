/- The walks of MacCodes and MacKeys. -/
import Derived.Test.YtegbkbkcfcjkbaaMac
namespace Go.Proofs.Ytegbkbkcfcjkbaa
open Go Go.Sy Go.Proofs.Try
set_option maxRecDepth 100000
set_option maxHeartbeats 8000000
set_option linter.unusedSimpArgs false
set_option linter.unusedVariables false

theorem bytes_inj : ∀ {a b : List Int}, (∀ x ∈ a, 0 ≤ x ∧ x < 256) → (∀ x ∈ b, 0 ≤ x ∧ x < 256) → ((a.map fun x => UInt8.ofNat x.toNat) = (b.map fun x => UInt8.ofNat x.toNat) ↔ a = b)
  | [], [], _, _ => by simp
  | [], y :: b, _, _ => by simp
  | x :: a, [], _, _ => by simp
  | x :: a, y :: b, ha, hb => by
    have ih := bytes_inj (a := a) (b := b) (fun z hz => ha z (by simp [hz])) (fun z hz => hb z (by simp [hz]))
    have hx := ha x (by simp)
    have hy := hb y (by simp)
    have e : UInt8.ofNat x.toNat = UInt8.ofNat y.toNat ↔ x = y := by
      constructor
      · intro h
        have := congrArg UInt8.toNat h
        rw [UInt8.toNat_ofNat', UInt8.toNat_ofNat'] at this
        omega
      · intro h; rw [h]
    simp only [List.map_cons, List.cons.injEq, e, ih]
theorem k64_sum {key : List Int} (h : 64 < key.length) : k64 key = k64 (sumD key) := by
  unfold k64
  rw [if_pos h, if_neg (by rw [sumD_len]; decide), sumD_len]
theorem k64_more {key : List Int} {z : Nat} (h : key.length + z ≤ 64) : k64 (key ++ List.replicate z 0) = k64 key := by
  unfold k64
  rw [if_neg (by rw [List.length_append, List.length_replicate]; omega), if_neg (by omega), List.append_assoc, List.replicate_append_replicate, List.length_append, List.length_replicate, show z + (64 - (key.length + z)) = 64 - key.length by omega]
theorem code_k64 {a b : List Int} (h : k64 a = k64 b) (t : List Int) : code a t = code b t := by simp only [code, pad, h]
end Go.Proofs.Ytegbkbkcfcjkbaa
