/- The walks of MacCodes and MacKeys. -/
import Derived.Test.YthomlkmbgmkjiaaMac
namespace Go.Proofs.Ythomlkmbgmkjiaa
open Go Go.Sy Go.Proofs.Try
set_option maxRecDepth 100000
set_option maxHeartbeats 8000000
set_option linter.unusedSimpArgs false
set_option linter.unusedVariables false
attribute [go_sem] pl10 pl11
theorem bytes_inj : ∀ {a b : List Int}, (∀ x ∈ a, 0 ≤ x ∧ x < 256) → (∀ x ∈ b, 0 ≤ x ∧ x < 256) → ((a.map fun x => UInt8.ofNat x.toNat) = (b.map fun x => UInt8.ofNat x.toNat) ↔ a = b)
  | [], [], _, _ => by simp
  | [], y :: b, _, _ => by simp
  | x :: a, [], _, _ => by simp
  | x :: a, y :: b, ha, hb => by
    have ih := bytes_inj (a := a) (b := b) (fun z hz => ha z (by simp [hz])) (fun z hz => hb z (by simp [hz]))
    have hx := ha x (by simp)
    have hy := hb y (by simp)
    have e : UInt8.ofNat x.toNat = UInt8.ofNat y.toNat ↔ x = y := by
      constructor
      · intro h
        have := congrArg UInt8.toNat h
        rw [UInt8.toNat_ofNat', UInt8.toNat_ofNat'] at this
        omega
      · intro h; rw [h]
    simp only [List.map_cons, List.cons.injEq, e, ih]
theorem macCodes_spec (key b : List Int) (ps : List (List Int)) (hk : ∀ x ∈ key, 0 ≤ x ∧ x < 256) (hb : ∀ x ∈ b, 0 ≤ x ∧ x < 256) (hp : ∀ p ∈ ps, ∀ x ∈ p, 0 ≤ x ∧ x < 256) (hkl : key.length ≤ 9223372036854775807) (hbl : b.length ≤ 9223372036854775807)
    (hpl : ∀ p ∈ ps, p.length ≤ 140737488351232) (hl : ps.length ≤ 9223372036854775807) : FnC Try.prog 10 [.sl (.ints .u8 key.length key), .sl (.lst 1 ps.length (ps.map bsl)), .sl (.ints .u8 b.length b)] [] (.bool true) [] := by
  refine fn0 mix pl10 0 3 [.tmp 6] Try.func10 rfl (by kernel_rfl) (by kernel_rfl) rfl (by kernel_rfl) (by kernel_rfl) (by simp) ?_
  simp (implicitDefEqProofs := false) (disch := omega) only [go_sem, ↓reduceIte]
  refine brd (fun h => ?_) (fun h1 => ?_)
  · simp (implicitDefEqProofs := false) (disch := omega) only [go_sem, ↓reduceIte]
    refine call0 knows02_spec ?_
    simp (implicitDefEqProofs := false) (disch := omega) only [go_sem, ↓reduceIte]
  simp (implicitDefEqProofs := false) (disch := omega) only [go_sem, ↓reduceIte]
  refine brd (fun h => ?_) (fun h2 => ?_)
  · simp (implicitDefEqProofs := false) (disch := omega) only [go_sem, ↓reduceIte]
    refine call0 knows02_spec ?_
    simp (implicitDefEqProofs := false) (disch := omega) only [go_sem, ↓reduceIte]
  simp (implicitDefEqProofs := false) (disch := omega) only [go_sem, ↓reduceIte]
  refine call0 (few_spec ps 1000 hl (fun p h => Nat.le_trans (hpl p h) (by decide))) ?_
  simp (implicitDefEqProofs := false) (disch := omega) only [go_sem, ↓reduceIte]
  refine br (fun h => ?_) (fun h => ?_)
  · simp only [Bool.and_eq_true, decide_eq_true_eq] at h
    have hw := wsum_eq ps hpl ps.length (by omega) (Nat.le_refl _)
    rw [List.take_length] at hw
    have hn : (cat ps).length ≤ 1000 := by omega
    have hm := cat_mem hp ps.length
    rw [List.take_length] at hm
    have e1 : decide (((cat ps).map fun x => UInt8.ofNat x.toNat) = (b.map fun x => UInt8.ofNat x.toNat)) = decide (cat ps = b) := decide_eq_decide.2 (bytes_inj hm hb)
    simp (implicitDefEqProofs := false) (disch := omega) only [go_sem, ↓reduceIte]
    refine callF 1 (join_spec ps hl (by omega)) ?_
    simp (implicitDefEqProofs := false) (disch := omega) only [go_sem, ↓reduceIte]
    refine call0 (code_spec key ps _ rfl hk hp (by omega) (by omega) (by omega)) ?_
    simp (implicitDefEqProofs := false) (disch := omega) only [go_sem, ↓reduceIte]
    refine callB (refcode_spec key (cat ps) _ _ rfl rfl hk hm (by omega) (by omega)) ?_ ?_
    · simp (implicitDefEqProofs := false) (disch := omega) only [go_sem, ↓reduceIte]
    simp (implicitDefEqProofs := false) (disch := omega) only [go_sem, ↓reduceIte]
    refine callB (same02_spec (cat ps) b _ _ rfl rfl hm hb (by omega) (by omega)) ?_ ?_
    · simp (implicitDefEqProofs := false) (disch := omega) only [go_sem, ↓reduceIte]
    simp (implicitDefEqProofs := false) (disch := omega) only [go_sem, ↓reduceIte, e1, beq_self_eq_true]
    refine callB (same02_spec (cat ps) (cat ps) _ _ rfl rfl hm hm (by omega) (by omega)) ?_ ?_
    · simp (implicitDefEqProofs := false) (disch := omega) only [go_sem, ↓reduceIte]
    simp (implicitDefEqProofs := false) (disch := omega) only [go_sem, ↓reduceIte]
    refine call0 knows02_spec ?_
    simp (implicitDefEqProofs := false) (disch := omega) only [go_sem, ↓reduceIte]
  · simp (implicitDefEqProofs := false) (disch := omega) only [go_sem, ↓reduceIte]
    refine call0 knows02_spec ?_
    simp (implicitDefEqProofs := false) (disch := omega) only [go_sem, ↓reduceIte]
theorem k64_sum {key : List Int} (h : 64 < key.length) : k64 key = k64 (sumD key) := by
  unfold k64
  rw [if_pos h, if_neg (by rw [sumD_len]; decide), sumD_len]
theorem k64_more {key : List Int} {z : Nat} (h : key.length + z ≤ 64) : k64 (key ++ List.replicate z 0) = k64 key := by
  unfold k64
  rw [if_neg (by rw [List.length_append, List.length_replicate]; omega), if_neg (by omega), List.append_assoc, List.replicate_append_replicate, List.length_append, List.length_replicate, show z + (64 - (key.length + z)) = 64 - key.length by omega]
theorem code_k64 {a b : List Int} (h : k64 a = k64 b) (t : List Int) : code a t = code b t := by simp only [code, pad, h]
theorem macKeys_spec (key text : List Int) (m : Int) (hk : ∀ x ∈ key, 0 ≤ x ∧ x < 256) (ht : ∀ x ∈ text, 0 ≤ x ∧ x < 256) (hm : 0 ≤ m ∧ m < 256) (hkl : key.length ≤ 9223372036854775807) (htl : text.length ≤ 9223372036854775807) :
    FnC Try.prog 11 [.sl (.ints .u8 key.length key), .sl (.ints .u8 text.length text), .int .u8 m] [] (.bool true) [] := by
  refine fn0 mix pl11 0 3 [.tmp 6] Try.func11 rfl (by kernel_rfl) (by kernel_rfl) rfl (by kernel_rfl) (by kernel_rfl) (by simp) ?_
  simp (implicitDefEqProofs := false) (disch := omega) only [go_sem, ↓reduceIte]
  refine brd (fun h => ?_) (fun h1 => ?_)
  · simp (implicitDefEqProofs := false) (disch := omega) only [go_sem, ↓reduceIte]
    refine call0 knows02_spec ?_
    simp (implicitDefEqProofs := false) (disch := omega) only [go_sem, ↓reduceIte]
  simp (implicitDefEqProofs := false) (disch := omega) only [go_sem, ↓reduceIte]
  refine brd (fun h => ?_) (fun h2 => ?_)
  · simp (implicitDefEqProofs := false) (disch := omega) only [go_sem, ↓reduceIte]
    refine call0 knows02_spec ?_
    simp (implicitDefEqProofs := false) (disch := omega) only [go_sem, ↓reduceIte]
  have hc : cat [text] = text := by simp [cat]
  have c1 : ∀ k : List Int, (∀ x ∈ k, 0 ≤ x ∧ x < 256) → ∀ n, k.length = n → n ≤ 2000 → FnC Try.prog 55 [.sl (.ints .u8 n k), .sl (.lst 1 1 [bsl text])] [] (.ints .u8 32 (code k text)) [] := fun k h n hn hn' => by
    have := code_spec k [text] n hn h (by simpa using ht) (by omega) (by rw [hc]; omega) (by simp)
    rw [hc] at this
    exact this
  simp (implicitDefEqProofs := false) (disch := omega) only [go_sem, ↓reduceIte]
  refine callB (c1 key hk _ rfl (by omega)) ?_ ?_
  · simp (implicitDefEqProofs := false) (disch := omega) only [go_sem, ↓reduceIte, bsl]
  simp (implicitDefEqProofs := false) (disch := omega) only [go_sem, ↓reduceIte]
  refine brd (fun h3 => ?_) (fun h3 => ?_)
  · simp (implicitDefEqProofs := false) (disch := omega) only [go_sem, ↓reduceIte]
    refine call0 (refsum_spec key hk (by omega)) ?_
    simp (implicitDefEqProofs := false) (disch := omega) only [go_sem, ↓reduceIte]
    refine callB (c1 (sumD key) (sumD_mem key) 32 (sumD_len key) (by decide)) ?_ ?_
    · simp (implicitDefEqProofs := false) (disch := omega) only [go_sem, ↓reduceIte, bsl]
    simp (implicitDefEqProofs := false) (disch := omega) only [go_sem, ↓reduceIte, code_k64 (k64_sum (show 64 < key.length by omega)) text]
    refine call0 knows02_spec ?_
    simp (implicitDefEqProofs := false) (disch := omega) only [go_sem, ↓reduceIte]
  · obtain ⟨z, e, hz⟩ : ∃ z : Nat, m.tmod (65 - (key.length : Int)) = z ∧ key.length + z ≤ 64 := by
      have h1 := Int.tmod_nonneg (65 - (key.length : Int)) hm.1
      have h2 := Int.tmod_lt_of_pos m (show (0 : Int) < 65 - key.length by omega)
      exact ⟨_, (Int.toNat_of_nonneg h1).symm, by omega⟩
    have hz2 : ∀ x ∈ key ++ List.replicate z 0, 0 ≤ x ∧ x < 256 := app_mem hk (by intro x hx; rw [List.mem_replicate] at hx; omega)
    simp (implicitDefEqProofs := false) (disch := omega) only [go_sem, ↓reduceIte, e, Ty.int.injEq]
    refine callB (c1 (key ++ List.replicate z 0) hz2 (key.length + z) (by rw [List.length_append, List.length_replicate]) (by omega)) ?_ ?_
    · simp (implicitDefEqProofs := false) (disch := omega) only [go_sem, ↓reduceIte, bsl]
    simp (implicitDefEqProofs := false) (disch := omega) only [go_sem, ↓reduceIte, code_k64 (k64_more hz) text]
    refine call0 knows02_spec ?_
    simp (implicitDefEqProofs := false) (disch := omega) only [go_sem, ↓reduceIte]
end Go.Proofs.Ythomlkmbgmkjiaa
