/- The contracts of wire.Get and planchetref20.Get; the walks of WireTexts, WirePuts and WireGets. -/
import Derived.Test.YthhlielliopegaaGreatWire
import Derived.Test.YthhlielliopegaaGreatGG
import Derived.Test.YthhlielliopegaaGreatAdrs2
namespace Go.Proofs.YthhlielliopegaaGreat
open Go Go.Sy Go.Proofs.Tryz
set_option maxRecDepth 100000
set_option maxHeartbeats 8000000
set_option linter.unusedSimpArgs false
set_option linter.unusedVariables false

def z32 : List Int := List.replicate 32 0
/-- So many digests off bytes. -/
def chunk : Nat → List Int → List (List Int)
  | 0, _ => []
  | k + 1, b => b.take 32 :: chunk k (b.drop 32)
theorem chunk_len : ∀ (k : Nat) (b : List Int), (chunk k b).length = k
  | 0, _ => rfl
  | k + 1, b => by rw [chunk, List.length_cons, chunk_len k]
theorem chunk_succ : ∀ (k : Nat) (b : List Int), chunk (k + 1) b = chunk k b ++ [(b.drop (32 * k)).take 32]
  | 0, b => by simp [chunk]
  | k + 1, b => by
    have := chunk_succ k (b.drop 32)
    rw [chunk, this, chunk, List.drop_drop, show 32 + 32 * k = 32 * (k + 1) by omega]
    rfl
theorem chunk_each : ∀ (k : Nat) (b : List Int), 32 * k ≤ b.length → ∀ d ∈ chunk k b, d.length = 32
  | 0, _, _, d, h => by cases h
  | k + 1, b, hl, d, h => by
    rcases List.mem_cons.1 h with rfl | h
    · rw [List.length_take]; omega
    · exact chunk_each k _ (by rw [List.length_drop]; omega) d h
theorem chunk_mem : ∀ (k : Nat) (b : List Int), (∀ x ∈ b, 0 ≤ x ∧ x < 256) → ∀ d ∈ chunk k b, ∀ x ∈ d, 0 ≤ x ∧ x < 256
  | 0, _, _, d, h => by cases h
  | k + 1, b, hb, d, h => by
    rcases List.mem_cons.1 h with rfl | h
    · exact fun x hx => hb x (List.mem_of_mem_take hx)
    · exact chunk_mem k _ (fun x hx => hb x (List.mem_of_mem_drop hx)) d h
theorem dcat_chunk : ∀ (k : Nat) (b : List Int), 32 * k ≤ b.length → dcat (chunk k b) = b.take (32 * k)
  | 0, b, _ => by simp [chunk, dcat]
  | k + 1, b, h => by
    have ih := dcat_chunk k (b.drop 32) (by rw [List.length_drop]; omega)
    have e : dcat (chunk (k + 1) b) = b.take 32 ++ dcat (chunk k (b.drop 32)) := by simp [chunk, dcat]
    rw [e, ih, show 32 * (k + 1) = 32 + 32 * k by omega, List.take_add]
theorem chunk_dcat : ∀ (ds : List (List Int)) (t : List Int), (∀ d ∈ ds, d.length = 32) → chunk ds.length (dcat ds ++ t) = ds
  | [], _, _ => rfl
  | d :: ds, t, h => by
    have hd := h d (by simp)
    have e : dcat (d :: ds) ++ t = d ++ (dcat ds ++ t) := by simp [dcat]
    rw [List.length_cons, chunk, e, List.take_append_of_le_length (by omega), List.take_of_length_le (by omega), List.drop_append_of_le_length (by omega), List.drop_of_length_le (by omega), List.nil_append,
      chunk_dcat ds t (fun x hx => h x (by simp [hx]))]
theorem set_mid {α : Type} (a : List α) (x y : α) (n i : Nat) (h : a.length = i) : (a ++ List.replicate (n + 1) x).set i y = (a ++ [y]) ++ List.replicate n x := by
  rw [List.set_append_right _ _ (by omega), h, Nat.sub_self, List.replicate_succ, List.set_cons_zero, List.append_assoc]
  rfl
/-- So many parts off bytes. -/
def partsD : Nat → Nat → List Int → List Part
  | 0, _, _ => []
  | k + 1, B, b => (chunk 67 b, chunk B (b.drop 2144)) :: partsD k B (b.drop (2144 + 32 * B))
theorem partsD_len (B : Nat) : ∀ (k : Nat) (b : List Int), (partsD k B b).length = k
  | 0, _ => rfl
  | k + 1, b => by rw [partsD, List.length_cons, partsD_len B k]
theorem partsD_succ (B : Nat) : ∀ (k : Nat) (b : List Int), partsD (k + 1) B b = partsD k B b ++ [(chunk 67 (b.drop (k * (2144 + 32 * B))), chunk B ((b.drop (k * (2144 + 32 * B))).drop 2144))]
  | 0, b => by simp [partsD]
  | k + 1, b => by
    have ih := partsD_succ B k (b.drop (2144 + 32 * B))
    rw [partsD, ih, partsD, List.drop_drop, show 2144 + 32 * B + k * (2144 + 32 * B) = (k + 1) * (2144 + 32 * B) by rw [Nat.add_mul]; omega]
    rfl
theorem pt_chunk (B : Nat) (x y : List Int) : pt (chunk 67 x, chunk B y) = .agg [.sl (.lst 32 67 ((chunk 67 x).map dg)), .sl (.lst 32 B ((chunk B y).map dg))] := by
  simp only [pt, chunk_len]
def sig0 : AV := .agg [.int .i64 0, .ints .u8 32 (List.replicate 32 0), .sl (.lst 2 0 [])]
/-! Texts tell their heads. -/
theorem be8_inj {x y : Int} (hx : -9223372036854775808 ≤ x ∧ x < 9223372036854775808) (hy : -9223372036854775808 ≤ y ∧ y < 9223372036854775808) (h : be (IntKind.u64.wrap x) 8 = be (IntKind.u64.wrap y) 8) : x = y := by
  have e := congrArg ofb h
  rw [ofb_be, ofb_be, u64_mod, u64_mod] at e
  have p : (256 : Int) ^ 8 = 18446744073709551616 := by decide
  rw [p] at e
  omega
theorem nums2 (x y : Int) : nums [x, y] = be (IntKind.u64.wrap x) 8 ++ be (IntKind.u64.wrap y) 8 := by simp [nums]
theorem nums3 (x y z : Int) : nums [x, y, z] = be (IntKind.u64.wrap x) 8 ++ (be (IntKind.u64.wrap y) 8 ++ be (IntKind.u64.wrap z) 8) := by simp [nums]
theorem dcat2 (x y : List Int) : dcat [x, y] = x ++ y := by simp [dcat]
def isI (x : Int) : Prop := -9223372036854775808 ≤ x ∧ x < 9223372036854775808
theorem headT_inj {k e k' e' : Int} {t l t' l' : List Int} (hk : isI k) (he : isI e) (hk' : isI k') (he' : isI e') (ht : t.length = 32) (ht' : t'.length = 32) : headT k e t l = headT k' e' t' l' ↔ (k = k' ∧ e = e' ∧ t = t' ∧ l = l') := by
  constructor
  · intro h
    simp only [headT, nums2, dcat2, List.cons.injEq, true_and, List.append_assoc] at h
    obtain ⟨h1, h⟩ := List.append_inj h (by rw [be_len, be_len])
    obtain ⟨h2, h⟩ := List.append_inj h (by rw [be_len, be_len])
    obtain ⟨h3, h4⟩ := List.append_inj h (by rw [ht, ht'])
    exact ⟨be8_inj hk hk' h1, be8_inj he he' h2, h3, h4⟩
  · rintro ⟨rfl, rfl, rfl, rfl⟩; rfl
theorem head_key (k e c a b : Int) (t l r p : List Int) : headT k e t l ≠ keyT c a b r p := by
  intro h
  simp only [headT, keyT, List.cons.injEq] at h
  exact absurd h.1 (by decide)
theorem nums_mem (l : List Int) : ∀ x ∈ nums l, 0 ≤ x ∧ x < 256 := by
  intro x hx
  obtain ⟨y, _, hx⟩ := List.mem_flatMap.1 hx
  exact be_mem _ _ x hx
theorem cons_mem {p : Int → Prop} {a : Int} {l : List Int} (ha : p a) (hl : ∀ x ∈ l, p x) : ∀ x ∈ a :: l, p x := fun x hx => by
  rcases List.mem_cons.1 hx with rfl | hx
  · exact ha
  · exact hl x hx
theorem app_mem20 {p : Int → Prop} {a b : List Int} (ha : ∀ x ∈ a, p x) (hb : ∀ x ∈ b, p x) : ∀ x ∈ a ++ b, p x := fun x hx => by
  rcases List.mem_append.1 hx with hx | hx
  · exact ha x hx
  · exact hb x hx
theorem headT_mem (k e : Int) {t l : List Int} (ht : ∀ x ∈ t, 0 ≤ x ∧ x < 256) (hl : ∀ x ∈ l, 0 ≤ x ∧ x < 256) : ∀ x ∈ headT k e t l, 0 ≤ x ∧ x < 256 := by
  refine cons_mem (by decide) (app_mem20 (nums_mem _) ?_)
  rw [dcat2]; exact app_mem20 ht hl
theorem keyT_mem (k a b : Int) {t l : List Int} (ht : ∀ x ∈ t, 0 ≤ x ∧ x < 256) (hl : ∀ x ∈ l, 0 ≤ x ∧ x < 256) : ∀ x ∈ keyT k a b t l, 0 ≤ x ∧ x < 256 := by
  refine cons_mem (by decide) (app_mem20 (nums_mem _) ?_)
  rw [dcat2]; exact app_mem20 ht hl
theorem bytes_inj20 : ∀ {a b : List Int}, (∀ x ∈ a, 0 ≤ x ∧ x < 256) → (∀ x ∈ b, 0 ≤ x ∧ x < 256) → ((a.map fun x => UInt8.ofNat x.toNat) = (b.map fun x => UInt8.ofNat x.toNat) ↔ a = b)
  | [], [], _, _ => by simp
  | [], y :: b, _, _ => by simp
  | x :: a, [], _, _ => by simp
  | x :: a, y :: b, ha, hb => by
    have ih := bytes_inj20 (a := a) (b := b) (fun z hz => ha z (by simp [hz])) (fun z hz => hb z (by simp [hz]))
    have hx := ha x (by simp)
    have hy := hb y (by simp)
    have e : UInt8.ofNat x.toNat = UInt8.ofNat y.toNat ↔ x = y := by
      constructor
      · intro h
        have := congrArg UInt8.toNat h
        rw [UInt8.toNat_ofNat', UInt8.toNat_ofNat'] at this
        omega
      · intro h; rw [h]
    simp only [List.map_cons, List.cons.injEq, e, ih]
end Go.Proofs.YthhlielliopegaaGreat
