/- The contracts of the package keyed and of planchetref05. -/
import Derived.Test.YtjaailbgeadnnaaGreatMac
namespace Go.Proofs.YtjaailbgeadnnaaGreat
open Go Go.Sy Go.Proofs.Tryz
set_option maxRecDepth 100000
set_option maxHeartbeats 8000000
set_option linter.unusedSimpArgs false
set_option linter.unusedVariables false
attribute [go_sem] pl127 pl158 pl164 pl177 pl178 pl179 pl195 pl196 pl198 pl206 pl207
/-- The sum of a number ahead, a key and a text. -/
def ofD (n : Int) (key m : List Int) : List Int := sumD (be n 32 ++ (key ++ m))
theorem ofD_len (n : Int) (key m : List Int) : (ofD n key m).length = 32 := sumD_len _
theorem ofD_mem (n : Int) (key m : List Int) : ∀ x ∈ ofD n key m, 0 ≤ x ∧ x < 256 := sumD_mem _
def maskD (a b : List Int) : List Int := List.zipWith (ixor .u8) a b
theorem maskD_len {a b : List Int} (ha : a.length = 32) (hb : b.length = 32) : (maskD a b).length = 32 := by simp [maskD, ha, hb]
theorem maskD_get {a b : List Int} {i : Nat} (ha : i < a.length) (hb : i < b.length) : (maskD a b).getD i 0 = ixor .u8 (a.getD i 0) (b.getD i 0) := by
  simp [maskD, List.getD, List.getElem?_zipWith, List.getElem?_eq_getElem ha, List.getElem?_eq_getElem hb]
theorem maskD_mem : ∀ {a b : List Int}, (∀ x ∈ a, 0 ≤ x ∧ x < 256) → (∀ x ∈ b, 0 ≤ x ∧ x < 256) → ∀ x ∈ maskD a b, 0 ≤ x ∧ x < 256
  | [], _, _, _, x, h => by simp [maskD] at h
  | _ :: _, [], _, _, x, h => by simp [maskD] at h
  | u :: a, v :: b, ha, hb, x, h => by
    simp only [maskD, List.zipWith_cons_cons, List.mem_cons] at h
    rcases h with rfl | h
    · exact (ixor_u8 (ha u (by simp)) (hb v (by simp))).2
    · exact maskD_mem (fun z hz => ha z (by simp [hz])) (fun z hz => hb z (by simp [hz])) x h
theorem maskD_twice : ∀ {a b : List Int}, a.length = b.length → (∀ x ∈ a, 0 ≤ x ∧ x < 256) → (∀ x ∈ b, 0 ≤ x ∧ x < 256) → maskD (maskD a b) b = a
  | [], [], _, _, _ => rfl
  | u :: a, v :: b, hl, ha, hb => by
    have ih := maskD_twice (a := a) (b := b) (by simpa using hl) (fun z hz => ha z (by simp [hz])) (fun z hz => hb z (by simp [hz]))
    have hu := ha u (by simp)
    have hv := hb v (by simp)
    obtain ⟨e1, r1⟩ := ixor_u8 hu hv
    obtain ⟨e2, _⟩ := ixor_u8 r1 hv
    have e3 : (u.toNat ^^^ v.toNat) ^^^ v.toNat = u.toNat := by rw [Nat.xor_assoc, Nat.xor_self, Nat.xor_zero]
    simp only [maskD, List.zipWith_cons_cons] at ih ⊢
    rw [ih, e2, e1, Int.toNat_natCast, e3]
    congr 1; omega
theorem be_mem' (n : Int) (c : Nat) : ∀ x ∈ be n c, 0 ≤ x ∧ x < 256 := be_mem n c
theorem ahead_spec (n : Int) : FnC Tryz.prog 157 [.int .u64 n] [] (.osl 0 [] 1 0 32) [(0, .row (.ints .u8 32 (be n 32)))] := by
  refine fnN mix [] 0 1 [.tmp 2] Tryz.func157 rfl (by kernel_rfl) (by kernel_rfl) rfl (by kernel_rfl) (by kernel_rfl) (by simp) ?_
  simp (implicitDefEqProofs := false) (disch := omega) only [go_sem, ↓reduceIte]
  refine callF 1 (number_spec n 32 32 rfl) ?_
  simp (implicitDefEqProofs := false) (disch := omega) only [go_sem, ↓reduceIte]
  refine ⟨[(0, 0)], [], [], rfl, ?_, ?_, ?_⟩ <;> simp (implicitDefEqProofs := false) (disch := omega) only [go_sem, ↓reduceIte]
theorem sums3 {a b c : List Int} (ha : ∀ x ∈ a, 0 ≤ x ∧ x < 256) (hb : ∀ x ∈ b, 0 ≤ x ∧ x < 256) (hc : ∀ x ∈ c, 0 ≤ x ∧ x < 256) (hn : a.length + b.length + c.length ≤ 1000000) : FnC Tryz.prog 65 [.sl (.lst 1 3 [bsl a, bsl b, bsl c])] [] (.ints .u8 32 (sumD (a ++ (b ++ c)))) [] := by
  have := sums_spec [a, b, c] (by intro p hp; simp only [List.mem_cons, List.not_mem_nil, or_false] at hp; rcases hp with rfl | rfl | rfl <;> assumption) (by simp [cat]; omega) (by simp)
  have hc : cat [a, b, c] = a ++ (b ++ c) := by simp [cat]
  rw [hc] at this
  exact this
theorem sums4 {a b c d : List Int} (ha : ∀ x ∈ a, 0 ≤ x ∧ x < 256) (hb : ∀ x ∈ b, 0 ≤ x ∧ x < 256) (hc : ∀ x ∈ c, 0 ≤ x ∧ x < 256) (hd : ∀ x ∈ d, 0 ≤ x ∧ x < 256) (hn : a.length + b.length + c.length + d.length ≤ 1000000) : FnC Tryz.prog 65 [.sl (.lst 1 4 [bsl a, bsl b, bsl c, bsl d])] [] (.ints .u8 32 (sumD (a ++ (b ++ (c ++ d))))) [] := by
  have := sums_spec [a, b, c, d] (by intro p hp; simp only [List.mem_cons, List.not_mem_nil, or_false] at hp; rcases hp with rfl | rfl | rfl | rfl <;> assumption) (by simp [cat]; omega) (by simp)
  have hc : cat [a, b, c, d] = a ++ (b ++ (c ++ d)) := by simp [cat]
  rw [hc] at this
  exact this
theorem f_spec (key m : List Int) (hk : key.length = 32) (hm : m.length = 32) (hk' : ∀ x ∈ key, 0 ≤ x ∧ x < 256) (hm' : ∀ x ∈ m, 0 ≤ x ∧ x < 256) : FnC Tryz.prog 206 [.ints .u8 32 key, .ints .u8 32 m] [] (.ints .u8 32 (ofD 0 key m)) [] := by
  have hl := be_len 0 32
  refine fn0 mix pl206 0 2 [.cell 4 25] Tryz.func206 rfl (by kernel_rfl) (by kernel_rfl) rfl (by kernel_rfl) (by kernel_rfl) (by simp) ?_
  simp (implicitDefEqProofs := false) (disch := omega) only [go_sem, ↓reduceIte]
  refine callF 1 (ahead_spec 0) ?_
  simp (implicitDefEqProofs := false) (disch := omega) only [go_sem, ↓reduceIte]
  refine callB (sums3 (be_mem 0 32) hk' hm' (by omega)) ?_ ?_
  · simp (implicitDefEqProofs := false) (disch := omega) only [go_sem, ↓reduceIte, bsl, hk, hm, hl]
  simp (implicitDefEqProofs := false) (disch := omega) only [go_sem, ↓reduceIte, ofD]
theorem h_spec (key a b : List Int) (hk : key.length = 32) (ha : a.length = 32) (hb : b.length = 32) (hk' : ∀ x ∈ key, 0 ≤ x ∧ x < 256) (ha' : ∀ x ∈ a, 0 ≤ x ∧ x < 256) (hb' : ∀ x ∈ b, 0 ≤ x ∧ x < 256) : FnC Tryz.prog 195 [.ints .u8 32 key, .ints .u8 32 a, .ints .u8 32 b] [] (.ints .u8 32 (ofD 1 key (a ++ b))) [] := by
  have hl := be_len 1 32
  refine fn0 mix pl195 0 3 [.cell 6 25] Tryz.func195 rfl (by kernel_rfl) (by kernel_rfl) rfl (by kernel_rfl) (by kernel_rfl) (by simp) ?_
  simp (implicitDefEqProofs := false) (disch := omega) only [go_sem, ↓reduceIte]
  refine callF 1 (ahead_spec 1) ?_
  simp (implicitDefEqProofs := false) (disch := omega) only [go_sem, ↓reduceIte]
  refine callB (sums4 (be_mem 1 32) hk' ha' hb' (by omega)) ?_ ?_
  · simp (implicitDefEqProofs := false) (disch := omega) only [go_sem, ↓reduceIte, bsl, hk, ha, hb, hl]
  simp (implicitDefEqProofs := false) (disch := omega) only [go_sem, ↓reduceIte, ofD]
theorem prf_spec (key m : List Int) (n : Nat) (hk : key.length = 32) (hm : m.length = n) (hn : n ≤ 100000) (hk' : ∀ x ∈ key, 0 ≤ x ∧ x < 256) (hm' : ∀ x ∈ m, 0 ≤ x ∧ x < 256) : FnC Tryz.prog 127 [.ints .u8 32 key, .sl (.ints .u8 n m)] [] (.ints .u8 32 (ofD 3 key m)) [] := by
  have hl := be_len 3 32
  refine fn0 mix pl127 0 2 [.cell 4 25] Tryz.func127 rfl (by kernel_rfl) (by kernel_rfl) rfl (by kernel_rfl) (by kernel_rfl) (by simp) ?_
  simp (implicitDefEqProofs := false) (disch := omega) only [go_sem, ↓reduceIte]
  refine callF 1 (ahead_spec 3) ?_
  simp (implicitDefEqProofs := false) (disch := omega) only [go_sem, ↓reduceIte]
  refine callB (sums3 (be_mem 3 32) hk' hm' (by omega)) ?_ ?_
  · simp (implicitDefEqProofs := false) (disch := omega) only [go_sem, ↓reduceIte, bsl, hk, hm, hl]
  simp (implicitDefEqProofs := false) (disch := omega) only [go_sem, ↓reduceIte, ofD]
theorem atk_spec (key ws : List Int) (hk : key.length = 32) (hk' : ∀ x ∈ key, 0 ≤ x ∧ x < 256) (hl : ws.length = 8) (hw : ∀ w ∈ ws, 0 ≤ w ∧ w < 4294967296) : FnC Tryz.prog 164 [.ints .u8 32 key, .ints .u32 8 ws] [] (.ints .u8 32 (ofD 3 key (bytesA ws))) [] := by
  have hbl := bytesA_len ws
  refine fn0 mix pl164 0 2 [.cell 4 25] Tryz.func164 rfl (by kernel_rfl) (by kernel_rfl) rfl (by kernel_rfl) (by kernel_rfl) (by simp) ?_
  simp (implicitDefEqProofs := false) (disch := omega) only [go_sem, ↓reduceIte]
  refine callF 1 (bytes_spec ws hl hw) ?_
  simp (implicitDefEqProofs := false) (disch := omega) only [go_sem, ↓reduceIte]
  refine callB (prf_spec key (bytesA ws) 32 hk (by omega) (by decide) hk' (bytesA_mem ws)) ?_ ?_
  · simp (implicitDefEqProofs := false) (disch := omega) only [go_sem, ↓reduceIte]
  simp (implicitDefEqProofs := false) (disch := omega) only [go_sem, ↓reduceIte]
theorem mask_spec (a b : List Int) (ha : a.length = 32) (hb : b.length = 32) : FnC Tryz.prog 196 [.ints .u8 32 a, .ints .u8 32 b] [] (.ints .u8 32 (maskD a b)) [] := by
  have hml := maskD_len ha hb
  refine fn0 mix pl196 0 2 [.cell 4 25] Tryz.func196 rfl (by kernel_rfl) (by kernel_rfl) rfl (by kernel_rfl) (by kernel_rfl) (by simp) ?_
  simp (implicitDefEqProofs := false) (disch := omega) only [go_sem, ↓reduceIte]
  refine loop (ι := Nat) 3 (fun i => i ≤ 32) (fun i => [(2, .ref 0 []), (3, .ref 1 []), (4, .ref 2 []), (6, .int .i64 i)]) (fun i => [(0, .var (.ints .u8 32 ((maskD a b).take i ++ a.drop i))), (1, .var (.ints .u8 32 b)), (2, .var (.ints .u8 32 (List.replicate 32 0)))]) (fun i => 32 - i) 0 [(0, 0), (1, 1), (2, 2)] [] (Nat.zero_le _) rfl ?_ ?_ ?_ (fun i hi => ?_)
  · simp (implicitDefEqProofs := false) (disch := omega) only [go_sem, ↓reduceIte]
  · simp (implicitDefEqProofs := false) (disch := omega) only [go_sem, ↓reduceIte]
  · simp (implicitDefEqProofs := false) (disch := omega) only [go_sem, ↓reduceIte]
  simp (implicitDefEqProofs := false) (disch := omega) only [go_sem, ↓reduceIte]
  refine brd (fun h => ?_) (fun h => ?_)
  · have e1 := mix_get hml ha (show i < 32 by omega)
    have e2 := mix_set hml ha (show i < 32 by omega)
    rw [maskD_get (by omega) (by omega)] at e2
    simp (implicitDefEqProofs := false) (disch := omega) only [go_sem, ↓reduceIte, e1, e2]
    refine ⟨i + 1, [(0, 0), (1, 1), (2, 2)], [], [], by dsimp only; omega, by dsimp only; omega, rfl, ?_, ?_, ?_⟩ <;> simp (implicitDefEqProofs := false) (disch := omega) only [go_sem, ↓reduceIte, e2]
  obtain rfl : i = 32 := by omega
  have e3 : (maskD a b).take 32 ++ a.drop 32 = maskD a b := by rw [List.take_of_length_le (by omega), List.drop_of_length_le (by omega), List.append_nil]
  rw [e3]
  simp (implicitDefEqProofs := false) (disch := omega) only [go_sem, ↓reduceIte]
theorem refmask_spec (a b : List Int) (ha : a.length = 32) (hb : b.length = 32) : FnC Tryz.prog 179 [.ints .u8 32 a, .ints .u8 32 b] [] (.ints .u8 32 (maskD a b)) [] := by
  have hml := maskD_len ha hb
  refine fn0 mix pl179 0 2 [.cell 4 25] Tryz.func179 rfl (by kernel_rfl) (by kernel_rfl) rfl (by kernel_rfl) (by kernel_rfl) (by simp) ?_
  simp (implicitDefEqProofs := false) (disch := omega) only [go_sem, ↓reduceIte]
  refine loop (ι := Nat) 4 (fun i => i ≤ 32) (fun i => [(2, .ref 0 []), (3, .ref 1 []), (4, .ref 2 []), (5, .ref 3 []), (6, .int .i64 i)]) (fun i => [(0, .var (.ints .u8 32 a)), (1, .var (.ints .u8 32 b)), (2, .var (.ints .u8 32 (List.replicate 32 0))), (3, .var (.ints .u8 32 ((maskD a b).take i ++ List.replicate (32 - i) 0)))]) (fun i => 32 - i) 0 [(0, 0), (1, 1), (2, 2), (3, 3)] [] (Nat.zero_le _) rfl ?_ ?_ ?_ (fun i hi => ?_)
  · simp (implicitDefEqProofs := false) (disch := omega) only [go_sem, ↓reduceIte]
  · simp (implicitDefEqProofs := false) (disch := omega) only [go_sem, ↓reduceIte]
  · simp (implicitDefEqProofs := false) (disch := omega) only [go_sem, ↓reduceIte]
  simp (implicitDefEqProofs := false) (disch := omega) only [go_sem, ↓reduceIte]
  refine brd (fun h => ?_) (fun h => ?_)
  · have e2 := set_step hml (show i < 32 by omega) (maskD_get (by omega) (by omega))
    simp (implicitDefEqProofs := false) (disch := omega) only [go_sem, ↓reduceIte, e2]
    refine ⟨i + 1, [(0, 0), (1, 1), (2, 2), (3, 3)], [], [], by dsimp only; omega, by dsimp only; omega, rfl, ?_, ?_, ?_⟩ <;> simp (implicitDefEqProofs := false) (disch := omega) only [go_sem, ↓reduceIte, e2]
  obtain rfl : i = 32 := by omega
  have e3 : (maskD a b).take 32 ++ List.replicate (32 - 32) 0 = maskD a b := by rw [List.take_of_length_le (by omega)]; exact List.append_nil _
  rw [e3]
  simp (implicitDefEqProofs := false) (disch := omega) only [go_sem, ↓reduceIte]
theorem refofk_spec (n : Int) (key m : List Int) (k : Nat) (hn : 0 ≤ n) (hn' : n < 18446744073709551616) (hk : key.length = 32) (hm : m.length = k) (hkk : k ≤ 100000) (hk' : ∀ x ∈ key, 0 ≤ x ∧ x < 256) (hm' : ∀ x ∈ m, 0 ≤ x ∧ x < 256) :
    FnC Tryz.prog 198 [.int .u64 n, .ints .u8 32 key, .sl (.ints .u8 k m)] [] (.ints .u8 32 (ofD n key m)) [] := by
  have hl := be_len n 32
  have h1 := refsum_spec (be n 32 ++ (key ++ m)) (app_mem (be_mem n 32) (app_mem hk' hm')) (by simp only [List.length_append]; omega)
  have e : (be n 32 ++ (key ++ m)).length = 64 + k := by simp only [List.length_append]; omega
  rw [e] at h1
  refine fn0 mix pl198 0 3 [.cell 6 25] Tryz.func198 rfl (by kernel_rfl) (by kernel_rfl) rfl (by kernel_rfl) (by kernel_rfl) (by simp) ?_
  simp (implicitDefEqProofs := false) (disch := omega) only [go_sem, ↓reduceIte]
  refine callF 1 (refnumber_spec n 32 (by decide) hn hn') ?_
  simp (implicitDefEqProofs := false) (disch := omega) only [go_sem, ↓reduceIte, List.append_assoc]
  refine callB h1 ?_ ?_
  · simp (implicitDefEqProofs := false) (disch := omega) only [go_sem, ↓reduceIte, List.append_assoc]
  simp (implicitDefEqProofs := false) (disch := omega) only [go_sem, ↓reduceIte, ofD]
theorem reff_spec (key m : List Int) (hk : key.length = 32) (hm : m.length = 32) (hk' : ∀ x ∈ key, 0 ≤ x ∧ x < 256) (hm' : ∀ x ∈ m, 0 ≤ x ∧ x < 256) : FnC Tryz.prog 207 [.ints .u8 32 key, .ints .u8 32 m] [] (.ints .u8 32 (ofD 0 key m)) [] := by
  refine fn0 mix pl207 0 2 [.cell 4 25] Tryz.func207 rfl (by kernel_rfl) (by kernel_rfl) rfl (by kernel_rfl) (by kernel_rfl) (by simp) ?_
  simp (implicitDefEqProofs := false) (disch := omega) only [go_sem, ↓reduceIte]
  refine callB (refofk_spec 0 key m 32 (by decide) (by decide) hk hm (by decide) hk' hm') ?_ ?_
  · simp (implicitDefEqProofs := false) (disch := omega) only [go_sem, ↓reduceIte]
  simp (implicitDefEqProofs := false) (disch := omega) only [go_sem, ↓reduceIte]
theorem refh_spec (key a b : List Int) (hk : key.length = 32) (ha : a.length = 32) (hb : b.length = 32) (hk' : ∀ x ∈ key, 0 ≤ x ∧ x < 256) (ha' : ∀ x ∈ a, 0 ≤ x ∧ x < 256) (hb' : ∀ x ∈ b, 0 ≤ x ∧ x < 256) : FnC Tryz.prog 178 [.ints .u8 32 key, .ints .u8 32 a, .ints .u8 32 b] [] (.ints .u8 32 (ofD 1 key (a ++ b))) [] := by
  refine fn0 mix pl178 0 3 [.cell 6 25] Tryz.func178 rfl (by kernel_rfl) (by kernel_rfl) rfl (by kernel_rfl) (by kernel_rfl) (by simp) ?_
  simp (implicitDefEqProofs := false) (disch := omega) only [go_sem, ↓reduceIte]
  refine callB (refofk_spec 1 key (a ++ b) 64 (by decide) (by decide) hk (by rw [List.length_append]; omega) (by decide) hk' (app_mem ha' hb')) ?_ ?_
  · simp (implicitDefEqProofs := false) (disch := omega) only [go_sem, ↓reduceIte]
  simp (implicitDefEqProofs := false) (disch := omega) only [go_sem, ↓reduceIte]
theorem refatk_spec (key ws : List Int) (hk : key.length = 32) (hk' : ∀ x ∈ key, 0 ≤ x ∧ x < 256) (hl : ws.length = 8) (hw : ∀ w ∈ ws, 0 ≤ w ∧ w < 4294967296) : FnC Tryz.prog 177 [.ints .u8 32 key, .ints .u32 8 ws] [] (.ints .u8 32 (ofD 3 key (bytesA ws))) [] := by
  have hbl := bytesA_len ws
  refine fn0 mix pl177 0 2 [.cell 4 25] Tryz.func177 rfl (by kernel_rfl) (by kernel_rfl) rfl (by kernel_rfl) (by kernel_rfl) (by simp) ?_
  simp (implicitDefEqProofs := false) (disch := omega) only [go_sem, ↓reduceIte]
  refine callF 1 (refbytes_spec ws hl hw) ?_
  simp (implicitDefEqProofs := false) (disch := omega) only [go_sem, ↓reduceIte]
  refine callB (refofk_spec 3 key (bytesA ws) 32 (by decide) (by decide) hk (by omega) (by decide) hk' (bytesA_mem ws)) ?_ ?_
  · simp (implicitDefEqProofs := false) (disch := omega) only [go_sem, ↓reduceIte]
  simp (implicitDefEqProofs := false) (disch := omega) only [go_sem, ↓reduceIte]
/-- What a message is signed by. -/
def msgD (r root : List Int) (index : Int) (m : List Int) : List Int := ofD 2 r (root ++ (be index 32 ++ m))
theorem message_spec (r root : List Int) (index : Int) (ps : List (List Int)) (hr : r.length = 32) (hr' : ∀ x ∈ r, 0 ≤ x ∧ x < 256) (ht : root.length = 32) (ht' : ∀ x ∈ root, 0 ≤ x ∧ x < 256)
    (hp : ∀ p ∈ ps, ∀ x ∈ p, 0 ≤ x ∧ x < 256) (hc : (cat ps).length ≤ 100000) (hps : ps.length ≤ 100000) :
    FnC Tryz.prog 158 [.ints .u8 32 r, .ints .u8 32 root, .int .u64 index, .sl (.lst 1 ps.length (ps.map bsl))] [] (.ints .u8 32 (msgD r root index (cat ps))) [] := by
  have hl1 := be_len 2 32
  have hl2 := be_len index 32
  have h1 := sums_spec (be 2 32 :: r :: root :: be index 32 :: ps) (fun p h => by
    rcases List.mem_cons.1 h with rfl | h
    · exact be_mem 2 32
    rcases List.mem_cons.1 h with rfl | h
    · exact hr'
    rcases List.mem_cons.1 h with rfl | h
    · exact ht'
    rcases List.mem_cons.1 h with rfl | h
    · exact be_mem index 32
    · exact hp p h) (by simp only [cat, List.flatMap_cons, List.length_append, id] at hc ⊢; omega) (by simp only [List.length_cons]; omega)
  have hcc : cat (be 2 32 :: r :: root :: be index 32 :: ps) = be 2 32 ++ (r ++ (root ++ (be index 32 ++ cat ps))) := by simp [cat]
  rw [hcc] at h1
  have e1 : (be 2 32 :: r :: root :: be index 32 :: ps).length = 4 + ps.length := by simp only [List.length_cons]; omega
  refine fn0 mix pl158 0 4 [.cell 8 25] Tryz.func158 rfl (by kernel_rfl) (by kernel_rfl) rfl (by kernel_rfl) (by kernel_rfl) (by simp) ?_
  simp (implicitDefEqProofs := false) (disch := omega) only [go_sem, ↓reduceIte]
  refine callF 1 (ahead_spec 2) ?_
  simp (implicitDefEqProofs := false) (disch := omega) only [go_sem, ↓reduceIte]
  refine callF 1 (ahead_spec index) ?_
  simp (implicitDefEqProofs := false) (disch := omega) only [go_sem, ↓reduceIte]
  refine callB h1 ?_ ?_
  · simp (implicitDefEqProofs := false) (disch := omega) only [go_sem, ↓reduceIte, bsl, hl1, hl2, hr, ht, e1]
  simp (implicitDefEqProofs := false) (disch := omega) only [go_sem, ↓reduceIte, msgD, ofD]
theorem zero_mem (n : Nat) : ∀ x ∈ List.replicate n (0 : Int), 0 ≤ x ∧ x < 256 := by intro x hx; rw [List.mem_replicate] at hx; omega
theorem f_zero : (ofD 0 (List.replicate 32 0) (List.replicate 32 0) = List.replicate 32 0) = False := by
  rw [eq_iff_iff, iff_false]; decide +kernel
theorem f_zero' : ofD 0 (List.replicate 32 0) (List.replicate 32 0) = sumD (List.replicate 96 0) := by
  have : be 0 32 = List.replicate 32 0 := by decide +kernel
  rw [ofD, this, List.replicate_append_replicate, List.replicate_append_replicate]
theorem mask_zero {x : List Int} (h : x.length = 32) (hx : ∀ y ∈ x, 0 ≤ y ∧ y < 256) : maskD x (List.replicate 32 0) = x := by
  refine List.ext_getElem (by rw [maskD_len h (by simp), h]) fun i h1 h2 => ?_
  have e := maskD_get (a := x) (b := List.replicate 32 0) (i := i) h2 (by simp; omega)
  have g := getD_all' hx h2
  have z : (List.replicate 32 (0 : Int)).getD i 0 = 0 := by simp only [List.getD, List.getElem?_replicate]; split <;> rfl
  rw [z, (ixor_u8 g (by omega)).1] at e
  simp only [List.getD, List.getElem?_eq_getElem h1, List.getElem?_eq_getElem h2, Option.getD_some] at e g
  rw [e]
  show (((x[i]).toNat ^^^ 0 : Nat) : Int) = _
  rw [Nat.xor_zero]; omega
end Go.Proofs.YtjaailbgeadnnaaGreat
