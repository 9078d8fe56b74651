/- The contracts of the package mac and of planchetref02. -/
import Derived.Test.YtjaailbgeadnnaaGreatRefSum
namespace Go.Proofs.YtjaailbgeadnnaaGreat
open Go Go.Sy Go.Proofs.Tryz
set_option maxRecDepth 100000
set_option maxHeartbeats 8000000
set_option linter.unusedSimpArgs false
set_option linter.unusedVariables false
attribute [go_sem] pl30
theorem sumD_len (X : List Int) : (sumD X).length = 32 := by
  show (bytesA _).length = 32
  rw [bytesA_len, runB_len _ init_len]
theorem bytesA_mem (ws : List Int) : ∀ x ∈ bytesA ws, 0 ≤ x ∧ x < 256 := by
  intro x hx
  obtain ⟨w, _, hx⟩ := List.mem_flatMap.1 hx
  exact be_mem _ _ x hx
theorem sumD_mem (X : List Int) : ∀ x ∈ sumD X, 0 ≤ x ∧ x < 256 := bytesA_mem _
theorem ixor_u8 {a b : Int} (ha : 0 ≤ a ∧ a < 256) (hb : 0 ≤ b ∧ b < 256) : ixor .u8 a b = ((a.toNat ^^^ b.toNat : Nat) : Int) ∧ 0 ≤ ixor .u8 a b ∧ ixor .u8 a b < 256 := by
  have e := ixor_nat (k := .u8) ha.1 (by show _ < (2 : Int) ^ 8; omega) hb.1 (by show _ < (2 : Int) ^ 8; omega)
  have h : a.toNat ^^^ b.toNat < 2 ^ 8 := Nat.xor_lt_two_pow (by omega) (by omega)
  rw [wrap_u8 (by omega) (by omega)] at e
  rw [e]
  omega
theorem ior_u8 {a b : Int} (ha : 0 ≤ a ∧ a < 256) (hb : 0 ≤ b ∧ b < 256) : ior .u8 a b = ((a.toNat ||| b.toNat : Nat) : Int) ∧ 0 ≤ ior .u8 a b ∧ ior .u8 a b < 256 := by
  have e := ior_nat (k := .u8) ha.1 (by show _ < (2 : Int) ^ 8; omega) hb.1 (by show _ < (2 : Int) ^ 8; omega)
  have h : a.toNat ||| b.toNat < 2 ^ 8 := Nat.or_lt_two_pow (by omega) (by omega)
  rw [wrap_u8 (by omega) (by omega)] at e
  rw [e]
  omega
theorem app_mem {p : Int → Prop} {a b : List Int} (ha : ∀ x ∈ a, p x) (hb : ∀ x ∈ b, p x) : ∀ x ∈ a ++ b, p x := fun x hx => by
  rcases List.mem_append.1 hx with hx | hx
  · exact ha x hx
  · exact hb x hx
theorem xor_zero_iff {x y : Nat} : x ^^^ y = 0 ↔ x = y := by
  constructor
  · intro h
    have e : (x ^^^ y) ^^^ y = x := by rw [Nat.xor_assoc, Nat.xor_self, Nat.xor_zero]
    rw [h, Nat.zero_xor] at e
    exact e.symm
  · intro h; rw [h, Nat.xor_self]
/-- A key's block. -/
def k64 (key : List Int) : List Int := if 64 < key.length then sumD key ++ List.replicate 32 0 else key ++ List.replicate (64 - key.length) 0
def pad (key : List Int) (x : Int) : List Int := (k64 key).map fun y => ixor .u8 y x
theorem k64_len (key : List Int) : (k64 key).length = 64 := by
  unfold k64
  split
  · simp [sumD_len]
  · simp; omega
theorem k64_mem {key : List Int} (h : ∀ x ∈ key, 0 ≤ x ∧ x < 256) : ∀ x ∈ k64 key, 0 ≤ x ∧ x < 256 := by
  intro x hx
  unfold k64 at hx
  split at hx
  · rcases List.mem_append.1 hx with hx | hx
    · exact sumD_mem _ x hx
    · rw [List.mem_replicate] at hx; omega
  · rcases List.mem_append.1 hx with hx | hx
    · exact h x hx
    · rw [List.mem_replicate] at hx; omega
theorem pad_len (key : List Int) (x : Int) : (pad key x).length = 64 := by rw [pad, List.length_map, k64_len]
theorem pad_mem {key : List Int} (h : ∀ x ∈ key, 0 ≤ x ∧ x < 256) {y : Int} (hy : 0 ≤ y ∧ y < 256) : ∀ x ∈ pad key y, 0 ≤ x ∧ x < 256 := by
  intro x hx
  obtain ⟨z, hz, rfl⟩ := List.mem_map.1 hx
  exact (ixor_u8 (k64_mem h z hz) hy).2
theorem pad_get (key : List Int) (x : Int) {i : Nat} (h : i < 64) : (pad key x).getD i 0 = ixor .u8 ((k64 key).getD i 0) x := by
  simp only [List.getD, pad, List.getElem?_map, List.getElem?_eq_getElem (show i < (k64 key).length by rw [k64_len]; exact h), Option.map_some, Option.getD_some]
theorem mix_get {a b : List Int} {i n : Nat} (ha : a.length = n) (hb : b.length = n) (h : i < n) : (a.take i ++ b.drop i).getD i 0 = b.getD i 0 := by
  simp only [List.getD]
  rw [List.getElem?_append_right (by rw [List.length_take]; omega), List.length_take, List.getElem?_drop]
  congr 2; omega
theorem mix_set {a b : List Int} {i n : Nat} (ha : a.length = n) (hb : b.length = n) (h : i < n) : (a.take i ++ b.drop i).set i (a.getD i 0) = a.take (i + 1) ++ b.drop (i + 1) := by
  have hd : b.drop i = b[i]'(by omega) :: b.drop (i + 1) := List.drop_eq_getElem_cons (by omega)
  have ht : (a.take i).length = i := by rw [List.length_take]; omega
  rw [hd, List.set_append_right _ _ (by omega), ht, Nat.sub_self, List.set_cons_zero, ← take_next (show i < a.length by omega), List.append_assoc]
  rfl
theorem padded_spec02 (key : List Int) (x : Int) (n : Nat) (hn : key.length = n) (hb : ∀ x ∈ key, 0 ≤ x ∧ x < 256) (hl : n ≤ 1000000) : FnC Tryz.prog 66 [.sl (.ints .u8 n key), .int .u8 x] [] (.osl 0 [] 1 0 64) [(0, .row (.ints .u8 64 (pad key x)))] := by
  have hkl := k64_len key
  have hpl := pad_len key x
  have rd : (List.replicate 64 (0 : Int)).drop 32 = List.replicate 32 0 := rfl
  have rdn : (List.replicate 64 (0 : Int)).drop n = List.replicate (64 - n) 0 := List.drop_replicate
  refine fnN mix [] 0 2 [.tmp 4] Tryz.func66 rfl (by kernel_rfl) (by kernel_rfl) rfl (by kernel_rfl) (by kernel_rfl) (by simp) ?_
  simp (implicitDefEqProofs := false) (disch := omega) only [go_sem, ↓reduceIte]
  refine brd (fun h => ?_) (fun h => ?_)
  · have hk : k64 key = sumD key ++ List.replicate 32 0 := by unfold k64; rw [if_pos (by omega)]
    have h1 := sums_spec [key] (by simpa using hb) (by simp [cat]; omega) (by simp)
    have hc : cat [key] = key := by simp [cat]
    rw [hc] at h1
    simp (implicitDefEqProofs := false) (disch := omega) only [go_sem, ↓reduceIte]
    refine callB h1 ?_ ?_
    · simp (implicitDefEqProofs := false) (disch := omega) only [go_sem, ↓reduceIte, bsl, hn]
    simp (implicitDefEqProofs := false) (disch := omega) only [go_sem, ↓reduceIte, rd]
    rw [← hk]
    refine loop (ι := Nat) 3 (fun i => i ≤ 64) (fun i => [(1, .int .u8 x), (6, .osl 2 [] 1 0 64), (20, .int .i64 64), (21, .int .i64 i)]) (fun i => [(2, .row (.ints .u8 64 ((pad key x).take i ++ (k64 key).drop i)))]) (fun i => 64 - i) 0 [(2, 2)] [] (Nat.zero_le _) rfl ?_ ?_ ?_ (fun i hi => ?_)
    · simp (implicitDefEqProofs := false) (disch := omega) only [go_sem, ↓reduceIte]
    · simp (implicitDefEqProofs := false) (disch := omega) only [go_sem, ↓reduceIte]
    · simp (implicitDefEqProofs := false) (disch := omega) only [go_sem, ↓reduceIte, List.take_zero, List.drop_zero, List.nil_append]
    simp (implicitDefEqProofs := false) (disch := omega) only [go_sem, ↓reduceIte]
    refine brd (fun h => ?_) (fun h => ?_)
    · have e1 := mix_get hpl hkl (show i < 64 by omega)
      have e2 := mix_set hpl hkl (show i < 64 by omega)
      rw [pad_get key x (show i < 64 by omega)] at e2
      simp (implicitDefEqProofs := false) (disch := omega) only [go_sem, ↓reduceIte, e1, e2]
      refine ⟨i + 1, [(2, 2)], [], [], by dsimp only; omega, by dsimp only; omega, rfl, ?_, ?_, ?_⟩ <;> simp (implicitDefEqProofs := false) (disch := omega) only [go_sem, ↓reduceIte, e2]
    obtain rfl : i = 64 := by omega
    have e3 : (pad key x).take 64 ++ (k64 key).drop 64 = pad key x := by rw [List.take_of_length_le (by omega), List.drop_of_length_le (by omega), List.append_nil]
    rw [e3]
    simp (implicitDefEqProofs := false) (disch := omega) only [go_sem, ↓reduceIte]
    refine ⟨[(0, 2)], [], [], rfl, ?_, ?_, ?_⟩ <;> simp (implicitDefEqProofs := false) (disch := omega) only [go_sem, ↓reduceIte]
  · have hk : k64 key = key ++ List.replicate (64 - n) 0 := by unfold k64; rw [if_neg (by omega), hn]
    simp (implicitDefEqProofs := false) (disch := omega) only [go_sem, ↓reduceIte]
    refine brd (fun h0 => ?_) (fun h0 => ?_)
    · have e0 : List.replicate 64 (0 : Int) = k64 key := by
        rw [hk, List.eq_nil_of_length_eq_zero (show key.length = 0 by omega), h0]; rfl
      rw [e0]
      simp (implicitDefEqProofs := false) (disch := omega) only [go_sem, ↓reduceIte]
      refine loop (ι := Nat) 1 (fun i => i ≤ 64) (fun i => [(1, .int .u8 x), (6, .osl 0 [] 1 0 64), (20, .int .i64 64), (21, .int .i64 i)]) (fun i => [(0, .row (.ints .u8 64 ((pad key x).take i ++ (k64 key).drop i)))]) (fun i => 64 - i) 0 [(0, 0)] [] (Nat.zero_le _) rfl ?_ ?_ ?_ (fun i hi => ?_)
      · simp (implicitDefEqProofs := false) (disch := omega) only [go_sem, ↓reduceIte]
      · simp (implicitDefEqProofs := false) (disch := omega) only [go_sem, ↓reduceIte]
      · simp (implicitDefEqProofs := false) (disch := omega) only [go_sem, ↓reduceIte, List.take_zero, List.drop_zero, List.nil_append]
      simp (implicitDefEqProofs := false) (disch := omega) only [go_sem, ↓reduceIte]
      refine brd (fun h => ?_) (fun h => ?_)
      · have e1 := mix_get hpl hkl (show i < 64 by omega)
        have e2 := mix_set hpl hkl (show i < 64 by omega)
        rw [pad_get key x (show i < 64 by omega)] at e2
        simp (implicitDefEqProofs := false) (disch := omega) only [go_sem, ↓reduceIte, e1, e2]
        refine ⟨i + 1, [(0, 0)], [], [], by dsimp only; omega, by dsimp only; omega, rfl, ?_, ?_, ?_⟩ <;> simp (implicitDefEqProofs := false) (disch := omega) only [go_sem, ↓reduceIte, e2]
      obtain rfl : i = 64 := by omega
      have e3 : (pad key x).take 64 ++ (k64 key).drop 64 = pad key x := by rw [List.take_of_length_le (by omega), List.drop_of_length_le (by omega), List.append_nil]
      rw [e3]
      simp (implicitDefEqProofs := false) (disch := omega) only [go_sem, ↓reduceIte]
      refine ⟨[(0, 0)], [], [], rfl, ?_, ?_, ?_⟩ <;> simp (implicitDefEqProofs := false) (disch := omega) only [go_sem, ↓reduceIte]
    · simp (implicitDefEqProofs := false) (disch := omega) only [go_sem, ↓reduceIte]
      refine brd (fun h1 => ?_) (fun h1 => by omega)
      simp (implicitDefEqProofs := false) (disch := omega) only [go_sem, ↓reduceIte, rdn]
      rw [← hk]
      refine loop (ι := Nat) 1 (fun i => i ≤ 64) (fun i => [(1, .int .u8 x), (6, .osl 0 [] 1 0 64), (20, .int .i64 64), (21, .int .i64 i)]) (fun i => [(0, .row (.ints .u8 64 ((pad key x).take i ++ (k64 key).drop i)))]) (fun i => 64 - i) 0 [(0, 0)] [] (Nat.zero_le _) rfl ?_ ?_ ?_ (fun i hi => ?_)
      · simp (implicitDefEqProofs := false) (disch := omega) only [go_sem, ↓reduceIte]
      · simp (implicitDefEqProofs := false) (disch := omega) only [go_sem, ↓reduceIte]
      · simp (implicitDefEqProofs := false) (disch := omega) only [go_sem, ↓reduceIte, List.take_zero, List.drop_zero, List.nil_append]
      simp (implicitDefEqProofs := false) (disch := omega) only [go_sem, ↓reduceIte]
      refine brd (fun h => ?_) (fun h => ?_)
      · have e1 := mix_get hpl hkl (show i < 64 by omega)
        have e2 := mix_set hpl hkl (show i < 64 by omega)
        rw [pad_get key x (show i < 64 by omega)] at e2
        simp (implicitDefEqProofs := false) (disch := omega) only [go_sem, ↓reduceIte, e1, e2]
        refine ⟨i + 1, [(0, 0)], [], [], by dsimp only; omega, by dsimp only; omega, rfl, ?_, ?_, ?_⟩ <;> simp (implicitDefEqProofs := false) (disch := omega) only [go_sem, ↓reduceIte, e2]
      obtain rfl : i = 64 := by omega
      have e3 : (pad key x).take 64 ++ (k64 key).drop 64 = pad key x := by rw [List.take_of_length_le (by omega), List.drop_of_length_le (by omega), List.append_nil]
      rw [e3]
      simp (implicitDefEqProofs := false) (disch := omega) only [go_sem, ↓reduceIte]
      refine ⟨[(0, 0)], [], [], rfl, ?_, ?_, ?_⟩ <;> simp (implicitDefEqProofs := false) (disch := omega) only [go_sem, ↓reduceIte]
theorem sums2 {a b : List Int} (ha : ∀ x ∈ a, 0 ≤ x ∧ x < 256) (hb : ∀ x ∈ b, 0 ≤ x ∧ x < 256) (hn : a.length + b.length ≤ 1000000) : FnC Tryz.prog 65 [.sl (.lst 1 2 [bsl a, bsl b])] [] (.ints .u8 32 (sumD (a ++ b))) [] := by
  have := sums_spec [a, b] (by intro p hp; simp only [List.mem_cons, List.not_mem_nil, or_false] at hp; rcases hp with rfl | rfl <;> assumption) (by simpa [cat] using hn) (by simp)
  have hc : cat [a, b] = a ++ b := by simp [cat]
  rw [hc] at this
  exact this
/-- A text's code. -/
def code (key text : List Int) : List Int := sumD (pad key 92 ++ sumD (pad key 54 ++ text))
theorem code_spec (key : List Int) (ps : List (List Int)) (n : Nat) (hn : key.length = n) (hk : ∀ x ∈ key, 0 ≤ x ∧ x < 256) (hp : ∀ p ∈ ps, ∀ x ∈ p, 0 ≤ x ∧ x < 256) (hl : n ≤ 100000) (hc : (cat ps).length ≤ 100000) (hps : ps.length ≤ 100000) :
    FnC Tryz.prog 30 [.sl (.ints .u8 n key), .sl (.lst 1 ps.length (ps.map bsl))] [] (.ints .u8 32 (code key (cat ps))) [] := by
  have hm1 := pad_mem hk (show (0 : Int) ≤ 54 ∧ (54 : Int) < 256 by omega)
  have hm2 := pad_mem hk (show (0 : Int) ≤ 92 ∧ (92 : Int) < 256 by omega)
  have hl1 := pad_len key 54
  have hl2 := pad_len key 92
  have h1 := sums_spec (pad key 54 :: ps) (fun p h => by
    rcases List.mem_cons.1 h with rfl | h
    · exact hm1
    · exact hp p h) (by simp only [cat, List.flatMap_cons, List.length_append, id] at hc ⊢; omega) (by simp only [List.length_cons]; omega)
  have hcc : cat (pad key 54 :: ps) = pad key 54 ++ cat ps := by simp [cat]
  rw [hcc] at h1
  have hsl := sumD_len (pad key 54 ++ cat ps)
  have h2 := sums2 hm2 (sumD_mem (pad key 54 ++ cat ps)) (by rw [hl2, hsl]; decide)
  have e1 : (pad key 54 :: ps).length = 1 + ps.length := by rw [List.length_cons]; omega
  refine fn0 mix pl30 0 2 [.cell 4 25] Tryz.func30 rfl (by kernel_rfl) (by kernel_rfl) rfl (by kernel_rfl) (by kernel_rfl) (by simp) ?_
  simp (implicitDefEqProofs := false) (disch := omega) only [go_sem, ↓reduceIte]
  refine callF 1 (padded_spec02 key 54 n hn hk (by omega)) ?_
  simp (implicitDefEqProofs := false) (disch := omega) only [go_sem, ↓reduceIte]
  refine callB h1 ?_ ?_
  · simp (implicitDefEqProofs := false) (disch := omega) only [go_sem, ↓reduceIte, bsl, hl1, e1, List.singleton_append]
  simp (implicitDefEqProofs := false) (disch := omega) only [go_sem, ↓reduceIte]
  refine callF 1 (padded_spec02 key 92 n hn hk (by omega)) ?_
  simp (implicitDefEqProofs := false) (disch := omega) only [go_sem, ↓reduceIte]
  refine callB h2 ?_ ?_
  · simp (implicitDefEqProofs := false) (disch := omega) only [go_sem, ↓reduceIte, bsl, hl2, hsl]
  simp (implicitDefEqProofs := false) (disch := omega) only [go_sem, ↓reduceIte, code]
theorem code_ex : code [74, 101, 102, 101] [119, 104, 97, 116, 32, 100, 111, 32, 121, 97, 32, 119, 97, 110, 116, 32, 102, 111, 114, 32, 110, 111, 116, 104, 105, 110, 103, 63] =
    [91, 220, 193, 70, 191, 96, 117, 78, 106, 4, 36, 38, 8, 149, 117, 199, 90, 0, 63, 8, 157, 39, 57, 131, 157, 236, 88, 185, 100, 236, 56, 67] := by decide +kernel
theorem refcode_spec (key text : List Int) (n m : Nat) (hn : key.length = n) (hm : text.length = m) (hkb : ∀ x ∈ key, 0 ≤ x ∧ x < 256) (ht : ∀ x ∈ text, 0 ≤ x ∧ x < 256) (hl : n ≤ 100000) (hc : m ≤ 100000) :
    FnC Tryz.prog 28 [.sl (.ints .u8 n key), .sl (.ints .u8 m text)] [] (.ints .u8 32 (code key text)) [] := by
  have hm1 := pad_mem hkb (show (0 : Int) ≤ 54 ∧ (54 : Int) < 256 by omega)
  have hm2 := pad_mem hkb (show (0 : Int) ≤ 92 ∧ (92 : Int) < 256 by omega)
  have hl1 := pad_len key 54
  have hl2 := pad_len key 92
  refine fn0 mix [] 0 2 [.cell 4 25] Tryz.func28 rfl (by kernel_rfl) (by kernel_rfl) rfl (by kernel_rfl) (by kernel_rfl) (by simp) ?_
  simp (implicitDefEqProofs := false) (disch := omega) only [go_sem, ↓reduceIte]
  refine brd (fun h => ?_) (fun h => ?_)
  · have hk : k64 key = sumD key ++ List.replicate 32 0 := by unfold k64; rw [if_pos (by omega)]
    have h1 := refsum_spec key hkb (by omega)
    rw [hn] at h1
    simp (implicitDefEqProofs := false) (disch := omega) only [go_sem, ↓reduceIte]
    refine call0 h1 ?_
    simp (implicitDefEqProofs := false) (disch := omega) only [go_sem, ↓reduceIte]
    refine loop (ι := Nat) 4 (fun i => i ≤ 64) (fun i => [(0, .osl 1 [] 1 0 32), (1, .sl (.ints .u8 m text)), (4, .ref 0 []), (6, .osl 2 [] 1 0 i), (7, .osl 3 [] 1 0 i), (8, .int .i64 i)])
      (fun i => [(1, .var (.ints .u8 32 (sumD key))),(0, .var (.ints .u8 32 (List.replicate 32 0))), (2, .row (.ints .u8 i ((pad key 54).take i))), (3, .row (.ints .u8 i ((pad key 92).take i)))]) (fun i => 64 - i) 0 [(1, 1),(0, 0)] [2, 3] (Nat.zero_le _) rfl ?_ ?_ ?_ (fun i hi => ?_)
    · simp (implicitDefEqProofs := false) (disch := omega) only [go_sem, ↓reduceIte]
    · simp (implicitDefEqProofs := false) (disch := omega) only [go_sem, ↓reduceIte]
    · simp (implicitDefEqProofs := false) (disch := omega) only [go_sem, ↓reduceIte]
    simp (implicitDefEqProofs := false) (disch := omega) only [go_sem, ↓reduceIte]
    refine brd (fun h => ?_) (fun h => ?_)
    · have p1 := pad_get key 54 (show i < 64 by omega)
      have p2 := pad_get key 92 (show i < 64 by omega)
      have t1 := take_next (l := pad key 54) (show i < (pad key 54).length by omega)
      have t2 := take_next (l := pad key 92) (show i < (pad key 92).length by omega)
      rw [p1] at t1
      rw [p2] at t2
      simp (implicitDefEqProofs := false) (disch := omega) only [go_sem, ↓reduceIte]
      have g : (k64 key).getD i 0 = if i < 32 then (sumD key).getD i 0 else 0 := by
        rw [hk]
        by_cases h32 : i < 32
        · rw [if_pos h32, getD_left (by rw [sumD_len]; exact h32)]
        · rw [if_neg h32]
          simp only [List.getD, List.getElem?_append_right (show (sumD key).length ≤ i by rw [sumD_len]; omega), List.getElem?_replicate, sumD_len]
          split <;> rfl
      refine brd (fun h5 => ?_) (fun h5 => ?_)
      · rw [g, if_pos (by omega)] at t1 t2
        simp (implicitDefEqProofs := false) (disch := omega) only [go_sem, ↓reduceIte, t1, t2]
        refine ⟨i + 1, [(0, 0), (1, 1), (2, 5), (3, 7)], [], [], by dsimp only; omega, by dsimp only; omega, rfl, ?_, ?_, ?_⟩ <;> simp (implicitDefEqProofs := false) (disch := omega) only [go_sem, ↓reduceIte, t1, t2]
      · rw [g, if_neg (by omega)] at t1 t2
        simp (implicitDefEqProofs := false) (disch := omega) only [go_sem, ↓reduceIte, t1, t2]
        refine ⟨i + 1, [(0, 0), (1, 1), (2, 5), (3, 7)], [], [], by dsimp only; omega, by dsimp only; omega, rfl, ?_, ?_, ?_⟩ <;> simp (implicitDefEqProofs := false) (disch := omega) only [go_sem, ↓reduceIte, t1, t2]
    obtain rfl : i = 64 := by omega
    rw [List.take_of_length_le (by omega), List.take_of_length_le (by omega)]
    simp (implicitDefEqProofs := false) (disch := omega) only [go_sem, ↓reduceIte]
    refine callB (refsum_spec (pad key 54 ++ text) (app_mem hm1 ht) (by rw [List.length_append, hl1]; omega)) ?_ ?_
    · simp (implicitDefEqProofs := false) (disch := omega) only [go_sem, ↓reduceIte, List.length_append, hl1, hm]
    simp (implicitDefEqProofs := false) (disch := omega) only [go_sem, ↓reduceIte]
    refine callB (refsum_spec (pad key 92 ++ sumD (pad key 54 ++ text)) (app_mem hm2 (sumD_mem _)) (by rw [List.length_append, hl2, sumD_len]; decide)) ?_ ?_
    · simp (implicitDefEqProofs := false) (disch := omega) only [go_sem, ↓reduceIte, List.length_append, hl2, sumD_len]
    simp (implicitDefEqProofs := false) (disch := omega) only [go_sem, ↓reduceIte, code]
  · have hk : k64 key = key ++ List.replicate (64 - n) 0 := by unfold k64; rw [if_neg (by omega), hn]
    simp (implicitDefEqProofs := false) (disch := omega) only [go_sem, ↓reduceIte]
    refine loop (ι := Nat) 3 (fun i => i ≤ 64) (fun i => [(0, .sl (.ints .u8 n key)), (1, .sl (.ints .u8 m text)), (4, .ref 0 []), (6, .osl 1 [] 1 0 i), (7, .osl 2 [] 1 0 i), (8, .int .i64 i)])
      (fun i => [(0, .var (.ints .u8 32 (List.replicate 32 0))), (1, .row (.ints .u8 i ((pad key 54).take i))), (2, .row (.ints .u8 i ((pad key 92).take i)))]) (fun i => 64 - i) 0 [(0, 0)] [1, 2] (Nat.zero_le _) rfl ?_ ?_ ?_ (fun i hi => ?_)
    · simp (implicitDefEqProofs := false) (disch := omega) only [go_sem, ↓reduceIte]
    · simp (implicitDefEqProofs := false) (disch := omega) only [go_sem, ↓reduceIte]
    · simp (implicitDefEqProofs := false) (disch := omega) only [go_sem, ↓reduceIte]
    simp (implicitDefEqProofs := false) (disch := omega) only [go_sem, ↓reduceIte]
    refine brd (fun h => ?_) (fun h => ?_)
    · have p1 := pad_get key 54 (show i < 64 by omega)
      have p2 := pad_get key 92 (show i < 64 by omega)
      have t1 := take_next (l := pad key 54) (show i < (pad key 54).length by omega)
      have t2 := take_next (l := pad key 92) (show i < (pad key 92).length by omega)
      rw [p1] at t1
      rw [p2] at t2
      simp (implicitDefEqProofs := false) (disch := omega) only [go_sem, ↓reduceIte]
      have g : (k64 key).getD i 0 = if i < n then key.getD i 0 else 0 := by
        rw [hk]
        by_cases h32 : i < n
        · rw [if_pos h32, getD_left (by omega)]
        · rw [if_neg h32]
          simp only [List.getD, List.getElem?_append_right (show key.length ≤ i by omega), List.getElem?_replicate]
          split <;> rfl
      refine brd (fun h5 => ?_) (fun h5 => ?_)
      · rw [g, if_pos (by omega)] at t1 t2
        simp (implicitDefEqProofs := false) (disch := omega) only [go_sem, ↓reduceIte, t1, t2]
        refine ⟨i + 1, [(0, 0), (1, 4), (2, 6)], [], [], by dsimp only; omega, by dsimp only; omega, rfl, ?_, ?_, ?_⟩ <;> simp (implicitDefEqProofs := false) (disch := omega) only [go_sem, ↓reduceIte, t1, t2]
      · rw [g, if_neg (by omega)] at t1 t2
        simp (implicitDefEqProofs := false) (disch := omega) only [go_sem, ↓reduceIte, t1, t2]
        refine ⟨i + 1, [(0, 0), (1, 4), (2, 6)], [], [], by dsimp only; omega, by dsimp only; omega, rfl, ?_, ?_, ?_⟩ <;> simp (implicitDefEqProofs := false) (disch := omega) only [go_sem, ↓reduceIte, t1, t2]
    obtain rfl : i = 64 := by omega
    rw [List.take_of_length_le (by omega), List.take_of_length_le (by omega)]
    simp (implicitDefEqProofs := false) (disch := omega) only [go_sem, ↓reduceIte]
    refine callB (refsum_spec (pad key 54 ++ text) (app_mem hm1 ht) (by rw [List.length_append, hl1]; omega)) ?_ ?_
    · simp (implicitDefEqProofs := false) (disch := omega) only [go_sem, ↓reduceIte, List.length_append, hl1, hm]
    simp (implicitDefEqProofs := false) (disch := omega) only [go_sem, ↓reduceIte]
    refine callB (refsum_spec (pad key 92 ++ sumD (pad key 54 ++ text)) (app_mem hm2 (sumD_mem _)) (by rw [List.length_append, hl2, sumD_len]; decide)) ?_ ?_
    · simp (implicitDefEqProofs := false) (disch := omega) only [go_sem, ↓reduceIte, List.length_append, hl2, sumD_len]
    simp (implicitDefEqProofs := false) (disch := omega) only [go_sem, ↓reduceIte, code]
/-- What is unlike, gathered. -/
def un (a b : List Int) : Nat → Int
  | 0 => 0
  | i + 1 => ior .u8 (un a b i) (ixor .u8 (a.getD i 0) (b.getD i 0))
theorem un_law {a b : List Int} (ha : ∀ x ∈ a, 0 ≤ x ∧ x < 256) (hb : ∀ x ∈ b, 0 ≤ x ∧ x < 256) : ∀ i, i ≤ a.length → i ≤ b.length → (0 ≤ un a b i ∧ un a b i < 256) ∧ (un a b i = 0 ↔ a.take i = b.take i)
  | 0, _, _ => by simp [un]
  | i + 1, h1, h2 => by
    obtain ⟨r, ih⟩ := un_law ha hb i (by omega) (by omega)
    have x := getD_all' ha (show i < a.length by omega)
    have y := getD_all' hb (show i < b.length by omega)
    obtain ⟨e1, r1⟩ := ixor_u8 x y
    obtain ⟨e2, r2⟩ := ior_u8 r r1
    refine ⟨by rw [un]; exact r2, ?_⟩
    have z : un a b (i + 1) = 0 ↔ un a b i = 0 ∧ a.getD i 0 = b.getD i 0 := by
      rw [un, e2]
      have o : ((un a b i).toNat ||| (ixor .u8 (a.getD i 0) (b.getD i 0)).toNat : Nat) = 0 ↔ (un a b i).toNat = 0 ∧ (ixor .u8 (a.getD i 0) (b.getD i 0)).toNat = 0 := Nat.or_eq_zero_iff
      have w : (a.getD i 0).toNat ^^^ (b.getD i 0).toNat = 0 ↔ (a.getD i 0).toNat = (b.getD i 0).toNat := xor_zero_iff
      omega
    rw [z, ih, ← take_next (show i < a.length by omega), ← take_next (show i < b.length by omega)]
    constructor
    · rintro ⟨h, h'⟩; rw [h, h']
    · intro h
      have hl : (a.take i).length = (b.take i).length := by rw [List.length_take, List.length_take]; omega
      obtain ⟨h3, h4⟩ := List.append_inj h hl
      exact ⟨h3, by simpa using h4⟩
end Go.Proofs.YtjaailbgeadnnaaGreat
