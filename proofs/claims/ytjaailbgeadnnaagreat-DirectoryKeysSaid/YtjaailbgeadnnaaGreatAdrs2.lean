/- The contracts of adrs.Bytes, adrs.Parse and of planchetref04; the walks of AdrsMakes and AdrsParses. -/
import Derived.Test.YtjaailbgeadnnaaGreatAdrs
import Derived.Test.YtjaailbgeadnnaaGreatPack
namespace Go.Proofs.YtjaailbgeadnnaaGreat
open Go Go.Sy Go.Proofs.Tryz
set_option maxRecDepth 100000
set_option maxHeartbeats 4000000
set_option linter.unusedSimpArgs false
set_option linter.unusedVariables false

theorem refbase_spec (l a k f : Int) (ha : 0 ≤ a) (ha' : a < 18446744073709551616) : FnC Tryz.prog 143 [.int .u32 l, .int .u64 a, .int .u32 k, .int .u32 f] [] (.ints .u32 8 (base l a k f)) [] := by
  have e1 : a.tdiv 4294967296 = a / 4294967296 := Int.tdiv_eq_ediv_of_nonneg ha
  have e2 : a.tmod 4294967296 = a % 4294967296 := Int.tmod_eq_emod_of_nonneg ha
  have e3 : ishr .u64 a 32 = a / 4294967296 := ishr_div .u64 a 32 (by decide)
  have e4 : IntKind.u32.wrap (a % 4294967296) = IntKind.u32.wrap a := by rw [wrap_u32', wrap_u32']; omega
  refine fn0 mix [] 0 4 [.cell 8 251] Tryz.func143 rfl (by kernel_rfl) (by kernel_rfl) rfl (by kernel_rfl) (by kernel_rfl) (by simp) ?_
  simp (implicitDefEqProofs := false) (disch := omega) only [go_sem, ↓reduceIte, e1, e2]
  simp only [base, e3, ← e4]
  simp
  exact ⟨wrap_u32 (by omega) (by omega), wrap_u32 (by omega) (by omega)⟩
theorem refat_spec (a0 a1 a2 a3 a4 a5 a6 a7 x y z : Int) : FnC Tryz.prog 146 [.ints .u32 8 [a0, a1, a2, a3, a4, a5, a6, a7], .int .u32 x, .int .u32 y, .int .u32 z] [] (.ints .u32 8 [a0, a1, a2, a3, a4, x, y, z]) [] := by
  refine fn0 mix [] 0 4 [.cell 8 251] Tryz.func146 rfl (by kernel_rfl) (by kernel_rfl) rfl (by kernel_rfl) (by kernel_rfl) (by simp) ?_
  simp (implicitDefEqProofs := false) (disch := omega) only [go_sem, ↓reduceIte]
def bytesA (ws : List Int) : List Int := ws.flatMap fun w => be w 4
theorem bytesA_len : ∀ ws : List Int, (bytesA ws).length = 4 * ws.length
  | [] => rfl
  | w :: ws => by
    have := bytesA_len ws
    simp only [bytesA, List.flatMap_cons, List.length_append, be_len, List.length_cons] at this ⊢
    omega
theorem bytesA_succ {ws : List Int} {i : Nat} (h : i < ws.length) : bytesA (ws.take (i + 1)) = bytesA (ws.take i) ++ be (ws.getD i 0) 4 := by
  unfold bytesA
  rw [List.take_add_one, List.flatMap_append, List.getElem?_eq_getElem h]
  simp only [Option.toList_some, List.flatMap_cons, List.flatMap_nil, List.append_nil, List.getD, List.getElem?_eq_getElem h, Option.getD_some]
theorem bytes_spec (ws : List Int) (hl : ws.length = 8) (hw : ∀ w ∈ ws, 0 ≤ w ∧ w < 4294967296) : FnC Tryz.prog 192 [.ints .u32 8 ws] [] (.osl 0 [] 1 0 32) [(0, .row (.ints .u8 32 (bytesA ws)))] := by
  refine fnN mix [] 0 1 [.tmp 2] Tryz.func192 rfl (by kernel_rfl) (by kernel_rfl) rfl (by kernel_rfl) (by kernel_rfl) (by simp) ?_
  simp (implicitDefEqProofs := false) (disch := omega) only [go_sem, ↓reduceIte]
  refine loop (ι := Nat) 1 (fun i => i ≤ 8) (fun i => [(6, .ints .u32 8 ws), (7, .int .i64 i), (3, .osl 0 [] 1 0 (4 * i))]) (fun i => [(0, .row (.ints .u8 (4 * i) (bytesA (ws.take i))))]) (fun i => 8 - i) 0 [] [0] (Nat.zero_le _) rfl ?_ ?_ ?_ (fun i hi => ?_)
  · simp (implicitDefEqProofs := false) (disch := omega) only [go_sem, ↓reduceIte]
  · simp (implicitDefEqProofs := false) (disch := omega) only [go_sem, ↓reduceIte]
  · simp (implicitDefEqProofs := false) (disch := omega) only [go_sem, ↓reduceIte, List.take_zero, bytesA, List.flatMap_nil]
  simp (implicitDefEqProofs := false) (disch := omega) only [go_sem, ↓reduceIte]
  refine brd (fun h => ?_) (fun h => ?_)
  · have hx := getD_all' hw (show i < ws.length by omega)
    have hs := bytesA_succ (show i < ws.length by omega)
    simp (implicitDefEqProofs := false) (disch := omega) only [go_sem, ↓reduceIte]
    refine callF 1 (number_spec _ 4 4 rfl) ?_
    simp (implicitDefEqProofs := false) (disch := omega) only [go_sem, ↓reduceIte]
    refine ⟨i + 1, [(0, 2)], [], [], by dsimp only; omega, by dsimp only; omega, rfl, ?_, ?_, ?_⟩ <;> simp (implicitDefEqProofs := false) (disch := omega) only [go_sem, ↓reduceIte, hs, Nat.mul_add]
  obtain rfl : i = 8 := by omega
  simp (implicitDefEqProofs := false) (disch := omega) only [go_sem, ↓reduceIte, List.take_of_length_le]
  refine ⟨[(0, 0)], [], [], rfl, ?_, ?_, ?_⟩ <;> simp (implicitDefEqProofs := false) (disch := omega) only [go_sem, ↓reduceIte, List.take_of_length_le]
theorem be4 (w : Int) (h0 : 0 ≤ w) (h1 : w < 4294967296) : be w 4 = [w / 16777216 % 256, w / 65536 % 256 % 256, w / 256 % 256 % 256, w % 256 % 256] := by
  have e3 : (256 : Int) ^ 3 = 16777216 := by decide
  have e2 : (256 : Int) ^ 2 = 65536 := by decide
  simp only [be, e3, e2, Int.pow_zero, Int.ediv_one, Int.pow_one, Int.pow_succ, Int.one_mul]
  simp only [Int.emod_emod]
theorem refbytes_spec (ws : List Int) (hl : ws.length = 8) (hw : ∀ w ∈ ws, 0 ≤ w ∧ w < 4294967296) : FnC Tryz.prog 199 [.ints .u32 8 ws] [] (.osl 0 [] 1 0 32) [(0, .row (.ints .u8 32 (bytesA ws)))] := by
  refine fnN mix [] 0 1 [.tmp 2] Tryz.func199 rfl (by kernel_rfl) (by kernel_rfl) rfl (by kernel_rfl) (by kernel_rfl) (by simp) ?_
  simp (implicitDefEqProofs := false) (disch := omega) only [go_sem, ↓reduceIte]
  refine loop (ι := Nat) 2 (fun i => i ≤ 8) (fun i => [(1, .ref 0 []), (4, .int .i64 i), (3, .osl 1 [] 1 0 (4 * i))]) (fun i => [(0, .var (.ints .u32 8 ws)), (1, .row (.ints .u8 (4 * i) (bytesA (ws.take i))))]) (fun i => 8 - i) 0 [(0, 0)] [1] (Nat.zero_le _) rfl ?_ ?_ ?_ (fun i hi => ?_)
  · simp (implicitDefEqProofs := false) (disch := omega) only [go_sem, ↓reduceIte]
  · simp (implicitDefEqProofs := false) (disch := omega) only [go_sem, ↓reduceIte]
  · simp (implicitDefEqProofs := false) (disch := omega) only [go_sem, ↓reduceIte, List.take_zero, bytesA, List.flatMap_nil]
  simp (implicitDefEqProofs := false) (disch := omega) only [go_sem, ↓reduceIte]
  refine brd (fun h => ?_) (fun h => ?_)
  · have hx := getD_all' hw (show i < ws.length by omega)
    have hs := bytesA_succ (show i < ws.length by omega)
    rw [be4 _ hx.1 hx.2] at hs
    have d1 : ∀ y : Int, (ws.getD i 0).tdiv y = ws.getD i 0 / y := fun y => Int.tdiv_eq_ediv_of_nonneg hx.1
    have d2 : ∀ y z : Int, 0 ≤ z → z.tmod y = z % y := fun y z h => Int.tmod_eq_emod_of_nonneg h
    simp (implicitDefEqProofs := false) (disch := omega) only [go_sem, ↓reduceIte, d1, d2, u8_mod]
    refine ⟨i + 1, [(0, 0), (1, 3)], [], [], by dsimp only; omega, by dsimp only; omega, rfl, ?_, ?_, ?_⟩ <;> simp (implicitDefEqProofs := false) (disch := omega) only [go_sem, ↓reduceIte, hs, Nat.mul_add]
  obtain rfl : i = 8 := by omega
  simp (implicitDefEqProofs := false) (disch := omega) only [go_sem, ↓reduceIte, List.take_of_length_le]
  refine ⟨[(0, 1)], [], [], rfl, ?_, ?_, ?_⟩ <;> simp (implicitDefEqProofs := false) (disch := omega) only [go_sem, ↓reduceIte, List.take_of_length_le]
def words : Nat → List Int → List Int
  | 0, _ => []
  | k + 1, xs => ofb (xs.take 4) :: words k (xs.drop 4)
theorem words_len : ∀ (k : Nat) (xs : List Int), (words k xs).length = k
  | 0, _ => rfl
  | k + 1, xs => by simp [words, words_len k]
theorem words_get : ∀ (k i : Nat) (xs : List Int), i < k → (words k xs).getD i 0 = ofb ((xs.drop (4 * i)).take 4)
  | 0, i, xs, h => by omega
  | k + 1, 0, xs, h => by simp [words]
  | k + 1, i + 1, xs, h => by
    have := words_get k i (xs.drop 4) (by omega)
    rw [words, List.getD_cons_succ, this, List.drop_drop, show 4 + 4 * i = 4 * (i + 1) by omega]
theorem words_mem : ∀ (k : Nat) (xs : List Int), (∀ x ∈ xs, 0 ≤ x ∧ x < 256) → ∀ w ∈ words k xs, 0 ≤ w ∧ w < 4294967296
  | 0, xs, _, w, h => by cases h
  | k + 1, xs, hb, w, h => by
    simp only [words, List.mem_cons] at h
    rcases h with rfl | h
    · have := ofb_lt hb 4
      have e : (256 : Int) ^ 4 = 4294967296 := by decide
      rw [e] at this
      exact this
    · exact words_mem k (xs.drop 4) (fun x hx => hb x (List.mem_of_mem_drop hx)) w h
theorem bytes_words : ∀ (k : Nat) (xs : List Int), xs.length = 4 * k → (∀ x ∈ xs, 0 ≤ x ∧ x < 256) → bytesA (words k xs) = xs
  | 0, xs, h, _ => by
    have : xs = [] := by simpa using h
    subst this; rfl
  | k + 1, xs, h, hb => by
    have ih := bytes_words k (xs.drop 4) (by rw [List.length_drop]; omega) (fun x hx => hb x (List.mem_of_mem_drop hx))
    have h4 := be_ofb 4 (xs.take 4) (by rw [List.length_take]; omega) (fun x hx => hb x (List.mem_of_mem_take hx))
    unfold bytesA at ih ⊢
    rw [words, List.flatMap_cons, h4, ih, List.take_append_drop]
theorem words_bytes : ∀ (ws : List Int), (∀ w ∈ ws, 0 ≤ w ∧ w < 4294967296) → words ws.length (bytesA ws) = ws
  | [], _ => rfl
  | w :: ws, h => by
    have ih := words_bytes ws (fun x hx => h x (by simp [hx]))
    have hw := h w (by simp)
    have e : bytesA (w :: ws) = be w 4 ++ bytesA ws := rfl
    have e4 : (256 : Int) ^ 4 = 4294967296 := by decide
    rw [List.length_cons, words, e, List.take_left' (be_len w 4), List.drop_left' (be_len w 4), ih, ofb_be, e4, Int.emod_eq_of_lt hw.1 hw.2]
theorem set_step {ws : List Int} {k i : Nat} (hl : ws.length = k) (hi : i < k) {x : Int} (hx : ws.getD i 0 = x) : (ws.take i ++ List.replicate (k - i) 0).set i x = ws.take (i + 1) ++ List.replicate (k - (i + 1)) 0 := by
  subst hx
  have e : k - i = k - (i + 1) + 1 := by omega
  have ht : List.take (i + 1) ws = List.take i ws ++ [ws.getD i 0] := by
    rw [List.take_add_one, List.getElem?_eq_getElem (show i < ws.length by omega)]
    simp only [Option.toList_some, List.getD, List.getElem?_eq_getElem (show i < ws.length by omega), Option.getD_some]
  rw [e, List.replicate_succ, List.set_append_right _ _ (by rw [List.length_take]; omega), List.length_take, show i - min i ws.length = 0 by omega, List.set_cons_zero, ht, List.append_assoc]
  rfl
theorem chunk_get (xs : List Int) (i k : Nat) (h : k < 4) (hl : 4 * i + 4 ≤ xs.length) : ((xs.drop (4 * i)).take 4).getD k 0 = xs.getD (4 * i + k) 0 := by
  simp only [List.getD, List.getElem?_take, if_pos h, List.getElem?_drop]
/-- The words so far, a word under way, and noughts. -/
def mid (xs : List Int) (i k : Nat) : List Int := (words 8 xs).take i ++ ofb (((xs.drop (4 * i)).take 4).take k) :: List.replicate (7 - i) 0
theorem mid_zero (xs : List Int) {i : Nat} (hi : i < 8) : mid xs i 0 = (words 8 xs).take i ++ List.replicate (8 - i) 0 := by
  unfold mid
  rw [show 8 - i = 7 - i + 1 by omega, List.replicate_succ]
  rfl
theorem mid_four (xs : List Int) {i : Nat} (hi : i < 8) : mid xs i 4 = (words 8 xs).take (i + 1) ++ List.replicate (8 - (i + 1)) 0 := by
  have hw := words_get 8 i xs hi
  have hl : i < (words 8 xs).length := by rw [words_len]; exact hi
  have ht : List.take (i + 1) (words 8 xs) = List.take i (words 8 xs) ++ [(words 8 xs).getD i 0] := by
    rw [List.take_add_one, List.getElem?_eq_getElem hl]
    simp only [Option.toList_some, List.getD, List.getElem?_eq_getElem hl, Option.getD_some]
  unfold mid
  rw [ht, hw, List.take_take, Nat.min_self, List.append_assoc, show 8 - (i + 1) = 7 - i by omega]
  rfl
theorem mid_get (xs : List Int) {i : Nat} (k : Nat) (hi : i < 8) : (mid xs i k).getD i 0 = ofb (((xs.drop (4 * i)).take 4).take k) := by
  unfold mid
  have hl : ((words 8 xs).take i).length = i := by rw [List.length_take, words_len]; omega
  simp only [List.getD, List.getElem?_append_right (Nat.le_of_eq hl), hl, Nat.sub_self, List.getElem?_cons_zero, Option.getD_some]
theorem mid_set (xs : List Int) {i : Nat} (k j : Nat) (hi : i < 8) : (mid xs i k).set i (ofb (((xs.drop (4 * i)).take 4).take j)) = mid xs i j := by
  unfold mid
  have hl : ((words 8 xs).take i).length = i := by rw [List.length_take, words_len]; omega
  rw [List.set_append_right _ _ (Nat.le_of_eq hl), hl, Nat.sub_self, List.set_cons_zero]
end Go.Proofs.YtjaailbgeadnnaaGreat
