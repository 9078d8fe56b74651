/- The contracts of the package pack: numbers. -/
import Derived.Test.YtjaailbgeadnnaaGreatGT
namespace Go.Proofs.YtjaailbgeadnnaaGreat
open Go Go.Sy Go.Proofs.Tryz
set_option maxRecDepth 100000
set_option maxHeartbeats 4000000
set_option linter.unusedSimpArgs false
set_option linter.unusedVariables false

theorem u8_mod (x : Int) : IntKind.u8.wrap x = x % 256 := by simp [IntKind.wrap, IntKind.signed, IntKind.bits]
theorem u64_mod (x : Int) : IntKind.u64.wrap x = x % 18446744073709551616 := by simp [IntKind.wrap, IntKind.signed, IntKind.bits]
/-- The low c bytes of a number, the greatest first. -/
def be (n : Int) : Nat → List Int
  | 0 => []
  | c + 1 => (n / 256 ^ c % 256) :: be n c
theorem be_len (n : Int) : ∀ c, (be n c).length = c
  | 0 => rfl
  | c + 1 => by simp [be, be_len n c]
theorem be_mem (n : Int) : ∀ c, ∀ x ∈ be n c, 0 ≤ x ∧ x < 256
  | 0, x, h => by cases h
  | c + 1, x, h => by
    simp only [be, List.mem_cons] at h
    rcases h with rfl | h
    · omega
    · exact be_mem n c x h
theorem set_front (m : Nat) (x : Int) (l : List Int) : (List.replicate (m + 1) 0 ++ l).set m x = List.replicate m 0 ++ x :: l := by
  rw [List.replicate_succ', List.append_assoc, List.set_append_right _ _ (by simp), List.length_replicate, Nat.sub_self]
  rfl
theorem pow_next (n : Int) (c : Nat) : n / 256 ^ c / 256 = n / 256 ^ (c + 1) := by
  rw [Int.pow_succ, Int.ediv_ediv_of_nonneg (Int.le_of_lt (Int.pow_pos (by decide)))]
theorem number_spec (n size : Int) (s : Nat) (hs : max 0 (min size 64) = s) : FnC Tryz.prog 31 [.int .u64 n, .int .i64 size] [] (.osl 0 [] 1 0 s) [(0, .row (.ints .u8 s (be n s)))] := by
  have h64 : s ≤ 64 := by omega
  refine fnN mix [] 0 2 [.tmp 4] Tryz.func31 rfl (by kernel_rfl) (by kernel_rfl) rfl (by kernel_rfl) (by kernel_rfl) (by simp) ?_
  simp (implicitDefEqProofs := false) (disch := omega) only [go_sem, ↓reduceIte, hs]
  refine loop (ι := Nat) 1 (fun c => c ≤ s) (fun c => [(0, .int .u64 (n / 256 ^ c)), (5, .osl 0 [] 1 0 s), (6, .int .i64 (s - 1 - c))]) (fun c => [(0, .row (.ints .u8 s (List.replicate (s - c) 0 ++ be n c)))]) (fun c => s - c) 0 [(0, 0)] [] (Nat.zero_le _) rfl ?_ ?_ ?_ (fun c hc => ?_)
  · simp (implicitDefEqProofs := false) (disch := omega) only [go_sem, ↓reduceIte]
  · simp (implicitDefEqProofs := false) (disch := omega) only [go_sem, ↓reduceIte, Int.pow_zero, Int.ediv_one]
  · simp (implicitDefEqProofs := false) (disch := omega) only [go_sem, ↓reduceIte, be]
  simp (implicitDefEqProofs := false) (disch := omega) only [go_sem, ↓reduceIte]
  refine brd (fun h => ?_) (fun h => ?_)
  · have e1 : ((s : Int) - 1 - c).toNat = s - (c + 1) := by omega
    have e2 : ishr .u64 (n / 256 ^ c) 8 = n / 256 ^ (c + 1) := by rw [ishr_div _ _ 8 (by decide)]; exact pow_next n c
    have e3 : (s : Int) - 1 - c - 1 = s - 1 - (c + 1) := by omega
    have e4 : (List.replicate (s - c) 0 ++ be n c).set (s - (c + 1)) (n / 256 ^ c % 256) = List.replicate (s - (c + 1)) 0 ++ be n (c + 1) := by
      rw [show s - c = s - (c + 1) + 1 by omega]
      exact set_front _ _ _
    simp (implicitDefEqProofs := false) (disch := omega) only [go_sem, ↓reduceIte, e1, e2, e3, u8_mod]
    refine ⟨c + 1, [(0, 0)], [], [], by dsimp only; omega, by dsimp only; omega, rfl, ?_, ?_, ?_⟩ <;> simp (implicitDefEqProofs := false) (disch := omega) only [go_sem, ↓reduceIte, e4]
  obtain rfl : c = s := by omega
  simp (implicitDefEqProofs := false) (disch := omega) only [go_sem, ↓reduceIte]
  refine ⟨[(0, 0)], [], [], rfl, ?_, ?_, ?_⟩ <;> simp (implicitDefEqProofs := false) (disch := omega) only [go_sem, ↓reduceIte, Nat.sub_self, List.replicate_zero, List.nil_append]
theorem refnumber_spec (n : Int) (s : Nat) (h64 : s ≤ 64) (hn : 0 ≤ n) (hn' : n < 18446744073709551616) : FnC Tryz.prog 27 [.int .u64 n, .int .i64 s] [] (.osl 0 [] 1 0 s) [(0, .row (.ints .u8 s (be n s)))] := by
  refine fnN mix [] 0 2 [.tmp 4] Tryz.func27 rfl (by kernel_rfl) (by kernel_rfl) rfl (by kernel_rfl) (by kernel_rfl) (by simp) ?_
  simp (implicitDefEqProofs := false) (disch := omega) only [go_sem, ↓reduceIte]
  refine loop (ι := Nat) 1 (fun c => c ≤ s) (fun c => [(0, .int .u64 (n / 256 ^ c)), (1, .int .i64 s), (5, .osl 0 [] 1 0 c), (6, .int .i64 c)]) (fun c => [(0, .row (.ints .u8 c (be n c)))]) (fun c => s - c) 0 [] [0] (Nat.zero_le _) rfl ?_ ?_ ?_ (fun c hc => ?_)
  · simp (implicitDefEqProofs := false) (disch := omega) only [go_sem, ↓reduceIte]
  · simp (implicitDefEqProofs := false) (disch := omega) only [go_sem, ↓reduceIte, Int.pow_zero, Int.ediv_one]
  · simp (implicitDefEqProofs := false) (disch := omega) only [go_sem, ↓reduceIte, be]
  simp (implicitDefEqProofs := false) (disch := omega) only [go_sem, ↓reduceIte]
  refine brd (fun h => ?_) (fun h => ?_)
  · have hp : 0 ≤ n / 256 ^ c := Int.ediv_nonneg hn (Int.le_of_lt (Int.pow_pos (by decide)))
    have e1 : (n / 256 ^ c).tmod 256 = n / 256 ^ c % 256 := Int.tmod_eq_emod_of_nonneg hp
    have e2 : (n / 256 ^ c).tdiv 256 = n / 256 ^ (c + 1) := by rw [Int.tdiv_eq_ediv_of_nonneg hp]; exact pow_next n c
    have hq : 0 ≤ n / 256 ^ (c + 1) := Int.ediv_nonneg hn (Int.le_of_lt (Int.pow_pos (by decide)))
    have hq2 : n / 256 ^ (c + 1) ≤ n := Int.ediv_le_self _ hn
    have e3 : 1 + c = c + 1 := Nat.add_comm _ _
    simp (implicitDefEqProofs := false) (disch := omega) only [go_sem, ↓reduceIte, e1, e2]
    refine ⟨c + 1, [(0, 2)], [], [], by dsimp only; omega, by dsimp only; omega, rfl, ?_, ?_, ?_⟩ <;> simp (implicitDefEqProofs := false) (disch := omega) only [go_sem, ↓reduceIte, e3, be]
  obtain rfl : c = s := by omega
  simp (implicitDefEqProofs := false) (disch := omega) only [go_sem, ↓reduceIte]
  refine ⟨[(0, 0)], [], [], rfl, ?_, ?_, ?_⟩ <;> simp (implicitDefEqProofs := false) (disch := omega) only [go_sem, ↓reduceIte]
/-- The number of bytes, the greatest first. -/
def ofb (xs : List Int) : Int := xs.foldl (fun n x => n * 256 + x) 0
theorem ofb_bound : ∀ (xs : List Int) (a : Int) (k : Nat), (∀ x ∈ xs, 0 ≤ x ∧ x < 256) → 0 ≤ a → a < 256 ^ k → 0 ≤ xs.foldl (fun n x => n * 256 + x) a ∧ xs.foldl (fun n x => n * 256 + x) a < 256 ^ (k + xs.length)
  | [], a, k, _, h0, h1 => ⟨h0, h1⟩
  | x :: xs, a, k, h, h0, h1 => by
    have hx := h x (by simp)
    have := ofb_bound xs (a * 256 + x) (k + 1) (fun y hy => h y (by simp [hy])) (by omega) (by rw [Int.pow_succ]; omega)
    rw [List.length_cons, show k + (xs.length + 1) = k + 1 + xs.length by omega]
    exact this
theorem foldl_take_succ' {α : Type} (f : α → Int → α) (a : α) (xs : List Int) (i : Nat) (h : i < xs.length) : (xs.take (i + 1)).foldl f a = f ((xs.take i).foldl f a) (xs.getD i 0) := by
  rw [List.take_add_one, List.foldl_append, List.getElem?_eq_getElem h]
  simp [List.getD, List.getElem?_eq_getElem h]
theorem getD_all' {p : Int → Prop} {xs : List Int} (h : ∀ x ∈ xs, p x) {i : Nat} (hi : i < xs.length) : p (xs.getD i 0) := by
  simp only [List.getD, List.getElem?_eq_getElem hi, Option.getD_some]
  exact h _ (List.getElem_mem hi)
theorem ofb_succ {xs : List Int} {i : Nat} (h : i < xs.length) : ofb (xs.take (i + 1)) = ofb (xs.take i) * 256 + xs.getD i 0 := foldl_take_succ' _ _ _ _ h
theorem ofb_lt {xs : List Int} (hb : ∀ x ∈ xs, 0 ≤ x ∧ x < 256) (i : Nat) : 0 ≤ ofb (xs.take i) ∧ ofb (xs.take i) < 256 ^ i := by
  have := ofb_bound (xs.take i) 0 0 (fun x hx => hb x (List.mem_of_mem_take hx)) (by omega) (by decide)
  have h2 : (256 : Int) ^ (0 + (xs.take i).length) ≤ 256 ^ i := by
    have := Nat.pow_le_pow_right (show 0 < 256 by decide) (show 0 + (xs.take i).length ≤ i by rw [List.length_take]; omega)
    exact_mod_cast this
  exact ⟨this.1, Int.lt_of_lt_of_le this.2 h2⟩
theorem shl_or {a x : Int} (ha : 0 ≤ a) (ha' : a < 72057594037927936) (hx : 0 ≤ x) (hx' : x < 256) : ior .u64 (ishl .u64 a 8) x = a * 256 + x := by
  have e : ishl .u64 a 8 = a * 256 := by
    unfold ishl
    have h8 : (2 : Int) ^ (min 8 IntKind.u64.bits) = 256 := by decide
    rw [h8]
    exact wrap_u64 (by omega) (by omega)
  rw [e, ior_nat (by omega) (by show _ < (2 : Int) ^ 64; omega) hx (by show _ < (2 : Int) ^ 64; omega)]
  have h := Nat.shiftLeft_add_eq_or_of_lt (i := 8) (b := x.toNat) (by omega) a.toNat
  have e2 : (a * 256).toNat = a.toNat <<< 8 := by rw [Nat.shiftLeft_eq]; omega
  rw [e2, ← h, Nat.shiftLeft_eq]
  rw [wrap_u64 (by omega) (by omega)]
  omega
theorem of_long_spec (xs : List Int) (hl : 8 < xs.length) : FnC Tryz.prog 61 [.sl (.ints .u8 xs.length xs)] [] (.tup [.int .u64 0, .int .i64 1]) [] := by
  refine fn0 mix [] 0 1 [.tmp 2, .tmp 3] Tryz.func61 rfl (by kernel_rfl) (by kernel_rfl) rfl (by kernel_rfl) (by kernel_rfl) (by simp) ?_
  simp (implicitDefEqProofs := false) (disch := omega) only [go_sem, ↓reduceIte]
  refine brd (fun h => ?_) (fun h => by omega)
  simp (implicitDefEqProofs := false) (disch := omega) only [go_sem, ↓reduceIte]
theorem pof_spec (xs : List Int) (hl : xs.length ≤ 8) (hb : ∀ x ∈ xs, 0 ≤ x ∧ x < 256) : FnC Tryz.prog 61 [.sl (.ints .u8 xs.length xs)] [] (.tup [.int .u64 (ofb xs), .int .i64 0]) [] := by
  refine fn0 mix [] 0 1 [.tmp 2, .tmp 3] Tryz.func61 rfl (by kernel_rfl) (by kernel_rfl) rfl (by kernel_rfl) (by kernel_rfl) (by simp) ?_
  simp (implicitDefEqProofs := false) (disch := omega) only [go_sem, ↓reduceIte]
  refine brd (fun h => by omega) (fun h => ?_)
  simp (implicitDefEqProofs := false) (disch := omega) only [go_sem, ↓reduceIte]
  refine loop (ι := Nat) 0 (fun i => i ≤ xs.length) (fun i => [(10, .sl (.ints .u8 xs.length xs)), (11, .int .i64 xs.length), (12, .int .i64 i), (4, .int .u64 (ofb (xs.take i)))]) (fun i => []) (fun i => xs.length - i) 0 [] [] (Nat.zero_le _) rfl ?_ ?_ ?_ (fun i hi => ?_)
  · simp (implicitDefEqProofs := false) (disch := omega) only [go_sem, ↓reduceIte]
  · simp (implicitDefEqProofs := false) (disch := omega) only [go_sem, ↓reduceIte, List.take_zero, ofb, List.foldl_nil]
  · simp (implicitDefEqProofs := false) (disch := omega) only [go_sem, ↓reduceIte]
  simp (implicitDefEqProofs := false) (disch := omega) only [go_sem, ↓reduceIte]
  refine brd (fun h => ?_) (fun h => ?_)
  · have hx := getD_all' hb (show i < xs.length by omega)
    have hp := ofb_lt hb i
    have hp2 : (256 : Int) ^ i ≤ 256 ^ 7 := by
      have := Nat.pow_le_pow_right (show 0 < 256 by decide) (show i ≤ 7 by omega)
      exact_mod_cast this
    have e1 := shl_or hp.1 (Int.lt_of_lt_of_le hp.2 hp2) hx.1 hx.2
    simp (implicitDefEqProofs := false) (disch := omega) only [go_sem, ↓reduceIte, e1]
    refine ⟨i + 1, [], [], [], by dsimp only; omega, by dsimp only; omega, rfl, ?_, ?_, ?_⟩ <;> simp (implicitDefEqProofs := false) (disch := omega) only [go_sem, ↓reduceIte, ofb_succ]
  obtain rfl : i = xs.length := by omega
  rw [List.take_length]
  simp (implicitDefEqProofs := false) (disch := omega) only [go_sem, ↓reduceIte]
theorem be_snoc (n : Int) : ∀ c, be n (c + 1) = be (n / 256) c ++ [n % 256]
  | 0 => by simp [be]
  | c + 1 => by
    have := be_snoc n c
    rw [be, this, be, List.cons_append]
    congr 2
    rw [← pow_next]
    rw [Int.ediv_ediv_of_nonneg (Int.le_of_lt (Int.pow_pos (by decide))), Int.ediv_ediv_of_nonneg (by decide), Int.mul_comm]
theorem ofb_snoc (xs : List Int) (x : Int) : ofb (xs ++ [x]) = ofb xs * 256 + x := by simp [ofb, List.foldl_append]
/-- A number is written as it was read. -/
theorem be_ofb : ∀ (n : Nat) (xs : List Int), xs.length = n → (∀ x ∈ xs, 0 ≤ x ∧ x < 256) → be (ofb xs) n = xs
  | 0, xs, h, _ => by
    have : xs = [] := by simpa using h
    subst this; rfl
  | n + 1, xs, h, hb => by
    have hne : xs ≠ [] := by intro e; subst e; simp at h
    have hs := List.dropLast_concat_getLast hne
    have hx := hb _ (List.getLast_mem hne)
    have ih := be_ofb n xs.dropLast (by simp [h]) (fun x hx => hb x (List.dropLast_subset xs hx))
    rw [← hs, ofb_snoc, be_snoc]
    rw [show (ofb xs.dropLast * 256 + xs.getLast hne) / 256 = ofb xs.dropLast by omega, show (ofb xs.dropLast * 256 + xs.getLast hne) % 256 = xs.getLast hne by omega, ih]
theorem ofb_be : ∀ (c : Nat) (n : Int), ofb (be n c) = n % 256 ^ c
  | 0, n => by simp [be, ofb]
  | c + 1, n => by
    rw [be_snoc, ofb_snoc, ofb_be c, Int.pow_succ, Int.mul_comm (256 ^ c) 256]
    have hM : (0 : Int) ≤ 256 ^ c := Int.le_of_lt (Int.pow_pos (by decide))
    rw [Int.emod_def n (256 * 256 ^ c), Int.emod_def (n / 256), ← Int.ediv_ediv_of_nonneg (by decide : (0 : Int) ≤ 256), Int.mul_assoc]
    generalize (256 : Int) ^ c * (n / 256 / 256 ^ c) = t
    omega
theorem getP_map {α : Type} {f : α → AV} {l : List α} {i : Nat} {a : α} (h : l[i]? = some a) (K : AV → Prop) : getP (l.map f) i K = K (f a) := by simp [getP, h]
def bsl (b : List Int) : AV := .sl (.ints .u8 b.length b)
def rowb (n : Nat) (bs : List (List Int)) : List Int := be n 2 ++ bs.flatMap fun b => be b.length 2 ++ b
theorem rowb_succ {n : Nat} {bs : List (List Int)} {i : Nat} {b : List Int} (h : bs[i]? = some b) : rowb n (bs.take (i + 1)) = rowb n (bs.take i) ++ be b.length 2 ++ b := by
  unfold rowb
  rw [List.take_add_one, h, List.flatMap_append]
  simp only [Option.toList_some, List.flatMap_cons, List.flatMap_nil, List.append_nil, List.append_assoc]
theorem rowb_len (n : Nat) {bs : List (List Int)} (hb : ∀ b ∈ bs, b.length ≤ 65535) : ∀ i, i ≤ bs.length → (rowb n (bs.take i)).length ≤ 2 + i * 65537
  | 0, _ => by simp [rowb, be_len]
  | i + 1, h => by
    have hi := List.getElem?_eq_getElem (show i < bs.length by omega)
    have := rowb_len n hb i (by omega)
    have hl := hb _ (List.getElem_mem (show i < bs.length by omega))
    rw [rowb_succ hi]
    simp only [List.length_append, be_len]
    omega
theorem prow_spec (bs : List (List Int)) (hn : bs.length ≤ 65535) (hb : ∀ b ∈ bs, b.length ≤ 65535) : FnC Tryz.prog 76 [.sl (.lst 1 bs.length (bs.map bsl))] [] (.tup [.osl 0 [] 1 0 (rowb bs.length bs).length, .int .i64 0]) [(0, .row (.ints .u8 (rowb bs.length bs).length (rowb bs.length bs)))] := by
  refine fnN mix [] 0 1 [.tmp 2, .tmp 3] Tryz.func76 rfl (by kernel_rfl) (by kernel_rfl) rfl (by kernel_rfl) (by kernel_rfl) (by simp) ?_
  simp (implicitDefEqProofs := false) (disch := omega) only [go_sem, ↓reduceIte]
  refine brd (fun h => by omega) (fun h => ?_)
  simp (implicitDefEqProofs := false) (disch := omega) only [go_sem, ↓reduceIte]
  refine callF 1 (number_spec _ 2 2 rfl) ?_
  simp (implicitDefEqProofs := false) (disch := omega) only [go_sem, ↓reduceIte]
  refine loop (ι := Nat) 1 (fun i => i ≤ bs.length) (fun i => [(14, .sl (.lst 1 bs.length (bs.map bsl))), (15, .int .i64 bs.length), (16, .int .i64 i), (4, .osl 0 [] 1 0 (rowb bs.length (bs.take i)).length)]) (fun i => [(0, .row (.ints .u8 (rowb bs.length (bs.take i)).length (rowb bs.length (bs.take i))))]) (fun i => bs.length - i) 0 [(0, 0)] [] (Nat.zero_le _) rfl ?_ ?_ ?_ (fun i hi => ?_)
  · simp (implicitDefEqProofs := false) (disch := omega) only [go_sem, ↓reduceIte]
  · simp (implicitDefEqProofs := false) (disch := omega) only [go_sem, ↓reduceIte, rowb, List.take_zero, List.flatMap_nil, be_len]
  · simp (implicitDefEqProofs := false) (disch := omega) only [go_sem, ↓reduceIte, rowb, List.take_zero, List.flatMap_nil, be_len]
  simp (implicitDefEqProofs := false) (disch := omega) only [go_sem, ↓reduceIte]
  refine brd (fun h => ?_) (fun h => ?_)
  · have hi' := List.getElem?_eq_getElem (show i < bs.length by omega)
    have hl := hb _ (List.getElem_mem (show i < bs.length by omega))
    have hs := rowb_succ (n := bs.length) hi'
    have hlen := rowb_len bs.length hb i (by omega)
    have hg := fun K => getP_map (f := bsl) hi' K
    generalize bs[i]'(show i < bs.length by omega) = b at *
    simp (implicitDefEqProofs := false) (disch := omega) only [go_sem, ↓reduceIte, hg, bsl]
    refine brd (fun h => by omega) (fun h => ?_)
    simp (implicitDefEqProofs := false) (disch := omega) only [go_sem, ↓reduceIte]
    refine callF 1 (number_spec _ 2 2 rfl) ?_
    simp (implicitDefEqProofs := false) (disch := omega) only [go_sem, ↓reduceIte]
    refine ⟨i + 1, [(0, 3)], [], [], by dsimp only; omega, by dsimp only; omega, rfl, ?_, ?_, ?_⟩ <;> simp (implicitDefEqProofs := false) (disch := omega) only [go_sem, ↓reduceIte, hs, List.length_append, be_len]
  obtain rfl : i = bs.length := by omega
  rw [List.take_length]
  simp (implicitDefEqProofs := false) (disch := omega) only [go_sem, ↓reduceIte]
  refine ⟨[(0, 0)], [], [], rfl, ?_, ?_, ?_⟩ <;> simp (implicitDefEqProofs := false) (disch := omega) only [go_sem, ↓reduceIte]
end Go.Proofs.YtjaailbgeadnnaaGreat
