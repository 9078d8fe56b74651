/- Texts, joined. -/
import Derived.Test.YtololahjocfbeaaGreatC10
import Derived.Test.YtololahjocfbeaaGreatC11
import Derived.Test.YtololahjocfbeaaGreatC09
namespace Go.Proofs.YtololahjocfbeaaGreat
open Go Go.Sy Go.Proofs.Tryz
set_option maxRecDepth 100000
set_option maxHeartbeats 4000000
set_option linter.unusedSimpArgs false
set_option linter.unusedVariables false
theorem u8_mod (x : Int) : IntKind.u8.wrap x = x % 256 := by simp [IntKind.wrap, IntKind.signed, IntKind.bits]
theorem u64_mod (x : Int) : IntKind.u64.wrap x = x % 18446744073709551616 := by simp [IntKind.wrap, IntKind.signed, IntKind.bits]
def be (n : Int) : Nat → List Int
  | 0 => []
  | c + 1 => (n / 256 ^ c % 256) :: be n c
theorem be_len (n : Int) : ∀ c, (be n c).length = c
  | 0 => rfl
  | c + 1 => by simp [be, be_len n c]
theorem be_mem (n : Int) : ∀ c, ∀ x ∈ be n c, 0 ≤ x ∧ x < 256
  | 0, x, h => by cases h
  | c + 1, x, h => by
    simp only [be, List.mem_cons] at h
    rcases h with rfl | h
    · omega
    · exact be_mem n c x h
theorem set_front (m : Nat) (x : Int) (l : List Int) : (List.replicate (m + 1) 0 ++ l).set m x = List.replicate m 0 ++ x :: l := by
  rw [List.replicate_succ', List.append_assoc, List.set_append_right _ _ (by simp), List.length_replicate, Nat.sub_self]
  rfl
theorem pow_next (n : Int) (c : Nat) : n / 256 ^ c / 256 = n / 256 ^ (c + 1) := by
  rw [Int.pow_succ, Int.ediv_ediv_of_nonneg (Int.le_of_lt (Int.pow_pos (by decide)))]
theorem number_spec (n size : Int) (s : Nat) (hs : max 0 (min size 64) = s) : FnC Tryz.prog 124 [.int .u64 n, .int .i64 size] [] (.osl 0 [] 1 0 s) [(0, .row (.ints .u8 s (be n s)))] := by
  have h64 : s ≤ 64 := by omega
  refine fnN mix [] 0 2 [.tmp 4] Tryz.func124 rfl (by kernel_rfl) (by kernel_rfl) rfl (by kernel_rfl) (by kernel_rfl) (by simp) ?_
  simp -implicitDefEqProofs (disch := omega) only [go_sem, ↓reduceIte, hs]
  refine loop (ι := Nat) 1 (fun c => c ≤ s) (fun c => [(0, .int .u64 (n / 256 ^ c)), (5, .osl 0 [] 1 0 s), (6, .int .i64 (s - 1 - c))]) (fun c => [(0, .row (.ints .u8 s (List.replicate (s - c) 0 ++ be n c)))]) (fun c => s - c) 0 [(0, 0)] [] (Nat.zero_le _) rfl ?_ ?_ ?_ (fun c hc => ?_)
  · simp -implicitDefEqProofs (disch := omega) only [go_sem, ↓reduceIte]
  · simp -implicitDefEqProofs (disch := omega) only [go_sem, ↓reduceIte, Int.pow_zero, Int.ediv_one]
  · simp -implicitDefEqProofs (disch := omega) only [go_sem, ↓reduceIte, be]
  simp -implicitDefEqProofs (disch := omega) only [go_sem, ↓reduceIte]
  refine brd (fun h => ?_) (fun h => ?_)
  · have e1 : ((s : Int) - 1 - c).toNat = s - (c + 1) := by omega
    have e2 : ishr .u64 (n / 256 ^ c) 8 = n / 256 ^ (c + 1) := by rw [ishr_div _ _ 8 (by decide)]; exact pow_next n c
    have e3 : (s : Int) - 1 - c - 1 = s - 1 - (c + 1) := by omega
    have e4 : (List.replicate (s - c) 0 ++ be n c).set (s - (c + 1)) (n / 256 ^ c % 256) = List.replicate (s - (c + 1)) 0 ++ be n (c + 1) := by
      rw [show s - c = s - (c + 1) + 1 by omega]
      exact set_front _ _ _
    simp -implicitDefEqProofs (disch := omega) only [go_sem, ↓reduceIte, e1, e2, e3, u8_mod]
    refine ⟨c + 1, [(0, 0)], [], [], by dsimp only; omega, by dsimp only; omega, rfl, ?_, ?_, ?_⟩ <;> simp -implicitDefEqProofs (disch := omega) only [go_sem, ↓reduceIte, e4]
  obtain rfl : c = s := by omega
  simp -implicitDefEqProofs (disch := omega) only [go_sem, ↓reduceIte]
  refine ⟨[(0, 0)], [], [], rfl, ?_, ?_, ?_⟩ <;> simp -implicitDefEqProofs (disch := omega) only [go_sem, ↓reduceIte, Nat.sub_self, List.replicate_zero, List.nil_append]
def ofb (xs : List Int) : Int := xs.foldl (fun n x => n * 256 + x) 0
theorem ofb_bound : ∀ (xs : List Int) (a : Int) (k : Nat), (∀ x ∈ xs, 0 ≤ x ∧ x < 256) → 0 ≤ a → a < 256 ^ k → 0 ≤ xs.foldl (fun n x => n * 256 + x) a ∧ xs.foldl (fun n x => n * 256 + x) a < 256 ^ (k + xs.length)
  | [], a, k, _, h0, h1 => ⟨h0, h1⟩
  | x :: xs, a, k, h, h0, h1 => by
    have hx := h x (by simp)
    have := ofb_bound xs (a * 256 + x) (k + 1) (fun y hy => h y (by simp [hy])) (by omega) (by rw [Int.pow_succ]; omega)
    rw [List.length_cons, show k + (xs.length + 1) = k + 1 + xs.length by omega]
    exact this
theorem foldl_take_succ' {α : Type} (f : α → Int → α) (a : α) (xs : List Int) (i : Nat) (h : i < xs.length) : (xs.take (i + 1)).foldl f a = f ((xs.take i).foldl f a) (xs.getD i 0) := by
  rw [List.take_add_one, List.foldl_append, List.getElem?_eq_getElem h]
  simp [List.getD, List.getElem?_eq_getElem h]
theorem getD_all' {p : Int → Prop} {xs : List Int} (h : ∀ x ∈ xs, p x) {i : Nat} (hi : i < xs.length) : p (xs.getD i 0) := by
  simp only [List.getD, List.getElem?_eq_getElem hi, Option.getD_some]
  exact h _ (List.getElem_mem hi)
theorem ofb_succ {xs : List Int} {i : Nat} (h : i < xs.length) : ofb (xs.take (i + 1)) = ofb (xs.take i) * 256 + xs.getD i 0 := foldl_take_succ' _ _ _ _ h
theorem ofb_lt {xs : List Int} (hb : ∀ x ∈ xs, 0 ≤ x ∧ x < 256) (i : Nat) : 0 ≤ ofb (xs.take i) ∧ ofb (xs.take i) < 256 ^ i := by
  have := ofb_bound (xs.take i) 0 0 (fun x hx => hb x (List.mem_of_mem_take hx)) (by omega) (by decide)
  have h2 : (256 : Int) ^ (0 + (xs.take i).length) ≤ 256 ^ i := by
    have := Nat.pow_le_pow_right (show 0 < 256 by decide) (show 0 + (xs.take i).length ≤ i by rw [List.length_take]; omega)
    exact_mod_cast this
  exact ⟨this.1, Int.lt_of_lt_of_le this.2 h2⟩
theorem shl_or {a x : Int} (ha : 0 ≤ a) (ha' : a < 72057594037927936) (hx : 0 ≤ x) (hx' : x < 256) : ior .u64 (ishl .u64 a 8) x = a * 256 + x := by
  have e : ishl .u64 a 8 = a * 256 := by
    unfold ishl
    have h8 : (2 : Int) ^ (min 8 IntKind.u64.bits) = 256 := by decide
    rw [h8]
    exact wrap_u64 (by omega) (by omega)
  rw [e, ior_nat (by omega) (by show _ < (2 : Int) ^ 64; omega) hx (by show _ < (2 : Int) ^ 64; omega)]
  have h := Nat.shiftLeft_add_eq_or_of_lt (i := 8) (b := x.toNat) (by omega) a.toNat
  have e2 : (a * 256).toNat = a.toNat <<< 8 := by rw [Nat.shiftLeft_eq]; omega
  rw [e2, ← h, Nat.shiftLeft_eq]
  rw [wrap_u64 (by omega) (by omega)]
  omega
theorem pof_spec (xs : List Int) (hl : xs.length ≤ 8) (hb : ∀ x ∈ xs, 0 ≤ x ∧ x < 256) : FnC Tryz.prog 187 [.sl (.ints .u8 xs.length xs)] [] (.tup [.int .u64 (ofb xs), .int .i64 0]) [] := by
  refine fn0 mix [] 0 1 [.tmp 2, .tmp 3] Tryz.func187 rfl (by kernel_rfl) (by kernel_rfl) rfl (by kernel_rfl) (by kernel_rfl) (by simp) ?_
  simp -implicitDefEqProofs (disch := omega) only [go_sem, ↓reduceIte]
  refine brd (fun h => by omega) (fun h => ?_)
  simp -implicitDefEqProofs (disch := omega) only [go_sem, ↓reduceIte]
  refine loop (ι := Nat) 0 (fun i => i ≤ xs.length) (fun i => [(10, .sl (.ints .u8 xs.length xs)), (11, .int .i64 xs.length), (12, .int .i64 i), (4, .int .u64 (ofb (xs.take i)))]) (fun i => []) (fun i => xs.length - i) 0 [] [] (Nat.zero_le _) rfl ?_ ?_ ?_ (fun i hi => ?_)
  · simp -implicitDefEqProofs (disch := omega) only [go_sem, ↓reduceIte]
  · simp -implicitDefEqProofs (disch := omega) only [go_sem, ↓reduceIte, List.take_zero, ofb, List.foldl_nil]
  · simp -implicitDefEqProofs (disch := omega) only [go_sem, ↓reduceIte]
  simp -implicitDefEqProofs (disch := omega) only [go_sem, ↓reduceIte]
  refine brd (fun h => ?_) (fun h => ?_)
  · have hx := getD_all' hb (show i < xs.length by omega)
    have hp := ofb_lt hb i
    have hp2 : (256 : Int) ^ i ≤ 256 ^ 7 := by
      have := Nat.pow_le_pow_right (show 0 < 256 by decide) (show i ≤ 7 by omega)
      exact_mod_cast this
    have e1 := shl_or hp.1 (Int.lt_of_lt_of_le hp.2 hp2) hx.1 hx.2
    simp -implicitDefEqProofs (disch := omega) only [go_sem, ↓reduceIte, e1]
    refine ⟨i + 1, [], [], [], by dsimp only; omega, by dsimp only; omega, rfl, ?_, ?_, ?_⟩ <;> simp -implicitDefEqProofs (disch := omega) only [go_sem, ↓reduceIte, ofb_succ]
  obtain rfl : i = xs.length := by omega
  rw [List.take_length]
  simp -implicitDefEqProofs (disch := omega) only [go_sem, ↓reduceIte]
theorem be_snoc (n : Int) : ∀ c, be n (c + 1) = be (n / 256) c ++ [n % 256]
  | 0 => by simp [be]
  | c + 1 => by
    have := be_snoc n c
    rw [be, this, be, List.cons_append]
    congr 2
    rw [← pow_next]
    rw [Int.ediv_ediv_of_nonneg (Int.le_of_lt (Int.pow_pos (by decide))), Int.ediv_ediv_of_nonneg (by decide), Int.mul_comm]
theorem ofb_snoc (xs : List Int) (x : Int) : ofb (xs ++ [x]) = ofb xs * 256 + x := by simp [ofb, List.foldl_append]
theorem ofb_be : ∀ (c : Nat) (n : Int), ofb (be n c) = n % 256 ^ c
  | 0, n => by simp [be, ofb]
  | c + 1, n => by
    rw [be_snoc, ofb_snoc, ofb_be c, Int.pow_succ, Int.mul_comm (256 ^ c) 256]
    have hM : (0 : Int) ≤ 256 ^ c := Int.le_of_lt (Int.pow_pos (by decide))
    rw [Int.emod_def n (256 * 256 ^ c), Int.emod_def (n / 256), ← Int.ediv_ediv_of_nonneg (by decide : (0 : Int) ≤ 256), Int.mul_assoc]
    generalize (256 : Int) ^ c * (n / 256 / 256 ^ c) = t
    omega
theorem getP_map {α : Type} {f : α → AV} {l : List α} {i : Nat} {a : α} (h : l[i]? = some a) (K : AV → Prop) : getP (l.map f) i K = K (f a) := by simp [getP, h]
def bsl (b : List Int) : AV := .sl (.ints .u8 b.length b)
def rowb (n : Nat) (bs : List (List Int)) : List Int := be n 2 ++ bs.flatMap fun b => be b.length 2 ++ b
theorem rowb_succ {n : Nat} {bs : List (List Int)} {i : Nat} {b : List Int} (h : bs[i]? = some b) : rowb n (bs.take (i + 1)) = rowb n (bs.take i) ++ be b.length 2 ++ b := by
  unfold rowb
  rw [List.take_add_one, h, List.flatMap_append]
  simp only [Option.toList_some, List.flatMap_cons, List.flatMap_nil, List.append_nil, List.append_assoc]
theorem rowb_len (n : Nat) {bs : List (List Int)} (hb : ∀ b ∈ bs, b.length ≤ 65535) : ∀ i, i ≤ bs.length → (rowb n (bs.take i)).length ≤ 2 + i * 65537
  | 0, _ => by simp [rowb, be_len]
  | i + 1, h => by
    have hi := List.getElem?_eq_getElem (show i < bs.length by omega)
    have := rowb_len n hb i (by omega)
    have hl := hb _ (List.getElem_mem (show i < bs.length by omega))
    rw [rowb_succ hi]
    simp only [List.length_append, be_len]
    omega
theorem prow_spec (bs : List (List Int)) (hn : bs.length ≤ 65535) (hb : ∀ b ∈ bs, b.length ≤ 65535) : FnC Tryz.prog 125 [.sl (.lst 1 bs.length (bs.map bsl))] [] (.tup [.osl 0 [] 1 0 (rowb bs.length bs).length, .int .i64 0]) [(0, .row (.ints .u8 (rowb bs.length bs).length (rowb bs.length bs)))] := by
  refine fnN mix [] 0 1 [.tmp 2, .tmp 3] Tryz.func125 rfl (by kernel_rfl) (by kernel_rfl) rfl (by kernel_rfl) (by kernel_rfl) (by simp) ?_
  simp -implicitDefEqProofs (disch := omega) only [go_sem, ↓reduceIte]
  refine brd (fun h => by omega) (fun h => ?_)
  simp -implicitDefEqProofs (disch := omega) only [go_sem, ↓reduceIte]
  refine callF 1 (number_spec _ 2 2 rfl) ?_
  simp -implicitDefEqProofs (disch := omega) only [go_sem, ↓reduceIte]
  refine loop (ι := Nat) 1 (fun i => i ≤ bs.length) (fun i => [(14, .sl (.lst 1 bs.length (bs.map bsl))), (15, .int .i64 bs.length), (16, .int .i64 i), (4, .osl 0 [] 1 0 (rowb bs.length (bs.take i)).length)]) (fun i => [(0, .row (.ints .u8 (rowb bs.length (bs.take i)).length (rowb bs.length (bs.take i))))]) (fun i => bs.length - i) 0 [(0, 0)] [] (Nat.zero_le _) rfl ?_ ?_ ?_ (fun i hi => ?_)
  · simp -implicitDefEqProofs (disch := omega) only [go_sem, ↓reduceIte]
  · simp -implicitDefEqProofs (disch := omega) only [go_sem, ↓reduceIte, rowb, List.take_zero, List.flatMap_nil, be_len]
  · simp -implicitDefEqProofs (disch := omega) only [go_sem, ↓reduceIte, rowb, List.take_zero, List.flatMap_nil, be_len]
  simp -implicitDefEqProofs (disch := omega) only [go_sem, ↓reduceIte]
  refine brd (fun h => ?_) (fun h => ?_)
  · have hi' := List.getElem?_eq_getElem (show i < bs.length by omega)
    have hl := hb _ (List.getElem_mem (show i < bs.length by omega))
    have hs := rowb_succ (n := bs.length) hi'
    have hlen := rowb_len bs.length hb i (by omega)
    have hg := fun K => getP_map (f := bsl) hi' K
    generalize bs[i]'(show i < bs.length by omega) = b at *
    simp -implicitDefEqProofs (disch := omega) only [go_sem, ↓reduceIte, hg, bsl]
    refine brd (fun h => by omega) (fun h => ?_)
    simp -implicitDefEqProofs (disch := omega) only [go_sem, ↓reduceIte]
    refine callF 1 (number_spec _ 2 2 rfl) ?_
    simp -implicitDefEqProofs (disch := omega) only [go_sem, ↓reduceIte]
    refine ⟨i + 1, [(0, 3)], [], [], by dsimp only; omega, by dsimp only; omega, rfl, ?_, ?_, ?_⟩ <;> simp -implicitDefEqProofs (disch := omega) only [go_sem, ↓reduceIte, hs, List.length_append, be_len]
  obtain rfl : i = bs.length := by omega
  rw [List.take_length]
  simp -implicitDefEqProofs (disch := omega) only [go_sem, ↓reduceIte]
  refine ⟨[(0, 0)], [], [], rfl, ?_, ?_, ?_⟩ <;> simp -implicitDefEqProofs (disch := omega) only [go_sem, ↓reduceIte]
end Go.Proofs.YtololahjocfbeaaGreat
namespace Go.Proofs.YtololahjocfbeaaGreat
open Go Go.Sy Go.Proofs.Tryz
set_option maxRecDepth 100000
set_option maxHeartbeats 8000000
set_option linter.unusedSimpArgs false
set_option linter.unusedVariables false
abbrev Part := List (List Int) × List (List Int)
def dg (d : List Int) : AV := .ints .u8 32 d
def pt (p : Part) : AV := .agg [.sl (.lst 32 p.1.length (p.1.map dg)), .sl (.lst 32 p.2.length (p.2.map dg))]
def rightP (a b : Int) : Prop := 1 ≤ a ∧ a ≤ 4 ∧ 1 ≤ b ∧ b ≤ 4
instance (a b : Int) : Decidable (rightP a b) := by unfold rightP; infer_instance
def manyD (a b : Int) : Nat := if rightP a b then 2 ^ (a * b).toNat else 0
theorem mul_16 {a b : Int} (h : rightP a b) : 1 ≤ a * b ∧ a * b ≤ 16 := by
  obtain ⟨h1, h2, h3, h4⟩ := h
  have x1 : 0 ≤ (a - 1) * (b - 1) := Int.mul_nonneg (by omega) (by omega)
  have x2 : 0 ≤ (4 - a) * b := Int.mul_nonneg (by omega) (by omega)
  rw [Int.sub_mul, Int.mul_sub] at x1
  rw [Int.sub_mul] at x2
  omega
theorem manyD_le (a b : Int) : manyD a b ≤ 65536 := by
  unfold manyD
  split
  · rename_i h
    have := mul_16 h
    exact Nat.le_trans (Nat.pow_le_pow_right (show 0 < 2 by decide) (show (a * b).toNat ≤ 16 by omega)) (by decide)
  · omega
theorem right_spec11 (a b : Int) : FnC Tryz.prog 55 [.agg [.int .i64 a, .int .i64 b]] [] (.bool (decide (rightP a b))) [] := by
  refine fn0 mix [] 0 1 [.tmp 2] Tryz.func55 rfl (by kernel_rfl) (by kernel_rfl) rfl (by kernel_rfl) (by kernel_rfl) (by simp) ?_
  simp -implicitDefEqProofs (disch := omega) only [go_sem, ↓reduceIte]
  by_cases hr : rightP a b
  · obtain ⟨h1, h2, h3, h4⟩ := id hr
    have d1 : decide (1 ≤ a) = true := decide_eq_true h1
    have d2 : decide (a ≤ 4) = true := decide_eq_true h2
    have d3 : decide (1 ≤ b) = true := decide_eq_true h3
    have d4 : decide (b ≤ 4) = true := decide_eq_true h4
    have e : decide (rightP a b) = true := decide_eq_true hr
    simp -implicitDefEqProofs (disch := omega) only [go_sem, ↓reduceIte, d1, d2, d3, d4, e]
  · have e : decide (rightP a b) = false := decide_eq_false hr
    unfold rightP at hr
    rw [e]
    simp -implicitDefEqProofs (disch := omega) only [go_sem, ↓reduceIte]
    refine brd (fun h1 => ?_) (fun h1 => ?_)
    case' refine_2 => simp -implicitDefEqProofs (disch := omega) only [go_sem, ↓reduceIte]
    simp -implicitDefEqProofs (disch := omega) only [go_sem, ↓reduceIte]
    refine brd (fun h2 => ?_) (fun h2 => ?_)
    case' refine_2 => simp -implicitDefEqProofs (disch := omega) only [go_sem, ↓reduceIte]
    simp -implicitDefEqProofs (disch := omega) only [go_sem, ↓reduceIte]
    refine brd (fun h3 => ?_) (fun h3 => ?_)
    case' refine_2 => simp -implicitDefEqProofs (disch := omega) only [go_sem, ↓reduceIte]
    have d4 : decide (b ≤ 4) = false := decide_eq_false (by omega)
    simp -implicitDefEqProofs (disch := omega) only [go_sem, ↓reduceIte, d4]
theorem pow_62 {n : Nat} (h : n ≤ 62) : (2 : Int) ^ n ≤ 4611686018427387904 ∧ 1 ≤ (2 : Int) ^ n := by
  have h1 := Nat.pow_le_pow_right (show 0 < 2 by decide) h
  have h2 := Nat.two_pow_pos n
  have e : (2 : Int) ^ n = ((2 ^ n : Nat) : Int) := by simp
  have e2 : (2 : Nat) ^ 62 = 4611686018427387904 := by decide
  omega
theorem shl_one {n : Nat} (h : n ≤ 62) : ishl .i64 1 n = 2 ^ n := by
  have hp := pow_62 h
  unfold ishl
  rw [Nat.min_eq_left (show n ≤ IntKind.i64.bits by show n ≤ 64; omega), Int.one_mul]
  exact wrap_i64 (by omega) (by omega)
theorem many_spec (a b : Int) : FnC Tryz.prog 14 [.agg [.int .i64 a, .int .i64 b]] [] (.int .i64 (manyD a b)) [] := by
  refine fn0 mix [] 0 1 [.tmp 2] Tryz.func14 rfl (by kernel_rfl) (by kernel_rfl) rfl (by kernel_rfl) (by kernel_rfl) (by simp) ?_
  simp -implicitDefEqProofs (disch := omega) only [go_sem, ↓reduceIte]
  refine call0 (right_spec11 a b) ?_
  simp -implicitDefEqProofs (disch := omega) only [go_sem, ↓reduceIte]
  refine brd (fun h => ?_) (fun h => ?_)
  · have hm := mul_16 h
    have e1 : ishl .i64 1 (a * b).toNat = (manyD a b : Int) := by
      rw [shl_one (by omega), manyD, if_pos h]; simp
    simp -implicitDefEqProofs (disch := omega) only [go_sem, ↓reduceIte, e1]
    exact Int.le_trans (by decide) hm.1
  · have e1 : manyD a b = 0 := by rw [manyD, if_neg h]
    simp -implicitDefEqProofs (disch := omega) only [go_sem, ↓reduceIte, e1]
theorem take_next' {α : Type} {l : List α} {i : Nat} {x : α} (h : l[i]? = some x) : l.take (i + 1) = l.take i ++ [x] := by
  rw [List.take_add_one, h]; rfl
def formedP (a b i : Int) (ps : List Part) : Prop := 0 ≤ i ∧ i < manyD a b ∧ (ps.length : Int) = a ∧ ∀ p ∈ ps, p.1.length = 67 ∧ (p.2.length : Int) = b
instance (a b i : Int) (ps : List Part) : Decidable (formedP a b i ps) := by unfold formedP; infer_instance
end Go.Proofs.YtololahjocfbeaaGreat
namespace Go.Sy
open Go
set_option linter.unusedSimpArgs false
set_option linter.unusedVariables false
def subOK (σ : List (Nat × Nat)) (Z F : List Nat) (O2 O1 : OO) : Bool :=
  F.all (fun f => !(σ.map (·.2)).contains f) && decide ((σ.map (·.2)).Nodup) && σ.all (fun p => !Z.contains p.1 && (keys O1).contains p.1) && Z.all (fun z => (keys O1).contains z) &&
    O2.all fun p => match p.2 with | .var _ => (match lk σ p.1 with | some o => Nat.beq o p.1 && (match lk O1 p.1 with | some (.var _) => true | _ => false) | none => false) | _ => true
theorem lk_keys {O : OO} {o : Nat} (h : (keys O).contains o = true) : lk O o ≠ none := by
  induction O with
  | nil => simp [keys] at h
  | cons p O ih =>
    obtain ⟨i, v⟩ := p
    simp only [lk]
    split
    · simp
    · rename_i e
      refine ih ?_
      simp only [keys, List.map_cons, List.contains_cons, Bool.or_eq_true, beq_iff_eq] at h ⊢
      rcases h with h | h
      · exact absurd h.symm e
      · exact h
theorem FnC.sub {P : Program} {f : FuncId} {A args : List AV} {r : AV} {O1 O2 O' : OO} (h : FnC P f A O1 r O') (σ : List (Nat × Nat)) (Z F : List Nat) (hok : subOK σ Z F O2 O1 = true)
    (hA : matsC σ Z (frzO O2 F) A args) (hO : holdsN O2 σ Z (frzO O2 F) O1) : FnC P f args O2 r O' := by
  refine ⟨h.1, fun w M β xs hids hst hxs => ?_⟩
  simp only [subOK, Bool.and_eq_true, List.all_eq_true, decide_eq_true_eq, Bool.not_eq_true'] at hok
  obtain ⟨⟨⟨⟨hF, hnd⟩, hσ⟩, hZ⟩, hvar⟩ := hok
  let b1 : Bmap := fun o => match lk σ o with | some o' => β o' | none => if Z.contains o = true then some (0, 0) else none
  have ha : Agr σ b1 β := fun o o' h => by show (match lk σ o with | some o' => β o' | none => _) = _; rw [h]
  have hz : NilOK Z b1 := fun o ho => by
    have : lk σ o = none := by
      rw [lk_none]
      intro hm
      obtain ⟨p, hp, rfl⟩ := List.mem_map.1 hm
      have := (hσ p hp).1
      rw [ho] at this
      cases this
    show (match lk σ o with | some o' => β o' | none => if Z.contains o = true then some (0, 0) else none) = _
    rw [this]
    simp only [ho, if_true]
  have hF' : ∀ f ∈ F, ∀ o, lk σ o ≠ some f := fun f hf o e => by
    have := hF f hf
    have hm : f ∈ σ.map (·.2) := List.mem_map.2 ⟨_, lk_mem e, rfl⟩
    simp only [Bool.eq_false_iff] at this
    exact this (by simpa using hm)
  obtain ⟨M1, hM, hV, hs1⟩ := hst.ren hF' hnd ha hz hO
  have hH := holdsN_spec hO
  have own1 : ∀ b, ownOf O1 b1 b → ownOf O2 β b := fun b ⟨o, ob, κ, g1, g2, g3⟩ => by
    rcases hH _ (lk_mem g1) with ⟨o', ob', k1, k2, _⟩ | ⟨_, k2⟩
    · have : b1 o = β o' := ha _ _ k1
      rw [this] at g2
      exact ⟨o', ob', κ, k2, g2, g3⟩
    · rw [hz _ k2] at g2
      cases g2
      exact absurd rfl g3
  have hids1 : ∀ o, lk O1 o = none → b1 o = none := fun o ho => by
    show (match lk σ o with | some o' => β o' | none => if Z.contains o = true then some (0, 0) else none) = none
    cases hl : lk σ o with
    | some o' => exact absurd ho (lk_keys (hσ _ (lk_mem hl)).2)
    | none =>
      simp only []
      by_cases hc : Z.contains o = true
      · exact absurd ho (lk_keys (hZ o (by simpa using hc)))
      · simp only [hc, if_false, Bool.false_eq_true]
  have hs2 : St ⟨w, ownOf O1 b1, M1, nob, 0, fun _ => True⟩ M1 b1 O1 w :=
    ⟨hs1.pool, fun _ _ _ h => h, fun _ _ _ h => .inl h, hs1.objs, fun o ob b κ hl hb hk => ⟨(hs1.mine o ob b κ hl hb hk).1, .inl ⟨o, ob, κ, hl, hb, hk⟩⟩, hs1.inj, Nat.le_refl _, fun _ _ _ => rfl, rfl, rfl, rfl⟩
  have hxs1 : VRs M1 b1 A xs := (matsC_spec σ Z (frzO O2 F) A args hA).vr hM hV ha hz hxs
  refine (h.2 w M1 b1 xs hids1 hs2 hxs1).mono fun e w' ⟨x, M', β', he, hr, st, hv⟩ => ⟨x, M', β', he, hr, ?_, fun o c hl => ?_⟩
  · refine ⟨st.pool, fun b i v hm => st.sub _ _ _ (hM _ _ _ hm), fun b i v hm => ?_, st.objs, fun o ob b κ hl hb hk => ?_, st.inj, st.size, fun b hb hn => st.keep b hb fun h => hn (own1 b h), st.os, st.tape, st.output⟩
    · rcases st.only _ _ _ hm with g | g | g
      · exact hs1.only _ _ _ g
      · exact .inr (.inl (own1 b g))
      · exact .inr (.inr g)
    · obtain ⟨g1, g2⟩ := st.mine o ob b κ hl hb hk
      exact ⟨g1, g2.imp (own1 b) id⟩
  · have hp := hvar _ (lk_mem hl)
    simp only [] at hp
    cases hl2 : lk σ o with
    | none => rw [hl2] at hp; cases hp
    | some o' =>
      rw [hl2] at hp
      simp only [Bool.and_eq_true] at hp
      obtain rfl := Nat.eq_of_beq_eq_true hp.1
      have hp2 := hp.2
      split at hp2
      · rename_i c' hc'
        rw [hv _ _ hc']
        exact ha _ _ hl2
      · cases hp2
end Go.Sy
namespace Go.Proofs.YtololahjocfbeaaGreat
open Go Go.Sy Go.Proofs.Tryz
set_option maxRecDepth 100000
set_option maxHeartbeats 8000000
set_option linter.unusedSimpArgs false
set_option linter.unusedVariables false
attribute [go_sem] pl115 pl184
structure DS where
  sz : Nat
  b : List Int
  wait : List (Nat × List Int)
  off : Bool
  set : Bool
  left : Int
  keep : List Int
def wtV (w : Nat × List Int) : AV := .agg [.int .i64 w.1, .sl (.ints .u8 w.2.length w.2)]
abbrev dskV (i j : Nat) (D : DS) : AV := .agg [.int .i64 D.sz, .osl i [] 1 0 D.b.length, .osl j [] 2 0 D.wait.length, .bool D.off, .bool D.set, .int .i64 D.left, .sl (.ints .i64 D.keep.length D.keep)]
abbrev dskO (i j : Nat) (D : DS) : OO := [(0, .var (dskV i j D)), (i, .row (.ints .u8 D.b.length D.b)), (j, .row (.lst 2 D.wait.length (D.wait.map wtV)))]
structure okD (D : DS) : Prop where
  sz1 : 1 ≤ D.sz
  sz2 : D.sz ≤ 512
  bl : D.b.length ≤ 32768
  wl : D.wait.length ≤ 100000
  kl : D.keep.length ≤ 9223372036854775807
  wt : ∀ w ∈ D.wait, w.1 * D.sz + D.sz ≤ D.b.length ∧ w.2.length = D.sz
def putB (sz : Nat) (b : List Int) (at' : Nat) (t : List Int) (m : Nat) : List Int := b.take (at' * sz) ++ (t.take m ++ b.drop (at' * sz + m))
theorem putB_len {sz : Nat} {b : List Int} {at' : Nat} {t : List Int} {m : Nat} (h : at' * sz + m ≤ b.length) (hm : m ≤ t.length) : (putB sz b at' t m).length = b.length := by
  unfold putB
  rw [List.length_append, List.length_append, List.length_take, List.length_take, List.length_drop]
  omega
def kept (sz : Nat) (k : Int) : Nat := (max 0 (min k (sz : Int))).toNat
theorem kept_le (sz : Nat) (k : Int) : kept sz k ≤ sz := by unfold kept; omega
def crashB (sz : Nat) : List (Nat × List Int) → List Int → List Int → List Int
  | [], _, b => b
  | _ :: _, [], b => b
  | w :: ws, k :: ks, b => crashB sz ws ks (putB sz b w.1 w.2 (kept sz k))
def crashD (D : DS) (keep : List Int) : DS := if D.off = true then D else { D with b := crashB D.sz D.wait keep D.b, wait := [], off := true, set := false }
def failedD (D : DS) : Bool × DS := if D.set = true ∧ D.left = 0 then (true, crashD D D.keep) else (false, { D with left := IntKind.i64.wrap (D.left - 1) })
def thereD (D : DS) (i : Int) : Prop := 0 ≤ i ∧ i < ((D.b.length / D.sz : Nat) : Int)
instance (D : DS) (i : Int) : Decidable (thereD D i) := by unfold thereD; infer_instance
def writeD (D : DS) (i : Int) (t : List Int) : Int × DS :=
  if D.off = true then (9, D) else if thereD D i ∧ t.length = D.sz then
    (if (failedD { D with wait := D.wait ++ [(i.toNat, t)] }).1 = true then 9 else 0, (failedD { D with wait := D.wait ++ [(i.toNat, t)] }).2) else (1, D)
def readB (D : DS) (i : Nat) : List Int := D.wait.foldl (fun o w => if w.1 = i then w.2 else o) ((D.b.drop (i * D.sz)).take D.sz)
def syncB (sz : Nat) (ws : List (Nat × List Int)) (b : List Int) : List Int := ws.foldl (fun b w => putB sz b w.1 w.2 sz) b
def syncD (D : DS) : Int × DS :=
  if D.off = true then (9, D) else if (failedD D).1 = true then (9, (failedD D).2) else (0, { (failedD D).2 with b := syncB D.sz D.wait D.b, wait := [] })
attribute [go_sem] dskV dskO wtV
attribute [simp] dskO
theorem gone_spec (D : DS) : FnC Tryz.prog 88 [.ref 0 []] (dskO 1 2 D) (.bool D.off) (dskO 3 4 D) := by
  refine fnV mix [] 1 3 1 [.tmp 2] Tryz.func88 rfl (by kernel_rfl) (by kernel_rfl) rfl (by kernel_rfl) (by kernel_rfl) (by simp) rfl rfl ?_
  simp -implicitDefEqProofs (disch := omega) only [go_sem, ↓reduceIte]
  refine ⟨[(0, 0), (3, 1), (4, 2)], [], [], rfl, ?_, ?_, ?_⟩ <;> simp -implicitDefEqProofs (disch := omega) only [go_sem, ↓reduceIte]
theorem dsize_spec (D : DS) : FnC Tryz.prog 126 [.ref 0 []] (dskO 1 2 D) (.int .i64 D.sz) (dskO 3 4 D) := by
  refine fnV mix [] 1 3 1 [.tmp 2] Tryz.func126 rfl (by kernel_rfl) (by kernel_rfl) rfl (by kernel_rfl) (by kernel_rfl) (by simp) rfl rfl ?_
  simp -implicitDefEqProofs (disch := omega) only [go_sem, ↓reduceIte]
  refine ⟨[(0, 0), (3, 1), (4, 2)], [], [], rfl, ?_, ?_, ?_⟩ <;> simp -implicitDefEqProofs (disch := omega) only [go_sem, ↓reduceIte]
theorem sectors_spec (D : DS) (h : okD D) : FnC Tryz.prog 184 [.ref 0 []] (dskO 1 2 D) (.int .i64 (D.b.length / D.sz : Nat)) (dskO 3 4 D) := by
  have h1 := h.sz1
  have h2 := h.sz2
  have h3 := h.bl
  have e1 : max (1 : Int) (D.sz : Int) = D.sz := by omega
  have e2 : (D.b.length : Int).tdiv (D.sz : Int) = ((D.b.length / D.sz : Nat) : Int) := by rw [Int.tdiv_eq_ediv_of_nonneg (by omega)]; simp
  have e3 : D.b.length / D.sz ≤ D.b.length := Nat.div_le_self _ _
  generalize D.b.length / D.sz = q at *
  refine fnV mix pl184 1 3 1 [.tmp 2] Tryz.func184 rfl (by kernel_rfl) (by kernel_rfl) rfl (by kernel_rfl) (by kernel_rfl) (by simp) rfl rfl ?_
  simp -implicitDefEqProofs (disch := omega) only [go_sem, ↓reduceIte, e1, e2]
  refine ⟨[(0, 0), (3, 1), (4, 2)], [], [], rfl, ?_, ?_, ?_⟩ <;> simp -implicitDefEqProofs (disch := omega) only [go_sem, ↓reduceIte]
theorem there_spec (D : DS) (h : okD D) (i : Int) : FnC Tryz.prog 199 [.ref 0 [], .int .i64 i] (dskO 1 2 D) (.bool (decide (thereD D i))) (dskO 3 4 D) := by
  refine fnV mix [] 1 3 2 [.tmp 4] Tryz.func199 rfl (by kernel_rfl) (by kernel_rfl) rfl (by kernel_rfl) (by kernel_rfl) (by simp) rfl rfl ?_
  simp -implicitDefEqProofs (disch := omega) only [go_sem, ↓reduceIte]
  by_cases h1 : 0 ≤ i
  · have d1 : decide (0 ≤ i) = true := decide_eq_true h1
    have e : decide (thereD D i) = decide (i < ((D.b.length / D.sz : Nat) : Int)) := decide_eq_decide.2 ⟨fun h => h.2, fun h => ⟨h1, h⟩⟩
    rw [e]
    simp -implicitDefEqProofs (disch := omega) only [go_sem, ↓reduceIte, d1]
    refine callG false [(0, 0), (1, 1), (2, 2)] [(0, 0), (3, 3), (4, 4)] 5 (sectors_spec D h) ?_ ?_
    · simp [keys, dskO]
    simp -implicitDefEqProofs (disch := omega) only [go_sem, ↓reduceIte]
    refine ⟨[(0, 0), (3, 3), (4, 4)], [], [], rfl, ?_, ?_, ?_⟩ <;> simp -implicitDefEqProofs (disch := omega) only [go_sem, ↓reduceIte]
  · have d1 : decide (0 ≤ i) = false := decide_eq_false h1
    have e : decide (thereD D i) = false := decide_eq_false (fun h => h1 h.1)
    rw [e]
    simp -implicitDefEqProofs (disch := omega) only [go_sem, ↓reduceIte, d1]
    refine ⟨[(0, 0), (3, 1), (4, 2)], [], [], rfl, ?_, ?_, ?_⟩ <;> simp -implicitDefEqProofs (disch := omega) only [go_sem, ↓reduceIte]
theorem dput_spec (sz nb : Nat) (cw ck : AV) (off set : Bool) (left : Int) (b : List Int) (at' m n : Nat) (t : List Int) (hb : b.length = nb) (hn : t.length = n) (hs : sz ≤ 512) (hbl : nb ≤ 32768) (hm : m ≤ n) (h : at' * sz + m ≤ nb) :
    FnC Tryz.prog 115 [.ref 0 [], .agg [.int .i64 at', .sl (.ints .u8 n t)], .int .i64 m] [(0, .var (.agg [.int .i64 sz, .osl 1 [] 1 0 nb, .sl cw, .bool off, .bool set, .int .i64 left, .sl ck])), (1, .row (.ints .u8 nb b))] (.tup [])
      [(0, .var (.agg [.int .i64 sz, .osl 2 [] 1 0 nb, .sl cw, .bool off, .bool set, .int .i64 left, .sl ck])), (2, .row (.ints .u8 nb (putB sz b at' t m)))] := by
  have e1 : (at' : Int) * (sz : Int) = ((at' * sz : Nat) : Int) := by simp
  obtain ⟨a, ha⟩ : ∃ a, a = at' * sz := ⟨_, rfl⟩
  unfold putB
  rw [← ha] at h e1 ⊢
  refine fnV mix pl115 1 2 3 [] Tryz.func115 rfl (by kernel_rfl) (by kernel_rfl) rfl (by kernel_rfl) (by kernel_rfl) (by simp) rfl rfl ?_
  by_cases hm0 : m = 0
  · subst hm0
    have e2 : b.take a ++ b.drop a = b := List.take_append_drop a b
    by_cases hn0 : n = 0
    · subst hn0
      simp -implicitDefEqProofs (disch := omega) only [go_sem, ↓reduceIte, e1]
      refine ⟨[(0, 0), (2, 1)], [], [], rfl, ?_, ?_, ?_⟩ <;> simp -implicitDefEqProofs (disch := omega) only [go_sem, ↓reduceIte, List.take_zero, Nat.add_zero, e2]
    · have d1 : ¬ 0 = n := fun h => hn0 h.symm
      simp -implicitDefEqProofs (disch := omega) only [go_sem, ↓reduceIte, e1, d1]
      refine ⟨[(0, 0), (2, 1)], [], [], rfl, ?_, ?_, ?_⟩ <;> simp -implicitDefEqProofs (disch := omega) only [go_sem, ↓reduceIte, List.take_zero, Nat.add_zero, e2]
  · have d2 : ¬ nb - a = 0 := by omega
    by_cases hmn : m = n
    · subst hmn
      have e3 : t.take m = t := List.take_of_length_le (by omega)
      simp -implicitDefEqProofs (disch := omega) only [go_sem, ↓reduceIte, e1, hm0, d2]
      refine brd (fun h3 => ?_) (fun h3 => absurd (show m ≤ nb - a by omega) h3)
      simp -implicitDefEqProofs (disch := omega) only [go_sem, ↓reduceIte]
      refine ⟨[(0, 0), (2, 1)], [], [], rfl, ?_, ?_, ?_⟩ <;> simp -implicitDefEqProofs (disch := omega) only [go_sem, ↓reduceIte, e3]
    · simp -implicitDefEqProofs (disch := omega) only [go_sem, ↓reduceIte, e1, hm0, d2, hmn]
      refine brd (fun h3 => ?_) (fun h3 => absurd (show m ≤ nb - a by omega) h3)
      simp -implicitDefEqProofs (disch := omega) only [go_sem, ↓reduceIte]
      refine ⟨[(0, 0), (2, 1)], [], [], rfl, ?_, ?_, ?_⟩ <;> simp -implicitDefEqProofs (disch := omega) only [go_sem, ↓reduceIte]
end Go.Proofs.YtololahjocfbeaaGreat
