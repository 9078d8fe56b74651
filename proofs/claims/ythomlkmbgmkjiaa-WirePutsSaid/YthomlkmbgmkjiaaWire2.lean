/- The contracts of wire.Get and planchetref20.Get; the walks of WireTexts, WirePuts and WireGets. -/
import Derived.Test.YthomlkmbgmkjiaaWire
import Derived.Test.YthomlkmbgmkjiaaLI
import Derived.Test.YthomlkmbgmkjiaaAdrs2
namespace Go.Proofs.Ythomlkmbgmkjiaa
open Go Go.Sy Go.Proofs.Try
set_option maxRecDepth 100000
set_option maxHeartbeats 8000000
set_option linter.unusedSimpArgs false
set_option linter.unusedVariables false
attribute [go_sem] pl5 pl37 pl40 pl85
def z32 : List Int := List.replicate 32 0
/-- So many digests off bytes. -/
def chunk : Nat → List Int → List (List Int)
  | 0, _ => []
  | k + 1, b => b.take 32 :: chunk k (b.drop 32)
theorem chunk_len : ∀ (k : Nat) (b : List Int), (chunk k b).length = k
  | 0, _ => rfl
  | k + 1, b => by rw [chunk, List.length_cons, chunk_len k]
theorem chunk_succ : ∀ (k : Nat) (b : List Int), chunk (k + 1) b = chunk k b ++ [(b.drop (32 * k)).take 32]
  | 0, b => by simp [chunk]
  | k + 1, b => by
    have := chunk_succ k (b.drop 32)
    rw [chunk, this, chunk, List.drop_drop, show 32 + 32 * k = 32 * (k + 1) by omega]
    rfl
theorem chunk_each : ∀ (k : Nat) (b : List Int), 32 * k ≤ b.length → ∀ d ∈ chunk k b, d.length = 32
  | 0, _, _, d, h => by cases h
  | k + 1, b, hl, d, h => by
    rcases List.mem_cons.1 h with rfl | h
    · rw [List.length_take]; omega
    · exact chunk_each k _ (by rw [List.length_drop]; omega) d h
theorem chunk_mem : ∀ (k : Nat) (b : List Int), (∀ x ∈ b, 0 ≤ x ∧ x < 256) → ∀ d ∈ chunk k b, ∀ x ∈ d, 0 ≤ x ∧ x < 256
  | 0, _, _, d, h => by cases h
  | k + 1, b, hb, d, h => by
    rcases List.mem_cons.1 h with rfl | h
    · exact fun x hx => hb x (List.mem_of_mem_take hx)
    · exact chunk_mem k _ (fun x hx => hb x (List.mem_of_mem_drop hx)) d h
theorem dcat_chunk : ∀ (k : Nat) (b : List Int), 32 * k ≤ b.length → dcat (chunk k b) = b.take (32 * k)
  | 0, b, _ => by simp [chunk, dcat]
  | k + 1, b, h => by
    have ih := dcat_chunk k (b.drop 32) (by rw [List.length_drop]; omega)
    have e : dcat (chunk (k + 1) b) = b.take 32 ++ dcat (chunk k (b.drop 32)) := by simp [chunk, dcat]
    rw [e, ih, show 32 * (k + 1) = 32 + 32 * k by omega, List.take_add]
theorem chunk_dcat : ∀ (ds : List (List Int)) (t : List Int), (∀ d ∈ ds, d.length = 32) → chunk ds.length (dcat ds ++ t) = ds
  | [], _, _ => rfl
  | d :: ds, t, h => by
    have hd := h d (by simp)
    have e : dcat (d :: ds) ++ t = d ++ (dcat ds ++ t) := by simp [dcat]
    rw [List.length_cons, chunk, e, List.take_append_of_le_length (by omega), List.take_of_length_le (by omega), List.drop_append_of_le_length (by omega), List.drop_of_length_le (by omega), List.nil_append,
      chunk_dcat ds t (fun x hx => h x (by simp [hx]))]
theorem set_mid {α : Type} (a : List α) (x y : α) (n i : Nat) (h : a.length = i) : (a ++ List.replicate (n + 1) x).set i y = (a ++ [y]) ++ List.replicate n x := by
  rw [List.set_append_right _ _ (by omega), h, Nat.sub_self, List.replicate_succ, List.set_cons_zero, List.append_assoc]
  rfl
theorem take20_spec (b : List Int) (m k : Nat) (hm : b.length = m) (hk : 32 * k ≤ m) (hl : m ≤ 1000000) : FnC Try.prog 85 [.ref 0 [], .int .i64 k] [(0, .var (.sl (.ints .u8 m b)))] (.osl 1 [] 32 0 k)
    [(0, .var (.sl (.ints .u8 (m - 32 * k) (b.drop (32 * k))))), (1, .row (.lst 32 k ((chunk k b).map dg)))] := by
  refine fnV mix pl85 1 1 2 [.tmp 4] Try.func85 rfl (by kernel_rfl) (by kernel_rfl) rfl (by kernel_rfl) (by kernel_rfl) (by simp) rfl rfl ?_
  simp (implicitDefEqProofs := false) (disch := omega) only [go_sem, ↓reduceIte]
  refine loop (ι := Nat) 2 (fun i => i ≤ k) (fun i => [(0, .ref 0 []), (5, .osl 1 [] 32 0 k), (10, .int .i64 k), (11, .int .i64 i)])
    (fun i => [(0, .var (.sl (.ints .u8 (m - 32 * i) (b.drop (32 * i))))), (1, .row (.lst 32 k ((chunk i b ++ List.replicate (k - i) z32).map dg)))]) (fun i => k - i) 0 [(0, 0), (1, 1)] [] (Nat.zero_le _) rfl ?_ ?_ ?_ (fun i hi => ?_)
  · simp (implicitDefEqProofs := false) (disch := omega) only [go_sem, ↓reduceIte]
  · simp (implicitDefEqProofs := false) (disch := omega) only [go_sem, ↓reduceIte]
  · simp (implicitDefEqProofs := false) (disch := omega) only [go_sem, ↓reduceIte, Nat.mul_zero, chunk, List.map_replicate, dg, z32]
  simp (implicitDefEqProofs := false) (disch := omega) only [go_sem, ↓reduceIte]
  refine brd (fun h => ?_) (fun h => ?_)
  · have hcl := chunk_len i b
    have hle : ((chunk i b ++ List.replicate (k - i) z32).map dg).length = k := by simp [hcl]; omega
    have hgi : (chunk i b ++ List.replicate (k - i) z32)[i]? = some z32 := by
      rw [List.getElem?_append_right (by omega), hcl, Nat.sub_self, List.getElem?_replicate, if_pos (by omega)]
    have hg := fun K => getP_map (f := dg) hgi K
    have hset : ∀ y : List Int, ((chunk i b ++ List.replicate (k - i) z32).map dg).set i (dg y) = ((chunk i b ++ [y]) ++ List.replicate (k - (i + 1)) z32).map dg := fun y => by
      rw [← set_mid (chunk i b) z32 y (k - (i + 1)) i hcl, show k - (i + 1) + 1 = k - i by omega]
      rw [List.map_set]
    have hdl : (b.drop (32 * i)).length = m - 32 * i := by rw [List.length_drop]; omega
    have hc := chunk_succ i b
    have rd : z32.drop 32 = [] := rfl
    have hd2 : (b.drop (32 * i)).drop 32 = b.drop (32 * (i + 1)) := by rw [List.drop_drop]; congr 1
    have hm2 : m - 32 * i - 32 = m - 32 * (i + 1) := by omega
    have hset' : ((chunk i b ++ List.replicate (k - i) z32).map dg).set i (.ints .u8 32 ((b.drop (32 * i)).take 32)) = ((chunk i b ++ [(b.drop (32 * i)).take 32]) ++ List.replicate (k - (i + 1)) z32).map dg := hset _
    have hdd : ((b.drop (32 * i)).drop 32).take (m - 32 * (i + 1)) = b.drop (32 * (i + 1)) := by rw [hd2, List.take_of_length_le (by rw [List.length_drop]; omega)]
    rw [← hc] at hset'
    simp (implicitDefEqProofs := false) (disch := omega) only [go_sem, ↓reduceIte, hle, hg]
    refine brd (fun h5 => by omega) (fun h5 => ?_)
    simp (implicitDefEqProofs := false) (disch := omega) only [go_sem, ↓reduceIte, hle, hg, dg, ↓subC_len]
    refine brd (fun h6 => ?_) (fun h6 => ?_)
    · have e32 : m - 32 * i = 32 := by omega
      have t32 : (b.drop (32 * i)).take 32 = b.drop (32 * i) := List.take_of_length_le (by omega)
      rw [t32] at hset'
      have e0 : m - 32 * (i + 1) = 0 := by omega
      have d0 : b.drop (32 * (i + 1)) = [] := List.drop_of_length_le (by omega)
      simp (implicitDefEqProofs := false) (disch := omega) only [go_sem, ↓reduceIte, hle, hg, dg, ↓subC_len, e32, rd, hset']
      refine ⟨i + 1, [(0, 0), (1, 1)], [], [], by dsimp only; omega, by dsimp only; omega, rfl, ?_, ?_, ?_⟩ <;> simp (implicitDefEqProofs := false) (disch := omega) only [go_sem, ↓reduceIte, e0, d0]
    · simp (implicitDefEqProofs := false) (disch := omega) only [go_sem, ↓reduceIte, hle, hg, dg, ↓subC_len, rd, hset', hdd, hm2]
      refine ⟨i + 1, [(0, 0), (1, 1)], [], [], by dsimp only; omega, by dsimp only; omega, rfl, ?_, ?_, ?_⟩ <;> simp (implicitDefEqProofs := false) (disch := omega) only [go_sem, ↓reduceIte]
  obtain rfl : i = k := by omega
  simp (implicitDefEqProofs := false) (disch := omega) only [go_sem, ↓reduceIte]
  refine ⟨[(0, 0), (1, 1)], [], [], rfl, ?_, ?_, ?_⟩ <;> simp (implicitDefEqProofs := false) (disch := omega) only [go_sem, ↓reduceIte, Nat.sub_self, List.append_nil]
/-- So many parts off bytes. -/
def partsD : Nat → Nat → List Int → List Part
  | 0, _, _ => []
  | k + 1, B, b => (chunk 67 b, chunk B (b.drop 2144)) :: partsD k B (b.drop (2144 + 32 * B))
theorem partsD_len (B : Nat) : ∀ (k : Nat) (b : List Int), (partsD k B b).length = k
  | 0, _ => rfl
  | k + 1, b => by rw [partsD, List.length_cons, partsD_len B k]
theorem partsD_succ (B : Nat) : ∀ (k : Nat) (b : List Int), partsD (k + 1) B b = partsD k B b ++ [(chunk 67 (b.drop (k * (2144 + 32 * B))), chunk B ((b.drop (k * (2144 + 32 * B))).drop 2144))]
  | 0, b => by simp [partsD]
  | k + 1, b => by
    have ih := partsD_succ B k (b.drop (2144 + 32 * B))
    rw [partsD, ih, partsD, List.drop_drop, show 2144 + 32 * B + k * (2144 + 32 * B) = (k + 1) * (2144 + 32 * B) by rw [Nat.add_mul]; omega]
    rfl
theorem pt_chunk (B : Nat) (x y : List Int) : pt (chunk 67 x, chunk B y) = .agg [.sl (.lst 32 67 ((chunk 67 x).map dg)), .sl (.lst 32 B ((chunk B y).map dg))] := by
  simp only [pt, chunk_len]
theorem get_ok_spec (A B n : Nat) (bs : List Int) (hr : rightP A B) (hl : bs.length = n) (hn : n = 40 + 32 * (A * (67 + B))) (hb : ∀ x ∈ bs, 0 ≤ x ∧ x < 256) (hi : ofb (bs.take 8) < manyD A B) :
    FnC Try.prog 37 [.agg [.int .i64 A, .int .i64 B], .sl (.ints .u8 n bs)] []
      (.tup [.agg [.int .i64 (ofb (bs.take 8)), .ints .u8 32 ((bs.drop 8).take 32), .sl (.lst 2 A ((partsD A B (bs.drop 40)).map pt))], .int .i64 0]) [] := by
  obtain ⟨r1, r2, r3, r4⟩ := id hr
  have hm0 := manyD_pos hr
  have hml := manyD_le A B
  have hXl : A * (67 + B) ≤ 284 := Nat.le_trans (Nat.mul_le_mul (show A ≤ 4 by omega) (show 67 + B ≤ 71 by omega)) (by decide)
  obtain ⟨X, hXn⟩ : ∃ X, X = A * (67 + B) := ⟨_, rfl⟩
  have hX : (A : Int) * (67 + (B : Int)) = (X : Int) := by rw [hXn]; simp
  rw [← hXn] at hn hXl
  have ht8 : (bs.take 8).length = 8 := by rw [List.length_take]; omega
  have hp := pof_spec (bs.take 8) (by omega) (fun x hx => hb x (List.mem_of_mem_take hx))
  rw [ht8] at hp
  have ho := ofb_lt hb 8
  have hd8 : (bs.drop 8).take (n - 8) = bs.drop 8 := List.take_of_length_le (by rw [List.length_drop]; omega)
  have hl8 : (bs.drop 8).length = n - 8 := by rw [List.length_drop]; omega
  refine fnN mix pl37 0 2 [.cell 4 57, .tmp 5] Try.func37 rfl (by kernel_rfl) (by kernel_rfl) rfl (by kernel_rfl) (by kernel_rfl) (by simp) ?_
  simp (implicitDefEqProofs := false) (disch := omega) only [go_sem, ↓reduceIte]
  refine call0 (many_spec A B) ?_
  simp (implicitDefEqProofs := false) (disch := omega) only [go_sem, ↓reduceIte]
  refine brd (fun h => by omega) (fun h => ?_)
  simp (implicitDefEqProofs := false) (disch := omega) only [go_sem, ↓reduceIte, hX]
  refine brd (fun h => ?_) (fun h => by omega)
  simp (implicitDefEqProofs := false) (disch := omega) only [go_sem, ↓reduceIte, ↓subC_len, hX]
  refine call0 hp ?_
  simp (implicitDefEqProofs := false) (disch := omega) only [go_sem, ↓reduceIte, hX]
  refine brd (fun h => by omega) (fun h => ?_)
  simp (implicitDefEqProofs := false) (disch := omega) only [go_sem, ↓reduceIte, ↓subC_len, hd8]
  have hk1 := take20_spec (bs.drop 8) (n - 8) 1 hl8 (by omega) (by omega)
  rw [show chunk 1 (bs.drop 8) = [(bs.drop 8).take 32] from rfl, show 32 * 1 = 32 from rfl, List.drop_drop, show n - 8 - 32 = n - 40 by omega] at hk1
  refine callG false [(0, 2)] [(0, 2), (1, 3)] 4 hk1 ?_ ?_
  · simp [keys]
  simp (implicitDefEqProofs := false) (disch := omega) only [go_sem, ↓reduceIte, dg]
  obtain ⟨E, hE⟩ : ∃ E, E = 2144 + 32 * B := ⟨_, rfl⟩
  have hAE : 32 * X = A * E := by rw [hXn, hE, Nat.mul_left_comm]; congr 1; omega
  refine loop (ι := Nat) 5 (fun i => i ≤ A) (fun i => [(2, .ref 0 []), (4, .ref 1 []), (5, .int .i64 0), (9, .ref 2 []), (10, .ref 3 []), (53, .int .i64 A), (54, .int .i64 i)])
    (fun i => [(0, .var (.agg [.int .i64 A, .int .i64 B])), (1, .var (.agg [.int .i64 0, .ints .u8 32 (List.replicate 32 0), .nils])), (2, .var (.sl (.ints .u8 (n - 40 - i * E) ((bs.drop 40).drop (i * E))))), (3, .var (.agg [.int .i64 (ofb (bs.take 8)), .ints .u8 32 ((bs.drop 8).take 32), .osl 4 [] 2 0 i])), (4, .row (.lst 2 i ((partsD i B (bs.drop 40)).map pt)))])
    (fun i => A - i) 0 [(0, 0), (1, 1), (2, 2), (3, 4)] [4] (Nat.zero_le _) rfl ?_ ?_ ?_ (fun i hi => ?_)
  · simp (implicitDefEqProofs := false) (disch := omega) only [go_sem, ↓reduceIte]
  · simp (implicitDefEqProofs := false) (disch := omega) only [go_sem, ↓reduceIte]
  · simp (implicitDefEqProofs := false) (disch := omega) only [go_sem, ↓reduceIte, Nat.zero_mul, partsD]
  simp (implicitDefEqProofs := false) (disch := omega) only [go_sem, ↓reduceIte]
  refine brd (fun h5 => ?_) (fun h5 => ?_)
  · have q1 : (i + 1) * E = i * E + E := by rw [Nat.add_mul, Nat.one_mul]
    have q2 : (i + 1) * E ≤ A * E := Nat.mul_le_mul_right _ (by omega)
    have l1 : ((bs.drop 40).drop (i * E)).length = n - 40 - i * E := by rw [List.length_drop, List.length_drop]; omega
    have hps := partsD_succ B i (bs.drop 40)
    rw [← hE] at hps
    have hr2 : (((bs.drop 40).drop (i * E)).drop 2144).drop (32 * B) = (bs.drop 40).drop ((i + 1) * E) := by rw [List.drop_drop, List.drop_drop, q1, hE]
    generalize hrest : (bs.drop 40).drop (i * E) = rest at *
    have t1 := take20_spec rest (n - 40 - i * E) 67 l1 (by omega) (by omega)
    have t2 := take20_spec (rest.drop (32 * 67)) (n - 40 - i * E - 32 * 67) B (by rw [List.length_drop]; omega) (by omega) (by omega)
    simp (implicitDefEqProofs := false) (disch := omega) only [go_sem, ↓reduceIte]
    refine callG false [(0, 2)] [(0, 2), (1, 5)] 6 t1 ?_ ?_
    · simp [keys]
    simp (implicitDefEqProofs := false) (disch := omega) only [go_sem, ↓reduceIte]
    refine callG false [(0, 2)] [(0, 2), (1, 6)] 7 t2 ?_ ?_
    · simp [keys]
    have hem : n - 40 - i * E - 2144 - 32 * B = n - 40 - (i + 1) * E := by omega
    simp (implicitDefEqProofs := false) (disch := omega) only [go_sem, ↓reduceIte]
    refine ⟨i + 1, [(0, 0), (1, 1), (2, 2), (3, 3), (4, 8)], [], [], by dsimp only; omega, by dsimp only; omega, rfl, ?_, ?_, ?_⟩ <;> simp (implicitDefEqProofs := false) (disch := omega) only [go_sem, ↓reduceIte, hem, hr2, hps, List.map_append, pt_chunk]
  obtain rfl : i = A := by omega
  simp (implicitDefEqProofs := false) (disch := omega) only [go_sem, ↓reduceIte]
  refine ⟨[], [], [4], rfl, ?_, ?_, ?_⟩ <;> simp (implicitDefEqProofs := false) (disch := omega) only [go_sem, ↓reduceIte]
def sig0 : AV := .agg [.int .i64 0, .ints .u8 32 (List.replicate 32 0), .sl (.lst 2 0 [])]
theorem get_none_spec (a b : Int) (n : Nat) (bs : List Int) (h : ¬ rightP a b) : FnC Try.prog 37 [.agg [.int .i64 a, .int .i64 b], .sl (.ints .u8 n bs)] [] (.tup [sig0, .int .i64 1]) [] := by
  have e : manyD a b = 0 := if_neg h
  refine fn0 mix pl37 0 2 [.cell 4 57, .tmp 5] Try.func37 rfl (by kernel_rfl) (by kernel_rfl) rfl (by kernel_rfl) (by kernel_rfl) (by simp) ?_
  simp (implicitDefEqProofs := false) (disch := omega) only [go_sem, ↓reduceIte]
  refine call0 (many_spec a b) ?_
  rw [e]
  simp (implicitDefEqProofs := false) (disch := omega) only [go_sem, ↓reduceIte, sig0]
theorem get_form_spec (A B n : Nat) (bs : List Int) (hr : rightP A B) (hl : bs.length = n) (hln : n ≤ 1000000) (hb : ∀ x ∈ bs, 0 ≤ x ∧ x < 256) (h : ¬ (n = 40 + 32 * (A * (67 + B)) ∧ ofb (bs.take 8) < manyD A B)) :
    FnC Try.prog 37 [.agg [.int .i64 A, .int .i64 B], .sl (.ints .u8 n bs)] [] (.tup [sig0, .int .i64 2]) [] := by
  obtain ⟨r1, r2, r3, r4⟩ := id hr
  have hm0 := manyD_pos hr
  have hml := manyD_le A B
  have hXl : A * (67 + B) ≤ 284 := Nat.le_trans (Nat.mul_le_mul (show A ≤ 4 by omega) (show 67 + B ≤ 71 by omega)) (by decide)
  obtain ⟨X, hXn⟩ : ∃ X, X = A * (67 + B) := ⟨_, rfl⟩
  have hX : (A : Int) * (67 + (B : Int)) = (X : Int) := by rw [hXn]; simp
  rw [← hXn] at h hXl
  refine fn0 mix pl37 0 2 [.cell 4 57, .tmp 5] Try.func37 rfl (by kernel_rfl) (by kernel_rfl) rfl (by kernel_rfl) (by kernel_rfl) (by simp) ?_
  simp (implicitDefEqProofs := false) (disch := omega) only [go_sem, ↓reduceIte]
  refine call0 (many_spec A B) ?_
  simp (implicitDefEqProofs := false) (disch := omega) only [go_sem, ↓reduceIte]
  refine brd (fun h0 => by omega) (fun h0 => ?_)
  simp (implicitDefEqProofs := false) (disch := omega) only [go_sem, ↓reduceIte, hX]
  refine brd (fun h1 => ?_) (fun h1 => ?_)
  case' refine_2 => simp (implicitDefEqProofs := false) (disch := omega) only [go_sem, ↓reduceIte, sig0]
  have ht8 : (bs.take 8).length = 8 := by rw [List.length_take]; omega
  have hp := pof_spec (bs.take 8) (by omega) (fun x hx => hb x (List.mem_of_mem_take hx))
  rw [ht8] at hp
  simp (implicitDefEqProofs := false) (disch := omega) only [go_sem, ↓reduceIte, ↓subC_len, hX]
  refine call0 hp ?_
  simp (implicitDefEqProofs := false) (disch := omega) only [go_sem, ↓reduceIte, hX]
  refine brd (fun h2 => ?_) (fun h2 => ?_)
  · simp (implicitDefEqProofs := false) (disch := omega) only [go_sem, ↓reduceIte, sig0]
  · exact absurd ⟨by omega, by omega⟩ h
theorem rows20_spec (b : List Int) (m at_ k : Nat) (hm : b.length = m) (h : at_ + 32 * k ≤ m) (hl : m ≤ 1000000) : FnC Try.prog 88 [.sl (.ints .u8 m b), .int .i64 at_, .int .i64 k] [] (.osl 0 [] 32 0 k) [(0, .row (.lst 32 k ((chunk k (b.drop at_)).map dg)))] := by
  refine fnN mix [] 0 3 [.tmp 6] Try.func88 rfl (by kernel_rfl) (by kernel_rfl) rfl (by kernel_rfl) (by kernel_rfl) (by simp) ?_
  simp (implicitDefEqProofs := false) (disch := omega) only [go_sem, ↓reduceIte]
  refine loop (ι := Nat) 1 (fun i => i ≤ k) (fun i => [(0, .sl (.ints .u8 m b)), (1, .int .i64 at_), (2, .int .i64 k), (7, .osl 0 [] 32 0 i), (8, .int .i64 i)]) (fun i => [(0, .row (.lst 32 i ((chunk i (b.drop at_)).map dg)))]) (fun i => k - i) 0 [] [0] (Nat.zero_le _) rfl ?_ ?_ ?_ (fun i hi => ?_)
  · simp (implicitDefEqProofs := false) (disch := omega) only [go_sem, ↓reduceIte]
  · simp (implicitDefEqProofs := false) (disch := omega) only [go_sem, ↓reduceIte]
  · simp (implicitDefEqProofs := false) (disch := omega) only [go_sem, ↓reduceIte, chunk]
  simp (implicitDefEqProofs := false) (disch := omega) only [go_sem, ↓reduceIte]
  refine brd (fun h1 => ?_) (fun h1 => ?_)
  · have hc := chunk_succ i (b.drop at_)
    have hxl : (((b.drop at_).drop (32 * i)).take 32).length = 32 := by simp only [List.length_take, List.length_drop]; omega
    have hxg : ∀ j, j < 32 → (((b.drop at_).drop (32 * i)).take 32).getD j 0 = b.getD (at_ + 32 * i + j) 0 := fun j hj => by
      simp only [List.getD, List.getElem?_take, List.getElem?_drop, if_pos hj]
      congr 2; omega
    generalize ((b.drop at_).drop (32 * i)).take 32 = x at *
    simp (implicitDefEqProofs := false) (disch := omega) only [go_sem, ↓reduceIte]
    refine loop (ι := Nat) 2 (fun j => j ≤ 32) (fun j => [(0, .sl (.ints .u8 m b)), (1, .int .i64 at_), (2, .int .i64 k), (7, .osl 0 [] 32 0 i), (8, .int .i64 i), (9, .ref 1 []), (10, .int .i64 j)]) (fun j => [(0, .row (.lst 32 i ((chunk i (b.drop at_)).map dg))), (1, .var (.ints .u8 32 (x.take j ++ List.replicate (32 - j) 0)))]) (fun j => 32 - j) 0 [(0, 0), (1, 1)] [] (Nat.zero_le _) rfl ?_ ?_ ?_ (fun j hj => ?_)
    · simp (implicitDefEqProofs := false) (disch := omega) only [go_sem, ↓reduceIte]
    · simp (implicitDefEqProofs := false) (disch := omega) only [go_sem, ↓reduceIte]
    · simp (implicitDefEqProofs := false) (disch := omega) only [go_sem, ↓reduceIte]
    simp (implicitDefEqProofs := false) (disch := omega) only [go_sem, ↓reduceIte]
    refine brd (fun h2 => ?_) (fun h2 => ?_)
    · have e0 : ((at_ : Int) + 32 * i + j).toNat = at_ + 32 * i + j := by omega
      have e1 := set_step hxl (show j < 32 by omega) (hxg j (by omega))
      simp (implicitDefEqProofs := false) (disch := omega) only [go_sem, ↓reduceIte, e0, e1]
      refine ⟨j + 1, [(0, 0), (1, 1)], [], [], by dsimp only; omega, by dsimp only; omega, rfl, ?_, ?_, ?_⟩ <;> simp (implicitDefEqProofs := false) (disch := omega) only [go_sem, ↓reduceIte]
    obtain rfl : j = 32 := by omega
    have e2 : x.take 32 ++ List.replicate (32 - 32) 0 = x := by rw [List.take_of_length_le (by omega)]; exact List.append_nil _
    rw [e2]
    simp (implicitDefEqProofs := false) (disch := omega) only [go_sem, ↓reduceIte]
    refine ⟨i + 1, [(0, 3)], [], [], by dsimp only; omega, by dsimp only; omega, rfl, ?_, ?_, ?_⟩ <;> simp (implicitDefEqProofs := false) (disch := omega) only [go_sem, ↓reduceIte, hc, List.map_append, dg]
  obtain rfl : i = k := by omega
  simp (implicitDefEqProofs := false) (disch := omega) only [go_sem, ↓reduceIte]
  refine ⟨[(0, 0)], [], [], rfl, ?_, ?_, ?_⟩ <;> simp (implicitDefEqProofs := false) (disch := omega) only [go_sem, ↓reduceIte]
theorem refget_bad_spec (A B n : Nat) (bs : List Int) (hr : rightP A B) (hl : bs.length = n) (hln : n ≤ 1000000) (hb : ∀ x ∈ bs, 0 ≤ x ∧ x < 256) (h : ¬ (n = 40 + 32 * (A * (67 + B)) ∧ ofb (bs.take 8) < manyD A B)) :
    FnC Try.prog 40 [.agg [.int .i64 A, .int .i64 B], .sl (.ints .u8 n bs)] [] (.tup [sig0, .bool false]) [] := by
  obtain ⟨r1, r2, r3, r4⟩ := id hr
  have hm0 := manyD_pos hr
  have hml := manyD_le A B
  have hXl : A * (67 + B) ≤ 284 := Nat.le_trans (Nat.mul_le_mul (show A ≤ 4 by omega) (show 67 + B ≤ 71 by omega)) (by decide)
  obtain ⟨X, hXn⟩ : ∃ X, X = A * (67 + B) := ⟨_, rfl⟩
  have hX : (A : Int) * (32 * (67 + (B : Int))) = 32 * (X : Int) := by rw [hXn, Int.mul_left_comm]; simp
  rw [← hXn] at h hXl
  refine fn0 mix pl40 0 2 [.cell 4 57, .tmp 5] Try.func40 rfl (by kernel_rfl) (by kernel_rfl) rfl (by kernel_rfl) (by kernel_rfl) (by simp) ?_
  simp (implicitDefEqProofs := false) (disch := omega) only [go_sem, ↓reduceIte, hX]
  refine brd (fun h1 => ?_) (fun h1 => ?_)
  case' refine_2 => simp (implicitDefEqProofs := false) (disch := omega) only [go_sem, ↓reduceIte, sig0]
  have ht8 : (bs.take 8).length = 8 := by rw [List.length_take]; omega
  have hp := refof03_spec (bs.take 8) (by omega) (fun x hx => hb x (List.mem_of_mem_take hx))
  rw [ht8] at hp
  simp (implicitDefEqProofs := false) (disch := omega) only [go_sem, ↓reduceIte, ↓subC_len, hX]
  refine call0 hp ?_
  simp (implicitDefEqProofs := false) (disch := omega) only [go_sem, ↓reduceIte, hX]
  refine call0 (refmany_spec A B) ?_
  simp (implicitDefEqProofs := false) (disch := omega) only [go_sem, ↓reduceIte]
  refine brd (fun h2 => ?_) (fun h2 => ?_)
  · simp (implicitDefEqProofs := false) (disch := omega) only [go_sem, ↓reduceIte, sig0]
  · exact absurd ⟨by omega, by omega⟩ h
theorem refget_ok_spec (A B n : Nat) (bs : List Int) (hr : rightP A B) (hl : bs.length = n) (hn : n = 40 + 32 * (A * (67 + B))) (hb : ∀ x ∈ bs, 0 ≤ x ∧ x < 256) (hi : ofb (bs.take 8) < manyD A B) :
    FnC Try.prog 40 [.agg [.int .i64 A, .int .i64 B], .sl (.ints .u8 n bs)] []
      (.tup [.agg [.int .i64 (ofb (bs.take 8)), .ints .u8 32 ((bs.drop 8).take 32), .sl (.lst 2 A ((partsD A B (bs.drop 40)).map pt))], .bool true]) [] := by
  obtain ⟨r1, r2, r3, r4⟩ := id hr
  have hm0 := manyD_pos hr
  have hml := manyD_le A B
  have hXl : A * (67 + B) ≤ 284 := Nat.le_trans (Nat.mul_le_mul (show A ≤ 4 by omega) (show 67 + B ≤ 71 by omega)) (by decide)
  obtain ⟨X, hXn⟩ : ∃ X, X = A * (67 + B) := ⟨_, rfl⟩
  have hX : (A : Int) * (32 * (67 + (B : Int))) = 32 * (X : Int) := by rw [hXn, Int.mul_left_comm]; simp
  rw [← hXn] at hn hXl
  have ht8 : (bs.take 8).length = 8 := by rw [List.length_take]; omega
  have hp := refof03_spec (bs.take 8) (by omega) (fun x hx => hb x (List.mem_of_mem_take hx))
  rw [ht8] at hp
  have ho := ofb_lt hb 8
  obtain ⟨E, hE⟩ : ∃ E, E = 2144 + 32 * B := ⟨_, rfl⟩
  have hEI : 32 * (67 + (B : Int)) = (E : Int) := by omega
  have hAE : 32 * X = A * E := by rw [hXn, hE, Nat.mul_left_comm]; congr 1; omega
  have hk1 := rows20_spec bs n 8 1 hl (by omega) (by omega)
  rw [show chunk 1 (bs.drop 8) = [(bs.drop 8).take 32] from rfl] at hk1
  refine fnN mix pl40 0 2 [.cell 4 57, .tmp 5] Try.func40 rfl (by kernel_rfl) (by kernel_rfl) rfl (by kernel_rfl) (by kernel_rfl) (by simp) ?_
  simp (implicitDefEqProofs := false) (disch := omega) only [go_sem, ↓reduceIte, hX]
  refine brd (fun h => ?_) (fun h => by omega)
  simp (implicitDefEqProofs := false) (disch := omega) only [go_sem, ↓reduceIte, ↓subC_len]
  refine call0 hp ?_
  simp (implicitDefEqProofs := false) (disch := omega) only [go_sem, ↓reduceIte]
  refine call0 (refmany_spec A B) ?_
  simp (implicitDefEqProofs := false) (disch := omega) only [go_sem, ↓reduceIte]
  refine brd (fun h => by omega) (fun h => ?_)
  simp (implicitDefEqProofs := false) (disch := omega) only [go_sem, ↓reduceIte]
  refine callF 1 hk1 ?_
  simp (implicitDefEqProofs := false) (disch := omega) only [go_sem, ↓reduceIte, dg]
  refine loop (ι := Nat) 4 (fun i => i ≤ A) (fun i => [(1, .sl (.ints .u8 n bs)), (2, .ref 0 []), (4, .ref 1 []), (5, .bool false), (6, .int .i64 (32 * (67 + (B : Int)))), (8, .ref 2 []), (9, .int .i64 i)])
    (fun i => [(0, .var (.agg [.int .i64 A, .int .i64 B])), (1, .var (.agg [.int .i64 0, .ints .u8 32 (List.replicate 32 0), .nils])), (2, .var (.agg [.int .i64 (ofb (bs.take 8)), .ints .u8 32 ((bs.drop 8).take 32), .osl 3 [] 2 0 i])), (3, .row (.lst 2 i ((partsD i B (bs.drop 40)).map pt)))])
    (fun i => A - i) 0 [(0, 0), (1, 1), (2, 3)] [3] (Nat.zero_le _) rfl ?_ ?_ ?_ (fun i hi => ?_)
  · simp (implicitDefEqProofs := false) (disch := omega) only [go_sem, ↓reduceIte]
  · simp (implicitDefEqProofs := false) (disch := omega) only [go_sem, ↓reduceIte]
  · simp (implicitDefEqProofs := false) (disch := omega) only [go_sem, ↓reduceIte, partsD]
  simp (implicitDefEqProofs := false) (disch := omega) only [go_sem, ↓reduceIte]
  refine brd (fun h5 => ?_) (fun h5 => ?_)
  · have q1 : (i + 1) * E = i * E + E := by rw [Nat.add_mul, Nat.one_mul]
    have q2 : (i + 1) * E ≤ A * E := Nat.mul_le_mul_right _ (by omega)
    have hps := partsD_succ B i (bs.drop 40)
    rw [← hE, List.drop_drop, List.drop_drop] at hps
    have q3 : (i : Int) * (E : Int) = ((i * E : Nat) : Int) := by simp
    have q4 : 40 + i * E + 2144 = 40 + (i * E + 2144) := by omega
    generalize i * E = Y at *
    have t1 := rows20_spec bs n (40 + Y) 67 hl (by omega) (by omega)
    have t2 := rows20_spec bs n (40 + Y + 2144) B hl (by omega) (by omega)
    simp only [Int.natCast_add, Int.cast_ofNat_Int] at t1 t2
    simp (implicitDefEqProofs := false) (disch := omega) only [go_sem, ↓reduceIte, hEI, q3]
    refine callF 1 t1 ?_
    simp (implicitDefEqProofs := false) (disch := omega) only [go_sem, ↓reduceIte, hEI, q3]
    refine callF 1 t2 ?_
    simp (implicitDefEqProofs := false) (disch := omega) only [go_sem, ↓reduceIte]
    refine ⟨i + 1, [(0, 0), (1, 1), (2, 2), (3, 7)], [], [], by dsimp only; omega, by dsimp only; omega, rfl, ?_, ?_, ?_⟩ <;> simp (implicitDefEqProofs := false) (disch := omega) only [go_sem, ↓reduceIte, hps, List.map_append, pt_chunk]
  obtain rfl : i = A := by omega
  simp (implicitDefEqProofs := false) (disch := omega) only [go_sem, ↓reduceIte]
  refine ⟨[], [], [3], rfl, ?_, ?_, ?_⟩ <;> simp (implicitDefEqProofs := false) (disch := omega) only [go_sem, ↓reduceIte]
/-! Texts tell their heads. -/
theorem be8_inj {x y : Int} (hx : -9223372036854775808 ≤ x ∧ x < 9223372036854775808) (hy : -9223372036854775808 ≤ y ∧ y < 9223372036854775808) (h : be (IntKind.u64.wrap x) 8 = be (IntKind.u64.wrap y) 8) : x = y := by
  have e := congrArg ofb h
  rw [ofb_be, ofb_be, u64_mod, u64_mod] at e
  have p : (256 : Int) ^ 8 = 18446744073709551616 := by decide
  rw [p] at e
  omega
theorem nums2 (x y : Int) : nums [x, y] = be (IntKind.u64.wrap x) 8 ++ be (IntKind.u64.wrap y) 8 := by simp [nums]
theorem nums3 (x y z : Int) : nums [x, y, z] = be (IntKind.u64.wrap x) 8 ++ (be (IntKind.u64.wrap y) 8 ++ be (IntKind.u64.wrap z) 8) := by simp [nums]
theorem dcat2 (x y : List Int) : dcat [x, y] = x ++ y := by simp [dcat]
def isI (x : Int) : Prop := -9223372036854775808 ≤ x ∧ x < 9223372036854775808
theorem headT_inj {k e k' e' : Int} {t l t' l' : List Int} (hk : isI k) (he : isI e) (hk' : isI k') (he' : isI e') (ht : t.length = 32) (ht' : t'.length = 32) : headT k e t l = headT k' e' t' l' ↔ (k = k' ∧ e = e' ∧ t = t' ∧ l = l') := by
  constructor
  · intro h
    simp only [headT, nums2, dcat2, List.cons.injEq, true_and, List.append_assoc] at h
    obtain ⟨h1, h⟩ := List.append_inj h (by rw [be_len, be_len])
    obtain ⟨h2, h⟩ := List.append_inj h (by rw [be_len, be_len])
    obtain ⟨h3, h4⟩ := List.append_inj h (by rw [ht, ht'])
    exact ⟨be8_inj hk hk' h1, be8_inj he he' h2, h3, h4⟩
  · rintro ⟨rfl, rfl, rfl, rfl⟩; rfl
theorem head_key (k e c a b : Int) (t l r p : List Int) : headT k e t l ≠ keyT c a b r p := by
  intro h
  simp only [headT, keyT, List.cons.injEq] at h
  exact absurd h.1 (by decide)
theorem nums_mem (l : List Int) : ∀ x ∈ nums l, 0 ≤ x ∧ x < 256 := by
  intro x hx
  obtain ⟨y, _, hx⟩ := List.mem_flatMap.1 hx
  exact be_mem _ _ x hx
theorem cons_mem {p : Int → Prop} {a : Int} {l : List Int} (ha : p a) (hl : ∀ x ∈ l, p x) : ∀ x ∈ a :: l, p x := fun x hx => by
  rcases List.mem_cons.1 hx with rfl | hx
  · exact ha
  · exact hl x hx
theorem app_mem20 {p : Int → Prop} {a b : List Int} (ha : ∀ x ∈ a, p x) (hb : ∀ x ∈ b, p x) : ∀ x ∈ a ++ b, p x := fun x hx => by
  rcases List.mem_append.1 hx with hx | hx
  · exact ha x hx
  · exact hb x hx
theorem headT_mem (k e : Int) {t l : List Int} (ht : ∀ x ∈ t, 0 ≤ x ∧ x < 256) (hl : ∀ x ∈ l, 0 ≤ x ∧ x < 256) : ∀ x ∈ headT k e t l, 0 ≤ x ∧ x < 256 := by
  refine cons_mem (by decide) (app_mem20 (nums_mem _) ?_)
  rw [dcat2]; exact app_mem20 ht hl
theorem keyT_mem (k a b : Int) {t l : List Int} (ht : ∀ x ∈ t, 0 ≤ x ∧ x < 256) (hl : ∀ x ∈ l, 0 ≤ x ∧ x < 256) : ∀ x ∈ keyT k a b t l, 0 ≤ x ∧ x < 256 := by
  refine cons_mem (by decide) (app_mem20 (nums_mem _) ?_)
  rw [dcat2]; exact app_mem20 ht hl
theorem bytes_inj20 : ∀ {a b : List Int}, (∀ x ∈ a, 0 ≤ x ∧ x < 256) → (∀ x ∈ b, 0 ≤ x ∧ x < 256) → ((a.map fun x => UInt8.ofNat x.toNat) = (b.map fun x => UInt8.ofNat x.toNat) ↔ a = b)
  | [], [], _, _ => by simp
  | [], y :: b, _, _ => by simp
  | x :: a, [], _, _ => by simp
  | x :: a, y :: b, ha, hb => by
    have ih := bytes_inj20 (a := a) (b := b) (fun z hz => ha z (by simp [hz])) (fun z hz => hb z (by simp [hz]))
    have hx := ha x (by simp)
    have hy := hb y (by simp)
    have e : UInt8.ofNat x.toNat = UInt8.ofNat y.toNat ↔ x = y := by
      constructor
      · intro h
        have := congrArg UInt8.toNat h
        rw [UInt8.toNat_ofNat', UInt8.toNat_ofNat'] at this
        omega
      · intro h; rw [h]
    simp only [List.map_cons, List.cons.injEq, e, ih]
theorem knows20_spec : FnC Try.prog 32 [] [] (.bool true) [] := by
  have p1 := (put_bad_spec 0 0 0 (List.replicate 32 0) [] (by decide) (by decide)).nz (args' := [.agg [.int .i64 0, .int .i64 0], .agg [.int .i64 0, .ints .u8 32 (List.replicate 32 0), .nils]]) (by simp [Go.Sy.nz, nzs, AV.void])
  have p2 := (get_none_spec 0 0 0 [] (by decide)).nz (args' := [.agg [.int .i64 0, .int .i64 0], .nils]) (by simp [Go.Sy.nz, nzs, AV.void])
  have p3 := (get_form_spec 1 1 0 [] (by decide) rfl (by decide) (by simp) (by decide)).nz (args' := [.agg [.int .i64 1, .int .i64 1], .nils]) (by simp [Go.Sy.nz, nzs, AV.void])
  simp only [sig0] at p2 p3
  refine fn0 mix [] 0 0 [.tmp 0] Try.func32 rfl (by kernel_rfl) (by kernel_rfl) rfl (by kernel_rfl) (by kernel_rfl) (by simp) ?_
  simp (implicitDefEqProofs := false) (disch := omega) only [go_sem, ↓reduceIte]
  refine call0 p1 ?_
  simp (implicitDefEqProofs := false) (disch := omega) only [go_sem, ↓reduceIte]
  refine call0 p2 ?_
  simp (implicitDefEqProofs := false) (disch := omega) only [go_sem, ↓reduceIte]
  refine call0 p3 ?_
  simp (implicitDefEqProofs := false) (disch := omega) only [go_sem, ↓reduceIte]
  refine callF 1 (headText_spec 0 0 (List.replicate 32 0) (List.replicate 32 0)) ?_
  simp (implicitDefEqProofs := false) (disch := omega) only [go_sem, ↓reduceIte]
  refine callF 1 (epochText_spec 0 (List.replicate 32 0)) ?_
  simp (implicitDefEqProofs := false) (disch := omega) only [go_sem, ↓reduceIte]
  refine callF 1 (keyText_spec 0 0 0 (List.replicate 32 0) (List.replicate 32 0)) ?_
  simp (implicitDefEqProofs := false) (disch := omega) only [go_sem, ↓reduceIte]
theorem wireTexts_spec (k e k' e' a b : Int) (t l t' l' r p : List Int) (hk : isI k) (he : isI e) (hk' : isI k') (he' : isI e') (ht : t.length = 32) (ht' : t'.length = 32) (hl : l.length = 32) (hl' : l'.length = 32)
    (bt : ∀ x ∈ t, 0 ≤ x ∧ x < 256) (bl : ∀ x ∈ l, 0 ≤ x ∧ x < 256) (bt' : ∀ x ∈ t', 0 ≤ x ∧ x < 256) (bl' : ∀ x ∈ l', 0 ≤ x ∧ x < 256) (br : ∀ x ∈ r, 0 ≤ x ∧ x < 256) (bp : ∀ x ∈ p, 0 ≤ x ∧ x < 256) :
    FnC Try.prog 5 [.agg [.int .i64 k, .int .i64 e, .ints .u8 32 t, .ints .u8 32 l], .agg [.int .i64 k', .int .i64 e', .ints .u8 32 t', .ints .u8 32 l'], .agg [.agg [.int .i64 a, .int .i64 b], .ints .u8 32 r, .ints .u8 32 p]] [] (.bool true) [] := by
  have c1 : decide (((headT k e t l).map fun x => UInt8.ofNat x.toNat) = ((headT k' e' t' l').map fun x => UInt8.ofNat x.toNat)) = (decide (k = k') && (decide (e = e') && (decide (t = t') && decide (l = l')))) := by
    rw [← Bool.decide_and, ← Bool.decide_and, ← Bool.decide_and]
    exact decide_eq_decide.2 ((bytes_inj20 (headT_mem k e bt bl) (headT_mem k' e' bt' bl')).trans (headT_inj hk he hk' he' ht ht'))
  have c2 : decide (((headT k e t l).map fun x => UInt8.ofNat x.toNat) = ((keyT k a b r p).map fun x => UInt8.ofNat x.toNat)) = false := decide_eq_false fun h => head_key _ _ _ _ _ _ _ _ _ ((bytes_inj20 (headT_mem k e bt bl) (keyT_mem k a b br bp)).1 h)
  refine fn0 mix pl5 0 3 [.tmp 6] Try.func5 rfl (by kernel_rfl) (by kernel_rfl) rfl (by kernel_rfl) (by kernel_rfl) (by simp) ?_
  simp (implicitDefEqProofs := false) (disch := omega) only [go_sem, ↓reduceIte]
  refine callF 1 (headText_spec k e t l) ?_
  simp (implicitDefEqProofs := false) (disch := omega) only [go_sem, ↓reduceIte]
  refine callF 1 (headText_spec k' e' t' l') ?_
  simp (implicitDefEqProofs := false) (disch := omega) only [go_sem, ↓reduceIte]
  refine callF 1 (keyText_spec k a b r p) ?_
  simp (implicitDefEqProofs := false) (disch := omega) only [go_sem, ↓reduceIte]
  refine callF 1 (refheadText_spec k e t l) ?_
  simp (implicitDefEqProofs := false) (disch := omega) only [go_sem, ↓reduceIte]
  refine callF 1 (epochText_spec e t) ?_
  simp (implicitDefEqProofs := false) (disch := omega) only [go_sem, ↓reduceIte]
  refine callF 1 (refepochText_spec e t) ?_
  simp (implicitDefEqProofs := false) (disch := omega) only [go_sem, ↓reduceIte]
  refine callF 1 (refkeyText_spec k a b r p) ?_
  simp (implicitDefEqProofs := false) (disch := omega) only [go_sem, ↓reduceIte, c1, c2, beq_self_eq_true]
  refine call0 knows20_spec ?_
  simp (implicitDefEqProofs := false) (disch := omega) only [go_sem, ↓reduceIte]
end Go.Proofs.Ythomlkmbgmkjiaa
