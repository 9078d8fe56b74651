/- The walks of WirePuts and WireGets. -/
import Derived.Test.YthomlkmbgmkjiaaWire2
namespace Go.Proofs.Ythomlkmbgmkjiaa
open Go Go.Sy Go.Proofs.Try
set_option maxRecDepth 100000
set_option maxHeartbeats 8000000
set_option linter.unusedSimpArgs false
set_option linter.unusedVariables false
attribute [go_sem] pl6
def goodD (d : List Int) : Prop := d.length = 32 ∧ ∀ x ∈ d, 0 ≤ x ∧ x < 256
def goodP (p : Part) : Prop := (∀ d ∈ p.1, goodD d) ∧ (∀ d ∈ p.2, goodD d)
theorem formed_right {a b i : Int} {ps : List Part} (h : formedP a b i ps) : rightP a b := by
  apply Classical.byContradiction
  intro hn
  have e : manyD a b = 0 := if_neg hn
  have := h.1
  have := h.2.1
  omega
theorem plen_eq {B : Nat} : ∀ (ps : List Part) (a : Nat), (∀ p ∈ ps, p.1.length = 67 ∧ p.2.length = B) → ps.foldl (fun n p => n + 32 * p.1.length + 32 * p.2.length) a = a + ps.length * (2144 + 32 * B)
  | [], a, _ => by simp
  | p :: ps, a, h => by
    obtain ⟨h1, h2⟩ := h p (by simp)
    rw [List.foldl_cons, plen_eq ps _ (fun q hq => h q (by simp [hq])), h1, h2, List.length_cons, Nat.add_mul]
    omega
theorem putP_len {B : Nat} : ∀ (ps : List Part), (∀ p ∈ ps, p.1.length = 67 ∧ p.2.length = B) → (∀ p ∈ ps, goodP p) → (putP ps).length = ps.length * (2144 + 32 * B)
  | [], _, _ => by simp [putP]
  | p :: ps, h, hg => by
    obtain ⟨h1, h2⟩ := h p (by simp)
    have ih := putP_len ps (fun q hq => h q (by simp [hq])) (fun q hq => hg q (by simp [hq]))
    have d1 := dcat_len (fun d hd => ((hg p (by simp)).1 d hd).1)
    have d2 := dcat_len (fun d hd => ((hg p (by simp)).2 d hd).1)
    have e : putP (p :: ps) = dcat p.1 ++ dcat p.2 ++ putP ps := by simp [putP]
    rw [e, List.length_append, List.length_append, ih, d1, d2, h1, h2, List.length_cons, Nat.add_mul]
    omega
theorem partsD_putP {B : Nat} : ∀ (ps : List Part), (∀ p ∈ ps, p.1.length = 67 ∧ p.2.length = B) → (∀ p ∈ ps, goodP p) → partsD ps.length B (putP ps) = ps
  | [], _, _ => rfl
  | p :: ps, h, hg => by
    obtain ⟨h1, h2⟩ := h p (by simp)
    have ih := partsD_putP ps (fun q hq => h q (by simp [hq])) (fun q hq => hg q (by simp [hq]))
    have g1 := fun d hd => ((hg p (by simp)).1 d hd).1
    have g2 := fun d hd => ((hg p (by simp)).2 d hd).1
    have d1 := dcat_len g1
    have d2 := dcat_len g2
    have e : putP (p :: ps) = dcat p.1 ++ (dcat p.2 ++ putP ps) := by simp [putP]
    have c1 := chunk_dcat p.1 (dcat p.2 ++ putP ps) g1
    have c2 := chunk_dcat p.2 (putP ps) g2
    rw [h1] at c1 d1
    rw [h2] at c2 d2
    have e1 : (dcat p.1 ++ (dcat p.2 ++ putP ps)).drop 2144 = dcat p.2 ++ putP ps := by rw [List.drop_append_of_le_length (by omega), List.drop_of_length_le (by omega), List.nil_append]
    have e2 : (dcat p.1 ++ (dcat p.2 ++ putP ps)).drop (2144 + 32 * B) = putP ps := by rw [← List.drop_drop, e1, List.drop_append_of_le_length (by omega), List.drop_of_length_le (by omega), List.nil_append]
    rw [List.length_cons, e, partsD, c1, e1, c2, e2, ih]
theorem nums1_len (i : Int) : (nums [i]).length = 8 := by simp [nums, be_len]
theorem ofb_nums {i : Int} (h : 0 ≤ i) (h' : i < 9223372036854775808) : ofb (nums [i]) = i := by
  have e : nums [i] = be (IntKind.u64.wrap i) 8 := by simp [nums]
  have p : (256 : Int) ^ 8 = 18446744073709551616 := by decide
  rw [e, ofb_be, u64_mod, p]
  omega
theorem putD_mem {i : Int} {r : List Int} {ps : List Part} (hr : ∀ x ∈ r, 0 ≤ x ∧ x < 256) (hg : ∀ p ∈ ps, goodP p) : ∀ x ∈ putD i r ps, 0 ≤ x ∧ x < 256 := by
  refine app_mem20 (app_mem20 (nums_mem _) hr) fun x hx => ?_
  obtain ⟨p, hp, hx⟩ := List.mem_flatMap.1 hx
  rcases List.mem_append.1 hx with hx | hx
  · obtain ⟨d, hd, hx⟩ := List.mem_flatMap.1 hx
    exact ((hg p hp).1 d hd).2 x hx
  · obtain ⟨d, hd, hx⟩ := List.mem_flatMap.1 hx
    exact ((hg p hp).2 d hd).2 x hx
/-- What was written is read as it was. -/
theorem put_read {A B : Nat} {i : Int} {r : List Int} {ps : List Part} (hr : r.length = 32) (hrb : ∀ x ∈ r, 0 ≤ x ∧ x < 256) (hg : ∀ p ∈ ps, goodP p) (h : formedP A B i ps) :
    FnC Try.prog 37 [.agg [.int .i64 A, .int .i64 B], .sl (.ints .u8 (40 + plen ps) (putD i r ps))] [] (.tup [.agg [.int .i64 i, .ints .u8 32 r, .sl (.lst 2 ps.length (ps.map pt))], .int .i64 0]) [] := by
  obtain ⟨h0, h1, h2, h3⟩ := id h
  have hl : ps.length = A := by omega
  subst hl
  have hpp : ∀ p ∈ ps, p.1.length = 67 ∧ p.2.length = B := fun p hp => ⟨(h3 p hp).1, by have := (h3 p hp).2; omega⟩
  have e1 : plen ps = ps.length * (2144 + 32 * B) := by unfold plen; rw [plen_eq ps 0 hpp, Nat.zero_add]
  have e2 := putP_len ps hpp hg
  have e3 := partsD_putP ps hpp hg
  have n8 := nums1_len i
  have hm := manyD_le ps.length B
  have e4 : putD i r ps = nums [i] ++ (r ++ putP ps) := by simp [putD]
  have t1 : (putD i r ps).take 8 = nums [i] := by rw [e4, List.take_append_of_le_length (by omega), List.take_of_length_le (by omega)]
  have t2 : (putD i r ps).drop 8 = r ++ putP ps := by rw [e4, List.drop_append_of_le_length (by omega), List.drop_of_length_le (by omega), List.nil_append]
  have t3 : (r ++ putP ps).take 32 = r := by rw [List.take_append_of_le_length (by omega), List.take_of_length_le (by omega)]
  have t4 : (putD i r ps).drop 40 = putP ps := by rw [show 40 = 8 + 32 from rfl, ← List.drop_drop, t2, List.drop_append_of_le_length (by omega), List.drop_of_length_le (by omega), List.nil_append]
  have hE : 32 * (ps.length * (67 + B)) = ps.length * (2144 + 32 * B) := by rw [Nat.mul_left_comm]; congr 1; omega
  have hlen : (putD i r ps).length = 40 + plen ps := by rw [e4, List.length_append, List.length_append, e2, ← e1]; omega
  have g := get_ok_spec ps.length B (40 + plen ps) (putD i r ps) (formed_right h) hlen (by rw [e1, hE]) (putD_mem hrb hg) (by rw [t1, ofb_nums h0 (by omega)]; exact h1)
  rw [t1, ofb_nums h0 (by omega), t2, t3, t4, e3] at g
  exact g
theorem wirePuts_spec (a b i : Int) (r : List Int) (ps : List Part) (hr : r.length = 32) (hrb : ∀ x ∈ r, 0 ≤ x ∧ x < 256) (hg : ∀ p ∈ ps, goodP p) (hl : ps.length ≤ 9223372036854775807) :
    FnC Try.prog 6 [.agg [.int .i64 a, .int .i64 b], .agg [.int .i64 i, .ints .u8 32 r, .sl (.lst 2 ps.length (ps.map pt))]] [] (.bool true) [] := by
  refine fn0 mix ((100006, []) :: pl6) 0 2 [.tmp 4] Try.func6 rfl (by kernel_rfl) (by kernel_rfl) rfl (by kernel_rfl) (by kernel_rfl) (by simp) ?_
  simp (implicitDefEqProofs := false) (disch := omega) only [go_sem, ↓reduceIte]
  refine call0 (few11_spec i r ps hl) ?_
  simp (implicitDefEqProofs := false) (disch := omega) only [go_sem, ↓reduceIte]
  refine brd (fun hf => ?_) (fun hf => ?_)
  case' refine_2 =>
    simp (implicitDefEqProofs := false) (disch := omega) only [go_sem, ↓reduceIte]
    refine call0 knows20_spec ?_
    simp (implicitDefEqProofs := false) (disch := omega) only [go_sem, ↓reduceIte]
  simp (implicitDefEqProofs := false) (disch := omega) only [go_sem, ↓reduceIte]
  by_cases h : formedP a b i ps
  · have hR := formed_right h
    obtain ⟨r1, r2, r3, r4⟩ := id hR
    obtain ⟨A, rfl⟩ : ∃ A : Nat, a = A := ⟨a.toNat, by omega⟩
    obtain ⟨B, rfl⟩ : ∃ B : Nat, b = B := ⟨b.toNat, by omega⟩
    have hps := hf.1
    refine callF 1 (put_spec A B i r ps hr h) ?_
    simp (implicitDefEqProofs := false) (disch := omega) only [go_sem, ↓reduceIte]
    refine call0 (refright_spec A B) ?_
    rw [decide_eq_true hR]
    simp (implicitDefEqProofs := false) (disch := omega) only [go_sem, ↓reduceIte]
    refine call0 (formed_spec A B i r ps hl) ?_
    rw [decide_eq_true h]
    simp (implicitDefEqProofs := false) (disch := omega) only [go_sem, ↓reduceIte]
    refine cut 2 [(2, .ref 0 []), (3, .ref 1 []), (4, .bool false), (5, .sl (.ints .u8 (40 + plen ps) (putD i r ps))), (6, .int .i64 0)] [(0, .var (.agg [.int .i64 A, .int .i64 B])), (1, .var (.agg [.int .i64 i, .ints .u8 32 r, .sl (.lst 2 ps.length (ps.map pt))]))] [(0, 0), (1, 1)] [] [2] rfl ?_ ?_ ?_ ?_
    · simp (implicitDefEqProofs := false) (disch := omega) only [go_sem, ↓reduceIte]
    · simp (implicitDefEqProofs := false) (disch := omega) only [go_sem, ↓reduceIte]
    · simp (implicitDefEqProofs := false) (disch := omega) only [go_sem, ↓reduceIte]
    simp (implicitDefEqProofs := false) (disch := omega) only [go_sem, ↓reduceIte]
    refine call0 (put_read hr hrb hg h) ?_
    simp (implicitDefEqProofs := false) (disch := omega) only [go_sem, ↓reduceIte]
    refine callF 1 (refput_spec A B i r ps hr h) ?_
    simp (implicitDefEqProofs := false) (disch := omega) only [go_sem, ↓reduceIte]
    refine call0 (same11_spec i i r r ps ps (by have := hf.2; omega) (fun p hp => by have := hps p hp; omega)) ?_
    simp (implicitDefEqProofs := false) (disch := omega) only [go_sem, ↓reduceIte]
    refine call0 knows20_spec ?_
    simp (implicitDefEqProofs := false) (disch := omega) only [go_sem, ↓reduceIte]
  · refine call0 (put_bad_spec a b i r ps hl h) ?_
    simp (implicitDefEqProofs := false) (disch := omega) only [go_sem, ↓reduceIte]
    refine call0 (refright_spec a b) ?_
    simp (implicitDefEqProofs := false) (disch := omega) only [go_sem, ↓reduceIte]
    refine brd (fun h1 => ?_) (fun h1 => ?_)
    · simp (implicitDefEqProofs := false) (disch := omega) only [go_sem, ↓reduceIte]
      refine call0 (formed_spec a b i r ps hl) ?_
      rw [decide_eq_false h]
      simp (implicitDefEqProofs := false) (disch := omega) only [go_sem, ↓reduceIte]
      refine call0 knows20_spec ?_
      simp (implicitDefEqProofs := false) (disch := omega) only [go_sem, ↓reduceIte]
    · simp (implicitDefEqProofs := false) (disch := omega) only [go_sem, ↓reduceIte]
      refine call0 knows20_spec ?_
      simp (implicitDefEqProofs := false) (disch := omega) only [go_sem, ↓reduceIte]
theorem putP_partsD (B : Nat) : ∀ (k : Nat) (b : List Int), k * (2144 + 32 * B) ≤ b.length → putP (partsD k B b) = b.take (k * (2144 + 32 * B))
  | 0, b, _ => by simp [partsD, putP]
  | k + 1, b, h => by
    have q : (k + 1) * (2144 + 32 * B) = 2144 + 32 * B + k * (2144 + 32 * B) := by rw [Nat.add_mul]; omega
    rw [q] at h
    have ih := putP_partsD B k (b.drop (2144 + 32 * B)) (by rw [List.length_drop]; omega)
    have e : putP (partsD (k + 1) B b) = dcat (chunk 67 b) ++ dcat (chunk B (b.drop 2144)) ++ putP (partsD k B (b.drop (2144 + 32 * B))) := by simp [partsD, putP]
    rw [e, ih, dcat_chunk 67 b (by omega), dcat_chunk B _ (by rw [List.length_drop]; omega), q, List.take_add (i := 2144 + 32 * B), List.take_add (i := 2144)]
theorem partsD_good (B : Nat) : ∀ (k : Nat) (b : List Int), k * (2144 + 32 * B) ≤ b.length → ∀ p ∈ partsD k B b, p.1.length = 67 ∧ (p.2.length : Int) = B
  | 0, b, _, p, h => by cases h
  | k + 1, b, hl, p, h => by
    have q : (k + 1) * (2144 + 32 * B) = 2144 + 32 * B + k * (2144 + 32 * B) := by rw [Nat.add_mul]; omega
    rcases List.mem_cons.1 h with rfl | h
    · simp [chunk_len]
    · exact partsD_good B k _ (by rw [List.length_drop]; omega) p h
theorem be_ofb8 {b : List Int} (hb : ∀ x ∈ b, 0 ≤ x ∧ x < 256) (h : b.length = 8) : nums [ofb b] = b := by
  have e := be_ofb 8 b h hb
  have o := ofb_lt hb 8
  rw [List.take_of_length_le (by omega)] at o
  have p : (256 : Int) ^ 8 = 18446744073709551616 := by decide
  rw [p] at o
  have w : IntKind.u64.wrap (ofb b) = ofb b := wrap_u64 o.1 o.2
  simp only [nums, List.flatMap_cons, List.flatMap_nil, List.append_nil, w, e]
/-- What is read is written as those bytes. -/
theorem read_put {A B : Nat} {bs : List Int} (hr : rightP A B) (hn : bs.length = 40 + 32 * (A * (67 + B))) (hb : ∀ x ∈ bs, 0 ≤ x ∧ x < 256) (hi : ofb (bs.take 8) < manyD A B) :
    formedP A B (ofb (bs.take 8)) (partsD A B (bs.drop 40)) ∧ 40 + plen (partsD A B (bs.drop 40)) = bs.length ∧ putD (ofb (bs.take 8)) ((bs.drop 8).take 32) (partsD A B (bs.drop 40)) = bs := by
  have hE : 32 * (A * (67 + B)) = A * (2144 + 32 * B) := by rw [Nat.mul_left_comm]; congr 1; omega
  have ho := ofb_lt hb 8
  have hl40 : (bs.drop 40).length = A * (2144 + 32 * B) := by rw [List.length_drop]; omega
  have hpg := partsD_good B A (bs.drop 40) (by omega)
  refine ⟨⟨ho.1, hi, by rw [partsD_len], hpg⟩, ?_, ?_⟩
  · have : plen (partsD A B (bs.drop 40)) = A * (2144 + 32 * B) := by
      unfold plen
      rw [plen_eq (B := B) _ 0 (fun p hp => ⟨(hpg p hp).1, by have := (hpg p hp).2; omega⟩), partsD_len, Nat.zero_add]
    omega
  · unfold putD
    rw [be_ofb8 (b := bs.take 8) (fun x hx => hb x (List.mem_of_mem_take hx)) (by rw [List.length_take]; omega), putP_partsD B A (bs.drop 40) (by omega), List.take_of_length_le (show (bs.drop 40).length ≤ A * (2144 + 32 * B) by omega), List.append_assoc]
    have e : (bs.drop 8).take 32 ++ bs.drop 40 = bs.drop 8 := by
      have := List.take_append_drop 32 (bs.drop 8)
      rw [List.drop_drop] at this
      exact this
    rw [e, List.take_append_drop]
theorem wireGets_spec (a b : Int) (bs : List Int) (hb : ∀ x ∈ bs, 0 ≤ x ∧ x < 256) (hl : bs.length ≤ 9223372036854775807) : FnC Try.prog 7 [.agg [.int .i64 a, .int .i64 b], .sl (.ints .u8 bs.length bs)] [] (.bool true) [] := by
  have hz := (same11_spec 0 0 (List.replicate 32 0) (List.replicate 32 0) [] [] (by decide) (by simp)).nz (args' := [.agg [.int .i64 0, .ints .u8 32 (List.replicate 32 0), .sl (.lst 2 0 [])], .agg [.int .i64 0, .ints .u8 32 (List.replicate 32 0), .nils]]) (by simp [Go.Sy.nz, nzs, AV.void])
  refine fn0 mix [] 0 2 [.tmp 4] Try.func7 rfl (by kernel_rfl) (by kernel_rfl) rfl (by kernel_rfl) (by kernel_rfl) (by simp) ?_
  simp (implicitDefEqProofs := false) (disch := omega) only [go_sem, ↓reduceIte]
  refine brd (fun h => ?_) (fun h => ?_)
  · simp (implicitDefEqProofs := false) (disch := omega) only [go_sem, ↓reduceIte]
    refine call0 knows20_spec ?_
    simp (implicitDefEqProofs := false) (disch := omega) only [go_sem, ↓reduceIte]
  simp (implicitDefEqProofs := false) (disch := omega) only [go_sem, ↓reduceIte]
  by_cases hR : rightP a b
  · obtain ⟨r1, r2, r3, r4⟩ := id hR
    obtain ⟨A, rfl⟩ : ∃ A : Nat, a = A := ⟨a.toNat, by omega⟩
    obtain ⟨B, rfl⟩ : ∃ B : Nat, b = B := ⟨b.toNat, by omega⟩
    by_cases hok : bs.length = 40 + 32 * (A * (67 + B)) ∧ ofb (bs.take 8) < manyD A B
    · obtain ⟨hn, hi⟩ := hok
      obtain ⟨f1, f2, f3⟩ := read_put hR hn hb hi
      have p := put_spec A B (ofb (bs.take 8)) ((bs.drop 8).take 32) (partsD A B (bs.drop 40)) (by simp only [List.length_take, List.length_drop]; omega) f1
      have sm := same11_spec (ofb (bs.take 8)) (ofb (bs.take 8)) ((bs.drop 8).take 32) ((bs.drop 8).take 32) (partsD A B (bs.drop 40)) (partsD A B (bs.drop 40)) (by rw [partsD_len]; omega) (fun q hq => by
        have := formed_bounds f1
        have := this.2.1 q hq
        omega)
      rw [f2, f3] at p
      rw [partsD_len] at p sm
      refine call0 (get_ok_spec A B _ bs hR rfl hn hb hi) ?_
      simp (implicitDefEqProofs := false) (disch := omega) only [go_sem, ↓reduceIte]
      refine call0 (refright_spec A B) ?_
      rw [decide_eq_true hR]
      simp (implicitDefEqProofs := false) (disch := omega) only [go_sem, ↓reduceIte]
      refine call0 (refget_ok_spec A B _ bs hR rfl hn hb hi) ?_
      simp (implicitDefEqProofs := false) (disch := omega) only [go_sem, ↓reduceIte]
      refine callF 1 p ?_
      simp (implicitDefEqProofs := false) (disch := omega) only [go_sem, ↓reduceIte]
      refine call0 sm ?_
      simp (implicitDefEqProofs := false) (disch := omega) only [go_sem, ↓reduceIte]
      refine call0 knows20_spec ?_
      simp (implicitDefEqProofs := false) (disch := omega) only [go_sem, ↓reduceIte]
    · have g := get_form_spec A B _ bs hR rfl (by omega) hb hok
      have g2 := refget_bad_spec A B _ bs hR rfl (by omega) hb hok
      unfold sig0 at g g2
      refine call0 g ?_
      simp (implicitDefEqProofs := false) (disch := omega) only [go_sem, ↓reduceIte]
      refine call0 (refright_spec A B) ?_
      rw [decide_eq_true hR]
      simp (implicitDefEqProofs := false) (disch := omega) only [go_sem, ↓reduceIte]
      refine call0 g2 ?_
      simp (implicitDefEqProofs := false) (disch := omega) only [go_sem, ↓reduceIte]
      refine call0 hz ?_
      simp (implicitDefEqProofs := false) (disch := omega) only [go_sem, ↓reduceIte]
      refine call0 knows20_spec ?_
      simp (implicitDefEqProofs := false) (disch := omega) only [go_sem, ↓reduceIte]
  · have g := get_none_spec a b bs.length bs hR
    unfold sig0 at g
    refine call0 g ?_
    simp (implicitDefEqProofs := false) (disch := omega) only [go_sem, ↓reduceIte]
    refine call0 (refright_spec a b) ?_
    rw [decide_eq_false hR]
    simp (implicitDefEqProofs := false) (disch := omega) only [go_sem, ↓reduceIte]
    refine call0 hz ?_
    simp (implicitDefEqProofs := false) (disch := omega) only [go_sem, ↓reduceIte]
    refine call0 knows20_spec ?_
    simp (implicitDefEqProofs := false) (disch := omega) only [go_sem, ↓reduceIte]
theorem digest_of {bs : Nat} {x : AV} (h : TD.has (.sl bs (.arr 32 (.int .u8))) x) : ∃ ds : List (List Int), x = .sl (.lst 32 ds.length (ds.map dg)) ∧ (∀ d ∈ ds, goodD d) ∧ ds.length ≤ 9223372036854775807 := by
  simp only [TD.has, TD.ik, TD.cs] at h
  obtain ⟨es, rfl, _, hl, he⟩ := h
  obtain ⟨ds, rfl, hd⟩ := ex_map' (f := dg) (Q := goodD) (es := es) (fun x hx => by
    obtain ⟨xs, rfl, h1, h2⟩ := he x hx
    exact ⟨xs, rfl, h1, fun y hy => wf_u8 (h2 y hy)⟩)
  exact ⟨ds, by simp, hd, by rw [List.length_map] at hl; exact hl⟩
theorem part_of {b1 b2 : Nat} {x : AV} (h : TD.has (.st [.sl b1 (.arr 32 (.int .u8)), .sl b2 (.arr 32 (.int .u8))]) x) : ∃ p : Part, x = pt p ∧ goodP p := by
  simp only [TD.has.eq_5, TD.hass] at h
  obtain ⟨_, rfl, _, _, rfl, h1, _, _, rfl, h2, rfl⟩ := h
  obtain ⟨d1, rfl, g1, _⟩ := digest_of h1
  obtain ⟨d2, rfl, g2, _⟩ := digest_of h2
  exact ⟨(d1, d2), rfl, g1, g2⟩
end Go.Proofs.Ythomlkmbgmkjiaa
