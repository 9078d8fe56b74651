/- Texts, joined. -/
import Derived.Test.YtololahjocfbeaaGreatC16
namespace Go.Proofs.YtololahjocfbeaaGreat
open Go Go.Sy Go.Proofs.Tryz
set_option maxRecDepth 100000
set_option maxHeartbeats 8000000
set_option linter.unusedSimpArgs false
set_option linter.unusedVariables false
attribute [go_sem] pl180
def bkU (s : List UInt8) : List Int := s.map fun x => (x.toNat : Int)
theorem bkU_len (s : List UInt8) : (bkU s).length = s.length := List.length_map _
theorem toU_bk (s : List UInt8) : toU (bkU s) = s := by
  unfold toU bkU
  rw [List.map_map]
  conv => rhs; rw [← List.map_id s]
  apply List.map_congr_left
  intro x _
  simp
theorem bkU_mem (s : List UInt8) : ∀ x ∈ bkU s, 0 ≤ x ∧ x < 256 := by
  intro x hx
  obtain ⟨y, _, rfl⟩ := List.mem_map.1 hx
  have := y.toNat_lt
  omega
theorem bk_toU {l : List Int} (h : ∀ x ∈ l, 0 ≤ x ∧ x < 256) : bkU (toU l) = l := by
  unfold toU bkU
  rw [List.map_map]
  conv => rhs; rw [← List.map_id l]
  apply List.map_congr_left
  intro x hx
  have := h x hx
  simp only [Function.comp, id_eq, UInt8.toNat_ofNat']
  omega
def numB (n : Int) : List Int := be (IntKind.u64.wrap n) 8
theorem numB_len (n : Int) : (numB n).length = 8 := be_len _ _
def rowL (l : List Int) (m : List UInt8) : List (List Int) := l.map numB ++ [bkU m]
def rowS (l : List Int) (m : List UInt8) : List Int := rowb 6 (rowL l m)
theorem rowL_len {l : List Int} (hl : l.length = 5) (m : List UInt8) : (rowL l m).length = 6 := by
  unfold rowL; rw [List.length_append, List.length_map, hl]; rfl
theorem rowL_mem {l : List Int} {m : List UInt8} {b : List Int} (hb : b ∈ rowL l m) : b.length ≤ max 8 m.length ∧ ∀ x ∈ b, 0 ≤ x ∧ x < 256 := by
  unfold rowL at hb
  rcases List.mem_append.1 hb with hb | hb
  · obtain ⟨n, _, rfl⟩ := List.mem_map.1 hb
    rw [numB_len]
    exact ⟨by omega, be_mem _ _⟩
  · rw [List.mem_singleton] at hb; subst hb
    rw [bkU_len]
    exact ⟨by omega, bkU_mem m⟩
theorem rowS_len {l : List Int} (hl : l.length = 5) (m : List UInt8) : (rowS l m).length = 54 + m.length := by
  match l, hl with
  | [a, b, c, d, e], _ =>
    unfold rowS rowL rowb
    simp only [List.map_cons, List.map_nil, List.cons_append, List.nil_append, List.flatMap_cons, List.flatMap_nil, List.length_append, be_len, numB_len, bkU_len, List.length_nil]
    omega
theorem rowS_mem {l : List Int} {m : List UInt8} : ∀ x ∈ rowS l m, 0 ≤ x ∧ x < 256 := by
  intro x hx
  unfold rowS rowb at hx
  rcases List.mem_append.1 hx with hx | hx
  · exact be_mem _ _ x hx
  · obtain ⟨b, hb, hx⟩ := List.mem_flatMap.1 hx
    rcases List.mem_append.1 hx with hx | hx
    · exact be_mem _ _ x hx
    · exact (rowL_mem hb).2 x hx
theorem row_spec (m : List UInt8) (hm : m.length ≤ 1000) (l : List Int) (hl : l.length = 5) : FnC Tryz.prog 198 [.str m, .sl (.ints .i64 5 l)] [] (.osl 0 [] 1 0 (54 + m.length)) [(0, .row (.ints .u8 (54 + m.length) (rowS l m)))] := by
  have hr := rowS_len hl m
  have hp := prow_spec (rowL l m) (by rw [rowL_len hl]; decide) (fun b hb => by have := (rowL_mem hb).1; omega)
  rw [rowL_len hl] at hp
  have er : rowb 6 (rowL l m) = rowS l m := rfl
  rw [er, hr] at hp
  refine fnN mix [] 0 2 [.tmp 4] Tryz.func198 rfl (by kernel_rfl) (by kernel_rfl) rfl (by kernel_rfl) (by kernel_rfl) (by simp) ?_
  simp -implicitDefEqProofs (disch := omega) only [go_sem, ↓reduceIte]
  refine loop (ι := Nat) 1 (fun i => i ≤ 5) (fun i => [(0, .str m), (10, .sl (.ints .i64 5 l)), (11, .int .i64 5), (12, .int .i64 i), (5, .osl 0 [] 1 0 i)]) (fun i => [(0, .row (.lst 1 i ((l.take i).map fun n => bsl (numB n))))]) (fun i => 5 - i) 0 [] [0] (Nat.zero_le _) rfl ?_ ?_ ?_ (fun i hi => ?_)
  · simp -implicitDefEqProofs (disch := omega) only [go_sem, ↓reduceIte]
  · simp -implicitDefEqProofs (disch := omega) only [go_sem, ↓reduceIte]
  · simp -implicitDefEqProofs (disch := omega) only [go_sem, ↓reduceIte, List.take_zero, List.map_nil]
  simp -implicitDefEqProofs (disch := omega) only [go_sem, ↓reduceIte]
  refine brd (fun h => ?_) (fun h => ?_)
  · have ht : (l.take (i + 1)) = l.take i ++ [l.getD i 0] := by
      rw [List.take_add_one]
      simp only [List.getD, List.getElem?_eq_getElem (show i < l.length by omega), Option.getD_some, Option.toList_some]
    simp -implicitDefEqProofs (disch := omega) only [go_sem, ↓reduceIte]
    refine callF 1 (number_spec _ 8 8 rfl) ?_
    simp -implicitDefEqProofs (disch := omega) only [go_sem, ↓reduceIte]
    refine ⟨i + 1, [(0, 3)], [], [], by dsimp only; omega, by dsimp only; omega, rfl, ?_, ?_, ?_⟩ <;> simp -implicitDefEqProofs (disch := omega) only [go_sem, ↓reduceIte, ht, List.map_append, List.map_cons, List.map_nil, bsl, numB, be_len]
  obtain rfl : i = 5 := by omega
  have ht5 : l.take 5 = l := List.take_of_length_le (by omega)
  have el : l.map (fun n => bsl (numB n)) ++ [bsl (bkU m)] = (rowL l m).map bsl := by
    unfold rowL; rw [List.map_append, List.map_map]; rfl
  have em : bsl (bkU m) = .sl (.ints .u8 m.length (m.map fun x => (x.toNat : Int))) := by
    unfold bsl; rw [bkU_len]; rfl
  rw [em] at el
  rw [ht5]
  simp -implicitDefEqProofs (disch := omega) only [go_sem, ↓reduceIte]
  refine callBF 1 hp ?_ ?_
  · simp -implicitDefEqProofs (disch := omega) only [go_sem, ↓reduceIte, el]
  simp -implicitDefEqProofs (disch := omega) only [go_sem, ↓reduceIte]
  refine ⟨[(0, 4)], [], [], rfl, ?_, ?_, ?_⟩ <;> simp -implicitDefEqProofs (disch := omega) only [go_sem, ↓reduceIte]
theorem numB_of {n : Int} (h0 : 0 ≤ n) (h1 : n ≤ 4611686018427387904) : ofb (numB n) = n := by
  unfold numB
  rw [u64_mod, ofb_be, show (256 : Int) ^ 8 = 18446744073709551616 by decide]; omega
theorem getL {l : List Int} (hl : l.length = 5) (m : List UInt8) {i : Nat} (hi : i < 5) (K : AV → Prop) : getP ((rowL l m).map bsl) i K = K (.sl (.ints .u8 8 (numB (l.getD i 0)))) := by
  have e : (rowL l m)[i]? = some (numB (l.getD i 0)) := by
    unfold rowL
    rw [List.getElem?_append_left (by rw [List.length_map]; omega), List.getElem?_map]
    simp only [List.getD, List.getElem?_eq_getElem (show i < l.length by omega), Option.map_some, Option.getD_some]
  rw [getP_map (f := bsl) e K, bsl, numB_len]
theorem getL5 {l : List Int} (hl : l.length = 5) (m : List UInt8) (K : AV → Prop) : getP ((rowL l m).map bsl) 5 K = K (.sl (.ints .u8 m.length (bkU m))) := by
  have e : (rowL l m)[5]? = some (bkU m) := by
    unfold rowL
    rw [List.getElem?_append_right (by rw [List.length_map]; omega), List.length_map, hl]
    rfl
  rw [getP_map (f := bsl) e K, bsl, bkU_len]
theorem set_next {l : List Int} (hl : l.length = 5) {i : Nat} (hi : i < 5) : (l.take i ++ List.replicate (5 - i) 0).set i (l.getD i 0) = l.take (i + 1) ++ List.replicate (5 - (i + 1)) 0 := by
  match l, hl with
  | [a, b, c, d, e], _ =>
    match i, hi with
    | 0, _ => rfl
    | 1, _ => rfl
    | 2, _ => rfl
    | 3, _ => rfl
    | 4, _ => rfl
theorem read_row (a0 a1 a2 a3 a4 : Int) (m : List UInt8) (hm : m.length ≤ 200) (hb : ∀ x ∈ [a0, a1, a2, a3, a4], 0 ≤ x ∧ x ≤ 4611686018427387904) :
    FnC Tryz.prog 180 [.sl (.ints .u8 (54 + m.length) (rowS [a0, a1, a2, a3, a4] m))] [] (.tup [.agg [.int .i64 a0, .int .i64 a1, .int .i64 a2, .agg [.int .i64 a3, .int .i64 a4, .str m]], .bool true]) [] := by
  have hl : [a0, a1, a2, a3, a4].length = 5 := rfl
  have hr := rowS_len hl m
  have hS : split (rowS [a0, a1, a2, a3, a4] m) = some (rowL [a0, a1, a2, a3, a4] m, []) := by
    have h := split_rowb (rowL [a0, a1, a2, a3, a4] m) (by rw [rowL_len hl]; decide) (fun b hb => by have := (rowL_mem hb).1; omega)
    rw [rowL_len hl] at h
    exact h
  have k := split_spec (rowS [a0, a1, a2, a3, a4] m) (.tup [.sl (.lst 1 6 ((rowL [a0, a1, a2, a3, a4] m).map bsl)), .int .i64 0]) (by rw [hS]; simp only [splitR, ↓reduceIte, rowL_len hl]) rowS_mem (by rw [hr]; omega)
  rw [hr] at k
  have g5 := fun K => getL5 hl m K
  have tb : toU (bkU m) = m := toU_bk m
  unfold toU at tb
  have hle : ((rowL [a0, a1, a2, a3, a4] m).map bsl).length = 6 := by rw [List.length_map, rowL_len hl]
  refine fn0 mix pl180 0 1 [.cell 2 214, .tmp 3] Tryz.func180 rfl (by kernel_rfl) (by kernel_rfl) rfl (by kernel_rfl) (by kernel_rfl) (by simp) ?_
  simp -implicitDefEqProofs (disch := omega) only [go_sem, ↓reduceIte]
  have d200 : decide (200 < (m.length : Int)) = false := decide_eq_false (by omega)
  refine call0 k ?_
  simp -implicitDefEqProofs (disch := omega) only [go_sem, ↓reduceIte, ↓g5, hle, d200]
  refine loop (ι := Nat) 2 (fun i => i ≤ 5) (fun i => [(2, .ref 0 []), (6, .ref 1 []), (4, .sl (.lst 1 6 ((rowL [a0, a1, a2, a3, a4] m).map bsl))), (30, .int .i64 i)])
    (fun i => [(0, .var (.agg [.int .i64 0, .int .i64 0, .int .i64 0, .agg [.int .i64 0, .int .i64 0, .str []]])), (1, .var (.ints .i64 5 ([a0, a1, a2, a3, a4].take i ++ List.replicate (5 - i) 0)))]) (fun i => 5 - i) 0 [(0, 0), (1, 1)] [] (Nat.zero_le _) rfl ?_ ?_ ?_ (fun i hi => ?_)
  · simp -implicitDefEqProofs (disch := omega) only [go_sem, ↓reduceIte]
  · simp -implicitDefEqProofs (disch := omega) only [go_sem, ↓reduceIte]
  · simp -implicitDefEqProofs (disch := omega) only [go_sem, ↓reduceIte, List.take_zero, List.nil_append]
  simp -implicitDefEqProofs (disch := omega) only [go_sem, ↓reduceIte]
  refine brd (fun h => ?_) (fun h => ?_)
  · have hi5 : i < 5 := by omega
    have gi := fun K => getL hl m hi5 K
    have hsn := set_next hl hi5
    have hbi := getD_all' hb (show i < [a0, a1, a2, a3, a4].length from hi5)
    generalize [a0, a1, a2, a3, a4] = l at *
    have kp := pof_spec (numB (l.getD i 0)) (by rw [numB_len]; decide) (be_mem _ _)
    rw [numB_len, numB_of hbi.1 hbi.2] at kp
    generalize l.getD i 0 = v at *
    have d1 : decide (4611686018427387904 < v) = false := decide_eq_false (by omega)
    simp -implicitDefEqProofs (disch := omega) only [go_sem, ↓reduceIte, ↓gi, hle]
    refine call0 kp ?_
    simp -implicitDefEqProofs (disch := omega) only [go_sem, ↓reduceIte, ↓gi, hle, d1]
    refine ⟨i + 1, [(0, 0), (1, 1)], [], [], by dsimp only; omega, by dsimp only; omega, rfl, ?_, ?_, ?_⟩ <;> simp -implicitDefEqProofs (disch := omega) only [go_sem, ↓reduceIte, hsn]
  obtain rfl : i = 5 := by omega
  simp -implicitDefEqProofs (disch := omega) only [go_sem, ↓reduceIte, ↓g5, hle, List.take_succ_cons, List.take_zero, tb, List.getD_cons_zero, List.getD_cons_succ, List.nil_append, List.cons_append]
structure ST where
  gen : Int
  key : Int
  res : Int
  lk : Int
  li : Int
  msg : List UInt8
abbrev sgstV (x : ST) : AV := .agg [.int .i64 x.gen, .int .i64 x.key, .int .i64 x.res, .agg [.int .i64 x.lk, .int .i64 x.li, .str x.msg]]
abbrev sgV (a b : Nat) (x : ST) (total batch next : Int) (gone : Bool) : AV := .agg [sgstV x, .ref a [], .ref b [], .int .i64 total, .int .i64 batch, .int .i64 next, .bool gone]
abbrev fcV (F : Int × Int × Int) : AV := .agg [.agg [.int .i64 F.1, .int .i64 F.2.1, .int .i64 F.2.2]]
abbrev sgO (i j : Nat) (D : DS) (S : SS) (F : Int × Int × Int) (x : ST) (total batch next : Int) (gone : Bool) : OO :=
  [(0, .var (dskV i j D)), (1, .var (slV S)), (2, .var (fcV F)), (3, .var (sgV 1 2 x total batch next gone)), (i, .row (.ints .u8 D.b.length D.b)), (j, .row (.lst 2 D.wait.length (D.wait.map wtV)))]
attribute [go_sem] sgstV sgV fcV sgO
attribute [simp] sgO
def tx (x : ST) : List Int := rowS [x.gen, x.key, x.res, x.lk, x.li] x.msg
theorem tx_len (x : ST) : (tx x).length = 54 + x.msg.length := rowS_len rfl _
def plSO : List (Nat × Plan) := [(14, [(0, [], none), (1, [], some [72]), (2, [0, 1], none), (3, [0, 1], none), (4, [0, 1], none), (5, [0, 1], none), (6, [0, 1], none), (7, [0, 1, 2, 3, 4, 5, 6], none), (8, [0, 1, 2, 3, 4, 5, 6], none), (9, [0, 1, 2, 3, 4, 5, 6], none), (10, [0, 1, 2, 3, 4, 5, 6], none), (11, [0, 1, 2, 3, 4, 5, 6], none), (12, [0, 1, 2, 3, 4, 5, 6, 7, 8, 9, 10, 11], none), (13, [0, 1, 2, 3, 4, 5, 6, 7, 8, 9, 10, 11], none), (14, [0, 1, 2, 3, 4, 5, 6, 7, 8, 9, 10, 11], none), (15, [0, 1, 2, 3, 4, 5, 6, 7, 8, 9, 10, 11], none), (16, [0, 1, 2, 3, 4, 5, 6, 7, 8, 9, 10, 11], none), (17, [0, 1], none), (18, [], none), (19, [0, 1, 2, 3, 4, 5, 6, 7, 8, 9, 10, 11, 12, 13, 14, 15, 16, 17, 18], none), (20, [], some [17])]), (15, [(0, [], none), (4, [0], none), (5, [0], none), (6, [0], none), (13, [], none), (14, [], none), (15, [], none), (16, [], some [106]), (1, [0, 4, 5, 6, 13, 14, 15, 16], none), (7, [0, 4, 5, 6, 13, 14, 15, 16, 1], none), (8, [0, 4, 5, 6, 13, 14, 15, 16, 1], none), (17, [], none), (18, [], none), (19, [], none), (20, [], some [109]), (2, [0, 4, 5, 6, 13, 14, 15, 16, 1, 7, 8, 17, 18, 19, 20], none), (9, [0, 4, 5, 6, 13, 14, 15, 16, 1, 7, 8, 17, 18, 19, 20, 2], none), (10, [0, 4, 5, 6, 13, 14, 15, 16, 1, 7, 8, 17, 18, 19, 20, 2], none), (21, [], none), (22, [], none), (23, [], none), (24, [], some [112]), (3, [0, 4, 5, 6, 13, 14, 15, 16, 1, 7, 8, 17, 18, 19, 20, 2, 9, 10, 21, 22, 23, 24], none), (11, [0, 4, 5, 6, 13, 14, 15, 16, 1, 7, 8, 17, 18, 19, 20, 2, 9, 10, 21, 22, 23, 24, 3], none), (12, [0, 4, 5, 6, 13, 14, 15, 16, 1, 7, 8, 17, 18, 19, 20, 2, 9, 10, 21, 22, 23, 24, 3], none), (25, [], none), (26, [], none), (27, [], some [114])]), (16, [(0, [], none), (1, [0], none), (2, [0], none), (3, [0], none), (4, [0], none), (5, [0], none), (6, [0, 1, 2, 3, 4, 5], none), (7, [0, 1, 2, 3, 4, 5], none), (8, [0, 1, 2, 3, 4, 5], none), (9, [0, 1, 2, 3, 4, 5], none), (10, [], some [115, 120, 124])])]
attribute [go_sem] plSO
def plSD : List (Nat × Plan) := [(4, [(0, [], none), (1, [], none), (2, [0, 1], none), (3, [0, 1], none), (4, [0, 1], none), (5, [0, 1], none), (6, [0, 1], none), (7, [0, 1], none), (8, [], none), (9, [], none)]), (5, [(0, [], none), (1, [], none), (2, [], none), (3, [], none), (4, [], none), (5, [], none), (6, [0, 1, 2, 3, 4, 5], none), (7, [0, 1, 2, 3, 4, 5], none), (8, [0, 1, 2, 3, 4, 5], none), (9, [0, 1, 2, 3, 4, 5], none), (10, [0, 1, 2, 3, 4, 5], none), (11, [0, 1, 2, 3, 4, 5], none), (12, [6, 7, 8, 9, 10, 11], none), (13, [], none), (14, [], none)]), (6, [(0, [], none), (1, [], none), (2, [], none), (3, [], none), (4, [0, 1, 2, 3], none), (5, [0, 1, 2, 3], none), (6, [0, 1, 2, 3], none), (7, [0, 1, 2, 3], none), (8, [0, 1, 2, 3], none), (9, [], none), (10, [], none)]), (9, [(0, [], none), (1, [], none), (2, [], none), (3, [], none), (4, [0, 1, 2, 3], none), (5, [0, 1, 2, 3], none), (6, [0, 1, 2, 3], none), (7, [0, 1, 2, 3], none), (8, [0, 1, 2, 3], none), (9, [], none)]), (10, [(0, [], none), (1, [], none), (2, [], none), (3, [], none), (4, [0, 1, 2, 3], none), (5, [0, 1, 2, 3], none), (6, [0, 1, 2, 3], none), (7, [0, 1, 2, 3], none), (8, [], none), (9, [0, 1, 2, 3, 4, 5, 6, 7, 8], none), (10, [0, 1, 2, 3, 4, 5, 6, 7, 8], none), (11, [0, 1, 2, 3, 4, 5, 6, 7, 8], none), (12, [0, 1, 2, 3, 4, 5, 6, 7, 8], none), (13, [0, 1, 2, 3, 4, 5, 6, 7, 8], none), (14, [], none), (15, [], none), (16, [], some [78])]), (11, [(0, [], none), (1, [0], none), (2, [0], none), (3, [0], none), (4, [0], none), (5, [0], none), (6, [0, 1, 2, 3, 4, 5], none), (7, [0, 1, 2, 3, 4, 5], none), (8, [], some [79, 84, 86])]), (12, [(0, [], none), (1, [], none), (2, [], none), (3, [], none), (4, [], none), (5, [0, 1, 2, 3, 4], none), (6, [0, 1, 2, 3, 4], none), (7, [0, 1, 2, 3, 4], none), (8, [0, 1, 2, 3, 4], none), (9, [0, 1, 2, 3, 4, 5, 6, 7, 8], none), (10, [0, 1, 2, 3, 4, 5, 6, 7, 8], none), (11, [], none), (12, [], none), (13, [], some [100])]), (17, [(0, [], none), (1, [], none), (2, [], none), (3, [], none), (4, [], none), (5, [], none), (6, [0, 1, 2, 3, 4, 5], none), (7, [0, 1, 2, 3, 4, 5], none), (8, [0, 1, 2, 3, 4, 5], none), (9, [0, 1, 2, 3, 4, 5], none), (10, [0, 1, 2, 3, 4, 5], none), (11, [0, 1, 2, 3, 4, 5], none), (12, [6, 7, 8, 9, 10, 11], none), (13, [], none), (14, [], none)])]
attribute [go_sem] plSD
def plSs : List (Nat × Plan) := [(1, [(0, [], none), (1, [], none), (2, [], none), (3, [], none), (4, [0, 1, 2, 3], none), (5, [0, 1, 2, 3], none), (6, [0, 1, 2, 3], none), (7, [0, 1, 2, 3, 4, 5, 6], none), (8, [0, 1, 2, 3, 4, 5, 6], none), (9, [0, 1, 2, 3, 4, 5, 6, 7, 8], none), (10, [0, 1, 2, 3, 4, 5, 6, 7, 8], none), (11, [0, 1, 2, 3, 4, 5, 6, 7, 8, 9, 10], none), (12, [0, 1, 2, 3, 4, 5, 6, 7, 8, 9, 10], none), (13, [0, 1, 2, 3, 4, 5, 6, 7, 8, 9, 10, 11, 12], none), (14, [0, 1, 2, 3, 4, 5, 6, 7, 8, 9, 10, 11, 12], none), (15, [0, 1, 2, 3, 4, 5, 6, 7, 8, 9, 10, 11, 12], none), (16, [0, 1, 2, 3, 4, 5, 6, 7, 8, 9, 10, 11, 12, 13, 14, 15], none), (17, [0, 1, 2, 3, 4, 5, 6, 7, 8, 9, 10, 11, 12, 13, 14, 15], none), (18, [0, 1, 2, 3, 4, 5, 6, 7, 8, 9, 10, 11, 12, 13, 14, 15], none), (19, [0, 1, 2, 3, 4, 5, 6], none), (20, [0, 1, 2, 3], none), (21, [], some [9, 26]), (22, [], none)])]
attribute [go_sem] plSs
def plSr : List (Nat × Plan) := [(0, [(0, [], none), (1, [], none), (2, [], none), (3, [], none), (4, [0, 1, 2, 3], none), (5, [0, 1, 2, 3], none), (6, [0, 1, 2, 3], none), (7, [0, 1, 2, 3], none), (8, [0, 1, 2, 3], none), (9, [0, 1, 2, 3, 4, 5, 6, 7, 8], none), (10, [0, 1, 2, 3, 4, 5, 6, 7, 8, 9], none), (11, [0, 1, 2, 3], none), (12, [], some [9, 17])])]
attribute [go_sem] plSr
theorem raise3_spec (F : Int × Int × Int) (b0 b1 b2 : Int) : FnC Tryz.prog 197 [.ref 0 [], .agg [.int .i64 b0, .int .i64 b1, .int .i64 b2]] [(0, .var (fcV F))] (.agg [.int .i64 (lst3 F (b0, b1, b2)).1, .int .i64 (lst3 F (b0, b1, b2)).2.1, .int .i64 (lst3 F (b0, b1, b2)).2.2]) [(0, .var (fcV (lst3 F (b0, b1, b2))))] := by
  obtain ⟨a0, a1, a2⟩ := F
  exact raise_spec a0 a1 a2 b0 b1 b2
theorem marks3_spec (F : Int × Int × Int) : FnC Tryz.prog 182 [.ref 0 []] [(0, .var (fcV F))] (.agg [.int .i64 F.1, .int .i64 F.2.1, .int .i64 F.2.2]) [(0, .var (fcV F))] := by
  obtain ⟨a0, a1, a2⟩ := F
  exact marks_spec a0 a1 a2
theorem least3_spec (F G : Int × Int × Int) : FnC Tryz.prog 181 [.agg [.int .i64 F.1, .int .i64 F.2.1, .int .i64 F.2.2], .agg [.int .i64 G.1, .int .i64 G.2.1, .int .i64 G.2.2]] [] (.agg [.int .i64 (lst3 F G).1, .int .i64 (lst3 F G).2.1, .int .i64 (lst3 F G).2.2]) [] := by
  obtain ⟨a0, a1, a2⟩ := F
  obtain ⟨b0, b1, b2⟩ := G
  exact least_spec a0 a1 a2 b0 b1 b2
theorem sraise_spec (D : DS) (S : SS) (F : Int × Int × Int) (x : ST) (total batch next : Int) (gone : Bool) (key high : Int) :
    FnC Tryz.prog 134 [.ref 3 [], .int .i64 key, .int .i64 high] (sgO 4 5 D S F x total batch next gone) (.tup []) (sgO 6 7 D S (lst3 F (x.gen, key, high)) x total batch next gone) := by
  refine fnV mix plSr 4 6 3 [] Tryz.func134 rfl (by kernel_rfl) (by kernel_rfl) rfl (by kernel_rfl) (by kernel_rfl) (by simp) rfl rfl ?_
  simp -implicitDefEqProofs (disch := omega) only [go_sem, ↓reduceIte]
  refine callG false [(0, 2)] [(0, 2)] 6 (raise3_spec F x.gen key high) ?_ ?_
  · simp [keys]
  simp -implicitDefEqProofs (disch := omega) only [go_sem, ↓reduceIte]
  refine ⟨[(0, 0), (1, 1), (2, 2), (3, 3), (6, 4), (7, 5)], [], [], rfl, ?_, ?_, ?_⟩ <;> simp -implicitDefEqProofs (disch := omega) only [go_sem, ↓reduceIte]
theorem store_spec (D : DS) (h : okD D) (hw : D.wait.length ≤ 90000) (S : SS) (hg : S.gone = false) (hT : S.turn ≤ 4611686018427387000) (F : Int × Int × Int) (x y : ST) (hm : y.msg.length ≤ 200) (hs : 272 ≤ D.sz) (total batch next : Int) :
    FnC Tryz.prog 135 [.ref 3 [], sgstV y] (sgO 4 5 D S F x total batch next false) (.int .i64 (if (replD D S (tx y)).1 = 0 then 0 else 9))
      (sgO 6 7 (replD D S (tx y)).2.1 (replD D S (tx y)).2.2 F (if (replD D S (tx y)).1 = 0 then y else x) total batch next (decide ((replD D S (tx y)).1 ≠ 0))) := by
  have k1 := row_spec y.msg (by omega) [y.gen, y.key, y.res, y.lk, y.li] rfl
  have k2 := replace_own D h hw S hg hT (tx y) (54 + y.msg.length) (tx_len y) (by omega)
  have et : rowS [y.gen, y.key, y.res, y.lk, y.li] y.msg = tx y := rfl
  rw [et] at k1
  generalize tx y = Y at *
  generalize replD D S Y = R at *
  obtain ⟨r, D', S'⟩ := R
  dsimp only at k2 ⊢
  by_cases c : r = 0
  · subst c
    rw [if_pos rfl, if_pos rfl, decide_eq_false (fun h => h rfl)]
    refine fnV mix plSs 4 6 2 [.tmp 4] Tryz.func135 rfl (by kernel_rfl) (by kernel_rfl) rfl (by kernel_rfl) (by kernel_rfl) (by simp) rfl rfl ?_
    simp -implicitDefEqProofs (disch := omega) only [go_sem, ↓reduceIte]
    refine callBF 1 k1 ?_ ?_
    · simp -implicitDefEqProofs (disch := omega) only [go_sem, ↓reduceIte]
    simp -implicitDefEqProofs (disch := omega) only [go_sem, ↓reduceIte]
    refine callG false [(6, 8), (0, 0), (1, 1), (2, 4), (3, 5)] [(0, 0), (1, 1), (4, 9), (5, 10)] 11 k2 ?_ ?_
    · simp [keys]
    simp -implicitDefEqProofs (disch := omega) only [go_sem, ↓reduceIte]
    refine ⟨[(0, 0), (1, 1), (2, 2), (3, 3), (6, 9), (7, 10)], [], [], rfl, ?_, ?_, ?_⟩ <;> simp -implicitDefEqProofs (disch := omega) only [go_sem, ↓reduceIte]
  · rw [if_neg c, if_neg c, decide_eq_true c]
    have d1 : decide (r = 0) = false := decide_eq_false c
    refine fnV mix plSs 4 6 2 [.tmp 4] Tryz.func135 rfl (by kernel_rfl) (by kernel_rfl) rfl (by kernel_rfl) (by kernel_rfl) (by simp) rfl rfl ?_
    simp -implicitDefEqProofs (disch := omega) only [go_sem, ↓reduceIte]
    refine callBF 1 k1 ?_ ?_
    · simp -implicitDefEqProofs (disch := omega) only [go_sem, ↓reduceIte]
    simp -implicitDefEqProofs (disch := omega) only [go_sem, ↓reduceIte]
    refine callG false [(6, 8), (0, 0), (1, 1), (2, 4), (3, 5)] [(0, 0), (1, 1), (4, 9), (5, 10)] 11 k2 ?_ ?_
    · simp [keys]
    simp -implicitDefEqProofs (disch := omega) only [go_sem, ↓reduceIte, d1]
    refine ⟨[(0, 0), (1, 1), (2, 2), (3, 3), (6, 9), (7, 10)], [], [], rfl, ?_, ?_, ?_⟩ <;> simp -implicitDefEqProofs (disch := omega) only [go_sem, ↓reduceIte]
theorem may_spec (D : DS) (S : SS) (F : Int × Int × Int) (x : ST) (total batch next : Int) (m : List Int) (n : Nat) (hn : m.length = n) (hnl : n ≤ 9223372036854775807) :
    FnC Tryz.prog 133 [.ref 3 [], .sl (.ints .u8 n m)] (sgO 4 5 D S F x total batch next false) (.int .i64 (if n = 0 ∨ 200 < n then 1 else 0)) (sgO 6 7 D S F x total batch next false) := by
  by_cases c0 : n = 0
  · subst c0
    rw [if_pos (.inl rfl)]
    refine fnV mix [] 4 6 2 [.tmp 4] Tryz.func133 rfl (by kernel_rfl) (by kernel_rfl) rfl (by kernel_rfl) (by kernel_rfl) (by simp) rfl rfl ?_
    simp -implicitDefEqProofs (disch := omega) only [go_sem, ↓reduceIte]
    refine ⟨[(0, 0), (1, 1), (2, 2), (3, 3), (6, 4), (7, 5)], [], [], rfl, ?_, ?_, ?_⟩ <;> simp -implicitDefEqProofs (disch := omega) only [go_sem, ↓reduceIte]
  have d0 : decide ((n : Int) = 0) = false := decide_eq_false (by omega)
  by_cases c1 : 200 < n
  · rw [if_pos (.inr c1)]
    have d1 : decide (200 < (n : Int)) = true := decide_eq_true (by omega)
    refine fnV mix [] 4 6 2 [.tmp 4] Tryz.func133 rfl (by kernel_rfl) (by kernel_rfl) rfl (by kernel_rfl) (by kernel_rfl) (by simp) rfl rfl ?_
    simp -implicitDefEqProofs (disch := omega) only [go_sem, ↓reduceIte, d0, d1]
    refine ⟨[(0, 0), (1, 1), (2, 2), (3, 3), (6, 4), (7, 5)], [], [], rfl, ?_, ?_, ?_⟩ <;> simp -implicitDefEqProofs (disch := omega) only [go_sem, ↓reduceIte]
  · rw [if_neg (by omega)]
    have d1 : decide (200 < (n : Int)) = false := decide_eq_false (by omega)
    refine fnV mix [] 4 6 2 [.tmp 4] Tryz.func133 rfl (by kernel_rfl) (by kernel_rfl) rfl (by kernel_rfl) (by kernel_rfl) (by simp) rfl rfl ?_
    simp -implicitDefEqProofs (disch := omega) only [go_sem, ↓reduceIte, d0, d1]
    refine ⟨[(0, 0), (1, 1), (2, 2), (3, 3), (6, 4), (7, 5)], [], [], rfl, ?_, ?_, ?_⟩ <;> simp -implicitDefEqProofs (disch := omega) only [go_sem, ↓reduceIte]
end Go.Proofs.YtololahjocfbeaaGreat
