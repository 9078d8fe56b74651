/- The signer's state: its bytes. -/
import Derived.Test.YtjaailbgeadnnaaGreatSlotsZ
import Derived.Test.YtjaailbgeadnnaaGreatSplit
import Derived.Test.YtjaailbgeadnnaaGreatFence
namespace Go.Proofs.YtjaailbgeadnnaaGreat
open Go Go.Sy Go.Proofs.Tryz
set_option maxRecDepth 100000
set_option maxHeartbeats 8000000
set_option linter.unusedSimpArgs false
set_option linter.unusedVariables false
attribute [go_sem] pl51
/-- A string's bytes. -/
def bkU (s : List UInt8) : List Int := s.map fun x => (x.toNat : Int)
theorem bkU_len (s : List UInt8) : (bkU s).length = s.length := List.length_map _
theorem toU_bk (s : List UInt8) : toU (bkU s) = s := by
  unfold toU bkU
  rw [List.map_map]
  conv => rhs; rw [← List.map_id s]
  apply List.map_congr_left
  intro x _
  simp
theorem bkU_mem (s : List UInt8) : ∀ x ∈ bkU s, 0 ≤ x ∧ x < 256 := by
  intro x hx
  obtain ⟨y, _, rfl⟩ := List.mem_map.1 hx
  have := y.toNat_lt
  omega
theorem bk_toU {l : List Int} (h : ∀ x ∈ l, 0 ≤ x ∧ x < 256) : bkU (toU l) = l := by
  unfold toU bkU
  rw [List.map_map]
  conv => rhs; rw [← List.map_id l]
  apply List.map_congr_left
  intro x hx
  have := h x hx
  simp only [Function.comp, id_eq, UInt8.toNat_ofNat']
  omega
def numB (n : Int) : List Int := be (IntKind.u64.wrap n) 8
theorem numB_len (n : Int) : (numB n).length = 8 := be_len _ _
def rowL (l : List Int) (m : List UInt8) : List (List Int) := l.map numB ++ [bkU m]
/-- The bytes of a state. -/
def rowS (l : List Int) (m : List UInt8) : List Int := rowb 6 (rowL l m)
theorem rowL_len {l : List Int} (hl : l.length = 5) (m : List UInt8) : (rowL l m).length = 6 := by
  unfold rowL; rw [List.length_append, List.length_map, hl]; rfl
theorem rowL_mem {l : List Int} {m : List UInt8} {b : List Int} (hb : b ∈ rowL l m) : b.length ≤ max 8 m.length ∧ ∀ x ∈ b, 0 ≤ x ∧ x < 256 := by
  unfold rowL at hb
  rcases List.mem_append.1 hb with hb | hb
  · obtain ⟨n, _, rfl⟩ := List.mem_map.1 hb
    rw [numB_len]
    exact ⟨by omega, be_mem _ _⟩
  · rw [List.mem_singleton] at hb; subst hb
    rw [bkU_len]
    exact ⟨by omega, bkU_mem m⟩
theorem rowS_len {l : List Int} (hl : l.length = 5) (m : List UInt8) : (rowS l m).length = 54 + m.length := by
  match l, hl with
  | [a, b, c, d, e], _ =>
    unfold rowS rowL rowb
    simp only [List.map_cons, List.map_nil, List.cons_append, List.nil_append, List.flatMap_cons, List.flatMap_nil, List.length_append, be_len, numB_len, bkU_len, List.length_nil]
    omega
theorem rowS_mem {l : List Int} {m : List UInt8} : ∀ x ∈ rowS l m, 0 ≤ x ∧ x < 256 := by
  intro x hx
  unfold rowS rowb at hx
  rcases List.mem_append.1 hx with hx | hx
  · exact be_mem _ _ x hx
  · obtain ⟨b, hb, hx⟩ := List.mem_flatMap.1 hx
    rcases List.mem_append.1 hx with hx | hx
    · exact be_mem _ _ x hx
    · exact (rowL_mem hb).2 x hx
theorem row_spec (m : List UInt8) (hm : m.length ≤ 1000) (l : List Int) (hl : l.length = 5) : FnC Tryz.prog 92 [.str m, .sl (.ints .i64 5 l)] [] (.osl 0 [] 1 0 (54 + m.length)) [(0, .row (.ints .u8 (54 + m.length) (rowS l m)))] := by
  have hr := rowS_len hl m
  have hp := prow_spec (rowL l m) (by rw [rowL_len hl]; decide) (fun b hb => by have := (rowL_mem hb).1; omega)
  rw [rowL_len hl] at hp
  have er : rowb 6 (rowL l m) = rowS l m := rfl
  rw [er, hr] at hp
  refine fnN mix [] 0 2 [.tmp 4] Tryz.func92 rfl (by kernel_rfl) (by kernel_rfl) rfl (by kernel_rfl) (by kernel_rfl) (by simp) ?_
  simp (implicitDefEqProofs := false) (disch := omega) only [go_sem, ↓reduceIte]
  refine loop (ι := Nat) 1 (fun i => i ≤ 5) (fun i => [(0, .str m), (10, .sl (.ints .i64 5 l)), (11, .int .i64 5), (12, .int .i64 i), (5, .osl 0 [] 1 0 i)]) (fun i => [(0, .row (.lst 1 i ((l.take i).map fun n => bsl (numB n))))]) (fun i => 5 - i) 0 [] [0] (Nat.zero_le _) rfl ?_ ?_ ?_ (fun i hi => ?_)
  · simp (implicitDefEqProofs := false) (disch := omega) only [go_sem, ↓reduceIte]
  · simp (implicitDefEqProofs := false) (disch := omega) only [go_sem, ↓reduceIte]
  · simp (implicitDefEqProofs := false) (disch := omega) only [go_sem, ↓reduceIte, List.take_zero, List.map_nil]
  simp (implicitDefEqProofs := false) (disch := omega) only [go_sem, ↓reduceIte]
  refine brd (fun h => ?_) (fun h => ?_)
  · have ht : (l.take (i + 1)) = l.take i ++ [l.getD i 0] := by
      rw [List.take_add_one]
      simp only [List.getD, List.getElem?_eq_getElem (show i < l.length by omega), Option.getD_some, Option.toList_some]
    simp (implicitDefEqProofs := false) (disch := omega) only [go_sem, ↓reduceIte]
    refine callF 1 (number_spec _ 8 8 rfl) ?_
    simp (implicitDefEqProofs := false) (disch := omega) only [go_sem, ↓reduceIte]
    refine ⟨i + 1, [(0, 3)], [], [], by dsimp only; omega, by dsimp only; omega, rfl, ?_, ?_, ?_⟩ <;> simp (implicitDefEqProofs := false) (disch := omega) only [go_sem, ↓reduceIte, ht, List.map_append, List.map_cons, List.map_nil, bsl, numB, be_len]
  obtain rfl : i = 5 := by omega
  have ht5 : l.take 5 = l := List.take_of_length_le (by omega)
  have el : l.map (fun n => bsl (numB n)) ++ [bsl (bkU m)] = (rowL l m).map bsl := by
    unfold rowL; rw [List.map_append, List.map_map]; rfl
  have em : bsl (bkU m) = .sl (.ints .u8 m.length (m.map fun x => (x.toNat : Int))) := by
    unfold bsl; rw [bkU_len]; rfl
  rw [em] at el
  rw [ht5]
  simp (implicitDefEqProofs := false) (disch := omega) only [go_sem, ↓reduceIte]
  refine callBF 1 hp ?_ ?_
  · simp (implicitDefEqProofs := false) (disch := omega) only [go_sem, ↓reduceIte, el]
  simp (implicitDefEqProofs := false) (disch := omega) only [go_sem, ↓reduceIte]
  refine ⟨[(0, 4)], [], [], rfl, ?_, ?_, ?_⟩ <;> simp (implicitDefEqProofs := false) (disch := omega) only [go_sem, ↓reduceIte]
theorem numB_of {n : Int} (h0 : 0 ≤ n) (h1 : n ≤ 4611686018427387904) : ofb (numB n) = n := by
  unfold numB
  rw [u64_mod, ofb_be, show (256 : Int) ^ 8 = 18446744073709551616 by decide]; omega
theorem getL {l : List Int} (hl : l.length = 5) (m : List UInt8) {i : Nat} (hi : i < 5) (K : AV → Prop) : getP ((rowL l m).map bsl) i K = K (.sl (.ints .u8 8 (numB (l.getD i 0)))) := by
  have e : (rowL l m)[i]? = some (numB (l.getD i 0)) := by
    unfold rowL
    rw [List.getElem?_append_left (by rw [List.length_map]; omega), List.getElem?_map]
    simp only [List.getD, List.getElem?_eq_getElem (show i < l.length by omega), Option.map_some, Option.getD_some]
  rw [getP_map (f := bsl) e K, bsl, numB_len]
theorem getL5 {l : List Int} (hl : l.length = 5) (m : List UInt8) (K : AV → Prop) : getP ((rowL l m).map bsl) 5 K = K (.sl (.ints .u8 m.length (bkU m))) := by
  have e : (rowL l m)[5]? = some (bkU m) := by
    unfold rowL
    rw [List.getElem?_append_right (by rw [List.length_map]; omega), List.length_map, hl]
    rfl
  rw [getP_map (f := bsl) e K, bsl, bkU_len]
theorem set_next {l : List Int} (hl : l.length = 5) {i : Nat} (hi : i < 5) : (l.take i ++ List.replicate (5 - i) 0).set i (l.getD i 0) = l.take (i + 1) ++ List.replicate (5 - (i + 1)) 0 := by
  match l, hl with
  | [a, b, c, d, e], _ =>
    match i, hi with
    | 0, _ => rfl
    | 1, _ => rfl
    | 2, _ => rfl
    | 3, _ => rfl
    | 4, _ => rfl
/-- A state's bytes are read as it. -/
theorem read_row (a0 a1 a2 a3 a4 : Int) (m : List UInt8) (hm : m.length ≤ 200) (hb : ∀ x ∈ [a0, a1, a2, a3, a4], 0 ≤ x ∧ x ≤ 4611686018427387904) :
    FnC Tryz.prog 51 [.sl (.ints .u8 (54 + m.length) (rowS [a0, a1, a2, a3, a4] m))] [] (.tup [.agg [.int .i64 a0, .int .i64 a1, .int .i64 a2, .agg [.int .i64 a3, .int .i64 a4, .str m]], .bool true]) [] := by
  have hl : [a0, a1, a2, a3, a4].length = 5 := rfl
  have hr := rowS_len hl m
  have hS : split (rowS [a0, a1, a2, a3, a4] m) = some (rowL [a0, a1, a2, a3, a4] m, []) := by
    have h := split_rowb (rowL [a0, a1, a2, a3, a4] m) (by rw [rowL_len hl]; decide) (fun b hb => by have := (rowL_mem hb).1; omega)
    rw [rowL_len hl] at h
    exact h
  have k := split_spec (rowS [a0, a1, a2, a3, a4] m) (.tup [.sl (.lst 1 6 ((rowL [a0, a1, a2, a3, a4] m).map bsl)), .int .i64 0]) (by rw [hS]; simp only [splitR, ↓reduceIte, rowL_len hl]) rowS_mem (by rw [hr]; omega)
  rw [hr] at k
  have g5 := fun K => getL5 hl m K
  have tb : toU (bkU m) = m := toU_bk m
  unfold toU at tb
  have hle : ((rowL [a0, a1, a2, a3, a4] m).map bsl).length = 6 := by rw [List.length_map, rowL_len hl]
  refine fn0 mix pl51 0 1 [.cell 2 126, .tmp 3] Tryz.func51 rfl (by kernel_rfl) (by kernel_rfl) rfl (by kernel_rfl) (by kernel_rfl) (by simp) ?_
  simp (implicitDefEqProofs := false) (disch := omega) only [go_sem, ↓reduceIte]
  have d200 : decide (200 < (m.length : Int)) = false := decide_eq_false (by omega)
  refine call0 k ?_
  simp (implicitDefEqProofs := false) (disch := omega) only [go_sem, ↓reduceIte, ↓g5, hle, d200]
  refine loop (ι := Nat) 2 (fun i => i ≤ 5) (fun i => [(2, .ref 0 []), (6, .ref 1 []), (4, .sl (.lst 1 6 ((rowL [a0, a1, a2, a3, a4] m).map bsl))), (30, .int .i64 i)])
    (fun i => [(0, .var (.agg [.int .i64 0, .int .i64 0, .int .i64 0, .agg [.int .i64 0, .int .i64 0, .str []]])), (1, .var (.ints .i64 5 ([a0, a1, a2, a3, a4].take i ++ List.replicate (5 - i) 0)))]) (fun i => 5 - i) 0 [(0, 0), (1, 1)] [] (Nat.zero_le _) rfl ?_ ?_ ?_ (fun i hi => ?_)
  · simp (implicitDefEqProofs := false) (disch := omega) only [go_sem, ↓reduceIte]
  · simp (implicitDefEqProofs := false) (disch := omega) only [go_sem, ↓reduceIte]
  · simp (implicitDefEqProofs := false) (disch := omega) only [go_sem, ↓reduceIte, List.take_zero, List.nil_append]
  simp (implicitDefEqProofs := false) (disch := omega) only [go_sem, ↓reduceIte]
  refine brd (fun h => ?_) (fun h => ?_)
  · have hi5 : i < 5 := by omega
    have gi := fun K => getL hl m hi5 K
    have hsn := set_next hl hi5
    have hbi := getD_all' hb (show i < [a0, a1, a2, a3, a4].length from hi5)
    generalize [a0, a1, a2, a3, a4] = l at *
    have kp := pof_spec (numB (l.getD i 0)) (by rw [numB_len]; decide) (be_mem _ _)
    rw [numB_len, numB_of hbi.1 hbi.2] at kp
    generalize l.getD i 0 = v at *
    have d1 : decide (4611686018427387904 < v) = false := decide_eq_false (by omega)
    simp (implicitDefEqProofs := false) (disch := omega) only [go_sem, ↓reduceIte, ↓gi, hle]
    refine call0 kp ?_
    simp (implicitDefEqProofs := false) (disch := omega) only [go_sem, ↓reduceIte, ↓gi, hle, d1]
    refine ⟨i + 1, [(0, 0), (1, 1)], [], [], by dsimp only; omega, by dsimp only; omega, rfl, ?_, ?_, ?_⟩ <;> simp (implicitDefEqProofs := false) (disch := omega) only [go_sem, ↓reduceIte, hsn]
  obtain rfl : i = 5 := by omega
  simp (implicitDefEqProofs := false) (disch := omega) only [go_sem, ↓reduceIte, ↓g5, hle, List.take_succ_cons, List.take_zero, tb, List.getD_cons_zero, List.getD_cons_succ, List.nil_append, List.cons_append]
end Go.Proofs.YtjaailbgeadnnaaGreat
