/- The trail of a side, as the document tells it. -/
import Derived.Test.YtegbkbkcfcjkbaaExtr7
namespace Go.Proofs.Ytegbkbkcfcjkbaa
open Go Go.Sy Go.Proofs.Try
set_option maxRecDepth 100000
set_option maxHeartbeats 8000000
set_option linter.unusedSimpArgs false
set_option linter.unusedVariables false
attribute [go_sem] pl45 pl89
theorem refpair23_spec (a b : List Int) (ha : goodD a) (hb : goodD b) : FnC Try.prog 89 [.ints .u8 32 a, .ints .u8 32 b] [] (.osl 0 [] 1 0 65) [(0, .row (.ints .u8 65 (pairL a b)))] := by
  have l1 := ha.1
  have l2 := hb.1
  refine fnN mix pl89 0 2 [.tmp 4] Try.func89 rfl (by kernel_rfl) (by kernel_rfl) rfl (by kernel_rfl) (by kernel_rfl) (by simp) ?_
  simp (implicitDefEqProofs := false) (disch := omega) only [go_sem, ↓reduceIte]
  refine ⟨[(0, 4)], [], [], rfl, ?_, ?_, ?_⟩ <;> simp (implicitDefEqProofs := false) (disch := omega) only [go_sem, ↓reduceIte, pairL, List.cons_append, List.singleton_append]
theorem bitD_01 (d : List Int) (k : Int) : bitD d k = 0 ∨ bitD d k = 1 := by
  unfold bitD
  split
  · omega
  · exact .inl rfl
theorem rowR_succ (T : Nat → List Int) (i : Nat) : (rowN T (i + 1)).reverse = T i :: (rowN T i).reverse := by rw [rowN_succ, List.reverse_append]; rfl
section
variable (index known : List Int) (hi : goodD index) (hk : goodD known) (W : List (List Int)) (L : Nat) (hW : W.length = L) (hL : L ≤ 1000000) (hg : ∀ d ∈ W, goodD d) (p : Bool) (c : List Int) (hc : goodD c)
include hk hW hL in
theorem refwhole23_spec : FnC Try.prog 43 [.ints .u8 32 known, .sl (.lst 32 L (W.map dg))] [] (.bool (decide (pops known = L))) [] := by
  refine fn0 mix [] 0 2 [.tmp 4] Try.func43 rfl (by kernel_rfl) (by kernel_rfl) rfl (by kernel_rfl) (by kernel_rfl) (by simp) ?_
  simp (implicitDefEqProofs := false) (disch := omega) only [go_sem, ↓reduceIte]
  refine call0 (refwhole_spec known hk W L hW (by omega)) ?_
  simp (implicitDefEqProofs := false) (disch := omega) only [go_sem, ↓reduceIte]
include hi hk hW hL hg hc in
theorem reftree_ok (hp : pops known = L) : FnC Try.prog 45 [.ints .u8 32 index, .bool p, .ints .u8 32 c, .ints .u8 32 known, .sl (.lst 32 L (W.map dg))] [] (.osl 0 [] 1 0 257) [(0, .row (.lst 1 257 (((rowN (trT index known W (leafTx p index c)) 257).reverse).map bsl)))] := by
  have l1 := hi.1
  have l2 := hc.1
  cases p with
  | false =>
    refine fnN mix ((100004, []) :: (100023, []) :: pl45) 0 5 [.tmp 10] Try.func45 rfl (by kernel_rfl) (by kernel_rfl) rfl (by kernel_rfl) (by kernel_rfl) (by simp) ?_
    simp (implicitDefEqProofs := false) (disch := omega) only [go_sem, ↓reduceIte]
    have hc256 : cntK known 256 = W.length := by
      have := cntK_all hk.1
      rw [hp] at this
      omega
    have hTl : ∀ k, k ≤ 256 → (trT index known W (leafTx false index c) k).length ≤ 100 ∧ ∀ x ∈ trT index known W (leafTx false index c) k, 0 ≤ x ∧ x < 256 := trT_mem index known W (leafTx false index c) hg hc256 (leafTx_mem index hi false c hc)
    generalize hT : trT index known W (leafTx false index c) = T at *
    have hT0 : T 0 = [2] := by rw [← hT]; rfl
    refine cut 2 [(4, .sl (.lst 32 L (W.map dg))), (5, .ref 0 []), (8, .ref 1 []), (11, .sl (.ints .u8 1 ([2])))]
      [(0, .var (.ints .u8 32 index)), (1, .var (.ints .u8 32 known))] [(0, 0), (1, 2)] [] [3] rfl ?_ ?_ ?_ ?_
    · simp (implicitDefEqProofs := false) (disch := omega) only [go_sem, ↓reduceIte]
    · simp (implicitDefEqProofs := false) (disch := omega) only [go_sem, ↓reduceIte, List.cons_append, List.singleton_append]
    · simp (implicitDefEqProofs := false) (disch := omega) only [go_sem, ↓reduceIte]
    simp (implicitDefEqProofs := false) (disch := omega) only [go_sem, ↓reduceIte]
    refine callF 1 refempty_spec17 ?_
    simp (implicitDefEqProofs := false) (disch := omega) only [go_sem, ↓reduceIte]
    refine loop (ι := Nat) 4 (fun i => i ≤ 256) (fun i => [(4, .sl (.lst 32 L (W.map dg))), (5, .ref 0 []), (8, .ref 1 []), (12, .osl 2 [] 32 0 257), (13, .osl 3 [] 1 0 (i + 1)), (14, .int .i64 (cntK known i : Nat)), (15, .int .i64 i)])
      (fun i => [(0, .var (.ints .u8 32 index)), (1, .var (.ints .u8 32 known)), (2, .row (.lst 32 257 ((empties 257).map dg))), (3, .row (.lst 1 (i + 1) ((rowN T (i + 1)).reverse.map bsl)))]) (fun i => 256 - i) 0 [(0, 0), (1, 1), (2, 2), (3, 3)] [] (Nat.zero_le _) rfl ?_ ?_ ?_ (fun i hi' => ?_)
    · simp (implicitDefEqProofs := false) (disch := omega) only [go_sem, ↓reduceIte]
    · simp (implicitDefEqProofs := false) (disch := omega) only [go_sem, ↓reduceIte, cntK]
    · simp (implicitDefEqProofs := false) (disch := omega) only [go_sem, ↓reduceIte]
      rw [rowR_succ, hT0]
      exact congrArg (fun n => [AV.sl (.ints .u8 n ([2]))]) (show List.length ([2]) = 1 by simp [l1, l2])
    simp (implicitDefEqProofs := false) (disch := omega) only [go_sem, ↓reduceIte]
    refine brd (fun h => ?_) (fun h => ?_)
    · have hx8 : 0 ≤ known.getD (i / 8) 0 ∧ known.getD (i / 8) 0 < 256 := getD_all' hk.2 (by rw [hk.1]; omega)
      obtain ⟨t1, t2, hw8, hs, hm, hi8, h08, h0r⟩ := kbW_spec known hk i (by omega)
      have e0 : kb known i = decide ((known.getD (i / 8) 0 / 2 ^ (i % 8)) % 2 = 1) := rfl
      have g1 : ∀ K, getP ((empties 257).map dg) i K = K (.ints .u8 32 (emptyD i)) := fun K => getP_map (f := dg) (empties_get (n := 257) (i := i) (by omega)) K
      have le1 : ((empties 257).map dg).length = 257 := by rw [List.length_map, empties_len]
      have hb17 := refbit_spec17 index i hi
      have hcs : cntK known (i + 1) = cntK known i + (if kb known i = true then 1 else 0) := rfl
      have hsd : sideD known W i = if kb known i = true then W.getD (cntK known i) zs else emptyD i := rfl
      have hmono := cntK_mono known (show i ≤ 256 by omega)
      have gs := sideD_good hg hc256 (k := i) (by omega)
      have hTi := hTl i (by omega)
      have gB : ∀ K, getP ((rowN T (i + 1)).reverse.map bsl) 0 K = K (.sl (.ints .u8 (T i).length (T i))) := fun K => getP_map (f := bsl) (a := T i) (by rw [rowR_succ]; rfl) K
      have lB : ((rowN T (i + 1)).reverse.map bsl).length = i + 1 := by rw [List.length_map, List.length_reverse, rowN, List.length_map, List.length_range]
      have hsm := refsum_spec (T i) hTi.2 (by omega)
      have e1 : T (i + 1) = if bitD index i = 0 then pairL (sumD (T i)) (sideD known W i) else pairL (sideD known W i) (sumD (T i)) := by rw [← hT]; rfl
      have gS := sumD_good (T i)
      have hb01 := bitD_01 index i
      generalize hv : known.getD (i / 8) 0 = x at *
      simp (implicitDefEqProofs := false) (disch := omega) only [go_sem, ↓reduceIte, ↓g1, le1, t1, hw8, hv]
      refine loop (ι := Nat) 5 (fun j => j ≤ i % 8) (fun j => [(4, .sl (.lst 32 L (W.map dg))), (5, .ref 0 []), (8, .ref 1 []), (12, .osl 2 [] 32 0 257), (13, .osl 3 [] 1 0 (i + 1)), (14, .int .i64 (cntK known i : Nat)), (15, .int .i64 i), (16, .ref 4 []), (17, .int .u8 (x / 2 ^ j)), (18, .int .i64 j)])
        (fun j => [(0, .var (.ints .u8 32 index)), (1, .var (.ints .u8 32 known)), (2, .row (.lst 32 257 ((empties 257).map dg))), (3, .row (.lst 1 (i + 1) ((rowN T (i + 1)).reverse.map bsl))), (4, .var (.ints .u8 32 (emptyD i)))]) (fun j => i % 8 - j) 0 [(0, 0), (1, 1), (2, 2), (3, 3), (4, 4)] [] (Nat.zero_le _) rfl ?_ ?_ ?_ (fun j hj => ?_)
      · simp (implicitDefEqProofs := false) (disch := omega) only [go_sem, ↓reduceIte]
      · simp (implicitDefEqProofs := false) (disch := omega) only [go_sem, ↓reduceIte]
        rw [show (2 : Int) ^ 0 = 1 by decide, Int.ediv_one]
      · simp (implicitDefEqProofs := false) (disch := omega) only [go_sem, ↓reduceIte]
      have hp2 : (1 : Int) ≤ 2 ^ j := by exact_mod_cast Nat.one_le_two_pow
      have hq : 0 ≤ x / 2 ^ j ∧ x / 2 ^ j < 256 := ⟨Int.ediv_nonneg hx8.1 (by omega), Int.lt_of_le_of_lt (Int.ediv_le_self _ hx8.1) hx8.2⟩
      have q2 : (x / 2 ^ j).tdiv 2 = x / 2 ^ (j + 1) := by rw [Int.tdiv_eq_ediv_of_nonneg hq.1, Int.pow_succ, Int.ediv_ediv_of_nonneg (by omega)]
      have q3 : x / 2 ^ (j + 1) = (x / 2 ^ j) / 2 := by rw [Int.pow_succ, Int.ediv_ediv_of_nonneg (by omega)]
      have w1 : IntKind.u8.wrap (x / 2 ^ (j + 1)) = x / 2 ^ (j + 1) := wrap_u8 (by omega) (by omega)
      simp (implicitDefEqProofs := false) (disch := omega) only [go_sem, ↓reduceIte, t2]
      refine brd (fun h3 => ?_) (fun h3 => ?_)
      · simp (implicitDefEqProofs := false) (disch := omega) only [go_sem, ↓reduceIte, q2, w1]
        refine ⟨j + 1, [(0, 0), (1, 1), (2, 2), (3, 3), (4, 4)], [], [], by dsimp only; omega, by dsimp only; omega, rfl, ?_, ?_, ?_⟩ <;> simp (implicitDefEqProofs := false) (disch := omega) only [go_sem, ↓reduceIte]
      obtain rfl : j = i % 8 := by omega
      have r2 : (x / 2 ^ (i % 8)).tmod 2 = (x / 2 ^ (i % 8)) % 2 := Int.tmod_eq_emod_of_nonneg hq.1
      simp (implicitDefEqProofs := false) (disch := omega) only [go_sem, ↓reduceIte, r2, ← e0]
      refine br (fun hb => ?_) (fun hb => ?_)
      · rw [if_pos hb] at hcs hsd
        have hlt := cntK_lt (k := i) (by omega) hb
        have g2 : ∀ K, getP (W.map dg) (cntK known i) K = K (.ints .u8 32 (sideD known W i)) := fun K => getP_map (f := dg) (l := W) (i := cntK known i) (a := sideD known W i) (by rw [hsd, List.getD, List.getElem?_eq_getElem (by omega), Option.getD_some]) K
        have hl2 : (W.map dg).length = L := by rw [List.length_map, hW]
        simp (implicitDefEqProofs := false) (disch := omega) only [go_sem, ↓reduceIte, ↓g2, hl2, ↓gB, lB]
        refine call0 hsm ?_
        simp (implicitDefEqProofs := false) (disch := omega) only [go_sem, ↓reduceIte]
        refine callF 1 (refpair23_spec _ _ gS gs) ?_
        simp (implicitDefEqProofs := false) (disch := omega) only [go_sem, ↓reduceIte]
        refine call0 hb17 ?_
        simp (implicitDefEqProofs := false) (disch := omega) only [go_sem, ↓reduceIte]
        refine brd (fun h2 => ?_) (fun h2 => ?_)
        · rw [if_neg (by omega)] at e1
          simp (implicitDefEqProofs := false) (disch := omega) only [go_sem, ↓reduceIte]
          refine callF 1 (refpair23_spec _ _ gs gS) ?_
          simp (implicitDefEqProofs := false) (disch := omega) only [go_sem, ↓reduceIte]
          have eB : (rowN T (i + 1 + 1)).reverse.map bsl = AV.sl (.ints .u8 65 (pairL (sideD known W i) (sumD (T i)))) :: (rowN T (i + 1)).reverse.map bsl := by
            rw [rowR_succ, List.map_cons, e1]
            show AV.sl (.ints .u8 (List.length (pairL (sideD known W i) (sumD (T i)))) (pairL (sideD known W i) (sumD (T i)))) :: _ = _
            rw [pair_len gs gS]
          refine cut 4 [(4, .sl (.lst 32 L (W.map dg))), (5, .ref 0 []), (8, .ref 1 []), (12, .osl 2 [] 32 0 257), (13, .osl 3 [] 1 0 (i + 1)), (14, .int .i64 (cntK known (i + 1) : Nat)), (15, .int .i64 i), (20, .sl (.ints .u8 65 (pairL (sideD known W i) (sumD (T i)))))]
            [(0, .var (.ints .u8 32 index)), (1, .var (.ints .u8 32 known)), (2, .row (.lst 32 257 ((empties 257).map dg))), (3, .row (.lst 1 (i + 1) ((rowN T (i + 1)).reverse.map bsl)))] [(0, 0), (1, 1), (2, 2), (3, 3)] [] [7] rfl ?_ ?_ ?_ ?_
          · simp (implicitDefEqProofs := false) (disch := omega) only [go_sem, ↓reduceIte]
          · simp (implicitDefEqProofs := false) (disch := omega) only [go_sem, ↓reduceIte, hcs]
          · simp (implicitDefEqProofs := false) (disch := omega) only [go_sem, ↓reduceIte]
          simp (implicitDefEqProofs := false) (disch := omega) only [go_sem, ↓reduceIte]
          refine ⟨i + 1, [(0, 0), (1, 1), (2, 2), (3, 5)], [], [], by dsimp only; omega, by dsimp only; omega, rfl, ?_, ?_, ?_⟩ <;> simp (implicitDefEqProofs := false) (disch := omega) only [go_sem, ↓reduceIte, eB, Nat.add_comm 1, List.singleton_append, List.cons_append, List.nil_append]
        · rw [if_pos (by omega)] at e1
          simp (implicitDefEqProofs := false) (disch := omega) only [go_sem, ↓reduceIte]
          have eB : (rowN T (i + 1 + 1)).reverse.map bsl = AV.sl (.ints .u8 65 (pairL (sumD (T i)) (sideD known W i))) :: (rowN T (i + 1)).reverse.map bsl := by
            rw [rowR_succ, List.map_cons, e1]
            show AV.sl (.ints .u8 (List.length (pairL (sumD (T i)) (sideD known W i))) (pairL (sumD (T i)) (sideD known W i))) :: _ = _
            rw [pair_len gS gs]
          refine cut 4 [(4, .sl (.lst 32 L (W.map dg))), (5, .ref 0 []), (8, .ref 1 []), (12, .osl 2 [] 32 0 257), (13, .osl 3 [] 1 0 (i + 1)), (14, .int .i64 (cntK known (i + 1) : Nat)), (15, .int .i64 i), (20, .sl (.ints .u8 65 (pairL (sumD (T i)) (sideD known W i))))]
            [(0, .var (.ints .u8 32 index)), (1, .var (.ints .u8 32 known)), (2, .row (.lst 32 257 ((empties 257).map dg))), (3, .row (.lst 1 (i + 1) ((rowN T (i + 1)).reverse.map bsl)))] [(0, 0), (1, 1), (2, 2), (3, 3)] [] [6] rfl ?_ ?_ ?_ ?_
          · simp (implicitDefEqProofs := false) (disch := omega) only [go_sem, ↓reduceIte]
          · simp (implicitDefEqProofs := false) (disch := omega) only [go_sem, ↓reduceIte, hcs]
          · simp (implicitDefEqProofs := false) (disch := omega) only [go_sem, ↓reduceIte]
          simp (implicitDefEqProofs := false) (disch := omega) only [go_sem, ↓reduceIte]
          refine ⟨i + 1, [(0, 0), (1, 1), (2, 2), (3, 5)], [], [], by dsimp only; omega, by dsimp only; omega, rfl, ?_, ?_, ?_⟩ <;> simp (implicitDefEqProofs := false) (disch := omega) only [go_sem, ↓reduceIte, eB, Nat.add_comm 1, List.singleton_append, List.cons_append, List.nil_append]
      · rw [if_neg (by rw [hb]; decide), Nat.add_zero] at hcs
        rw [if_neg (by rw [hb]; decide)] at hsd
        rw [hsd] at gs e1
        simp (implicitDefEqProofs := false) (disch := omega) only [go_sem, ↓reduceIte, ↓gB, lB]
        refine call0 hsm ?_
        simp (implicitDefEqProofs := false) (disch := omega) only [go_sem, ↓reduceIte]
        refine callF 1 (refpair23_spec _ _ gS gs) ?_
        simp (implicitDefEqProofs := false) (disch := omega) only [go_sem, ↓reduceIte]
        refine call0 hb17 ?_
        simp (implicitDefEqProofs := false) (disch := omega) only [go_sem, ↓reduceIte]
        refine brd (fun h2 => ?_) (fun h2 => ?_)
        · rw [if_neg (by omega)] at e1
          simp (implicitDefEqProofs := false) (disch := omega) only [go_sem, ↓reduceIte]
          refine callF 1 (refpair23_spec _ _ gs gS) ?_
          simp (implicitDefEqProofs := false) (disch := omega) only [go_sem, ↓reduceIte]
          have eB : (rowN T (i + 1 + 1)).reverse.map bsl = AV.sl (.ints .u8 65 (pairL (emptyD i) (sumD (T i)))) :: (rowN T (i + 1)).reverse.map bsl := by
            rw [rowR_succ, List.map_cons, e1]
            show AV.sl (.ints .u8 (List.length (pairL (emptyD i) (sumD (T i)))) (pairL (emptyD i) (sumD (T i)))) :: _ = _
            rw [pair_len gs gS]
          refine cut 4 [(4, .sl (.lst 32 L (W.map dg))), (5, .ref 0 []), (8, .ref 1 []), (12, .osl 2 [] 32 0 257), (13, .osl 3 [] 1 0 (i + 1)), (14, .int .i64 (cntK known (i + 1) : Nat)), (15, .int .i64 i), (20, .sl (.ints .u8 65 (pairL (emptyD i) (sumD (T i)))))]
            [(0, .var (.ints .u8 32 index)), (1, .var (.ints .u8 32 known)), (2, .row (.lst 32 257 ((empties 257).map dg))), (3, .row (.lst 1 (i + 1) ((rowN T (i + 1)).reverse.map bsl)))] [(0, 0), (1, 1), (2, 2), (3, 3)] [] [7] rfl ?_ ?_ ?_ ?_
          · simp (implicitDefEqProofs := false) (disch := omega) only [go_sem, ↓reduceIte]
          · simp (implicitDefEqProofs := false) (disch := omega) only [go_sem, ↓reduceIte, hcs]
          · simp (implicitDefEqProofs := false) (disch := omega) only [go_sem, ↓reduceIte]
          simp (implicitDefEqProofs := false) (disch := omega) only [go_sem, ↓reduceIte]
          refine ⟨i + 1, [(0, 0), (1, 1), (2, 2), (3, 5)], [], [], by dsimp only; omega, by dsimp only; omega, rfl, ?_, ?_, ?_⟩ <;> simp (implicitDefEqProofs := false) (disch := omega) only [go_sem, ↓reduceIte, eB, Nat.add_comm 1, List.singleton_append, List.cons_append, List.nil_append]
        · rw [if_pos (by omega)] at e1
          simp (implicitDefEqProofs := false) (disch := omega) only [go_sem, ↓reduceIte]
          have eB : (rowN T (i + 1 + 1)).reverse.map bsl = AV.sl (.ints .u8 65 (pairL (sumD (T i)) (emptyD i))) :: (rowN T (i + 1)).reverse.map bsl := by
            rw [rowR_succ, List.map_cons, e1]
            show AV.sl (.ints .u8 (List.length (pairL (sumD (T i)) (emptyD i))) (pairL (sumD (T i)) (emptyD i))) :: _ = _
            rw [pair_len gS gs]
          refine cut 4 [(4, .sl (.lst 32 L (W.map dg))), (5, .ref 0 []), (8, .ref 1 []), (12, .osl 2 [] 32 0 257), (13, .osl 3 [] 1 0 (i + 1)), (14, .int .i64 (cntK known (i + 1) : Nat)), (15, .int .i64 i), (20, .sl (.ints .u8 65 (pairL (sumD (T i)) (emptyD i))))]
            [(0, .var (.ints .u8 32 index)), (1, .var (.ints .u8 32 known)), (2, .row (.lst 32 257 ((empties 257).map dg))), (3, .row (.lst 1 (i + 1) ((rowN T (i + 1)).reverse.map bsl)))] [(0, 0), (1, 1), (2, 2), (3, 3)] [] [6] rfl ?_ ?_ ?_ ?_
          · simp (implicitDefEqProofs := false) (disch := omega) only [go_sem, ↓reduceIte]
          · simp (implicitDefEqProofs := false) (disch := omega) only [go_sem, ↓reduceIte, hcs]
          · simp (implicitDefEqProofs := false) (disch := omega) only [go_sem, ↓reduceIte]
          simp (implicitDefEqProofs := false) (disch := omega) only [go_sem, ↓reduceIte]
          refine ⟨i + 1, [(0, 0), (1, 1), (2, 2), (3, 5)], [], [], by dsimp only; omega, by dsimp only; omega, rfl, ?_, ?_, ?_⟩ <;> simp (implicitDefEqProofs := false) (disch := omega) only [go_sem, ↓reduceIte, eB, Nat.add_comm 1, List.singleton_append, List.cons_append, List.nil_append]
    obtain rfl : i = 256 := by omega
    simp (implicitDefEqProofs := false) (disch := omega) only [go_sem, ↓reduceIte]
    refine ⟨[(0, 3)], [], [], rfl, ?_, ?_, ?_⟩ <;> simp (implicitDefEqProofs := false) (disch := omega) only [go_sem, ↓reduceIte]
  | true =>
    refine fnN mix ((100004, []) :: (100023, []) :: pl45) 0 5 [.tmp 10] Try.func45 rfl (by kernel_rfl) (by kernel_rfl) rfl (by kernel_rfl) (by kernel_rfl) (by simp) ?_
    simp (implicitDefEqProofs := false) (disch := omega) only [go_sem, ↓reduceIte]
    have hc256 : cntK known 256 = W.length := by
      have := cntK_all hk.1
      rw [hp] at this
      omega
    have hTl : ∀ k, k ≤ 256 → (trT index known W (leafTx true index c) k).length ≤ 100 ∧ ∀ x ∈ trT index known W (leafTx true index c) k, 0 ≤ x ∧ x < 256 := trT_mem index known W (leafTx true index c) hg hc256 (leafTx_mem index hi true c hc)
    generalize hT : trT index known W (leafTx true index c) = T at *
    have hT0 : T 0 = 0 :: (index ++ c) := by rw [← hT]; rfl
    refine cut 2 [(4, .sl (.lst 32 L (W.map dg))), (5, .ref 0 []), (8, .ref 1 []), (11, .sl (.ints .u8 65 (0 :: (index ++ c))))]
      [(0, .var (.ints .u8 32 index)), (1, .var (.ints .u8 32 known))] [(0, 0), (1, 2)] [] [6] rfl ?_ ?_ ?_ ?_
    · simp (implicitDefEqProofs := false) (disch := omega) only [go_sem, ↓reduceIte]
    · simp (implicitDefEqProofs := false) (disch := omega) only [go_sem, ↓reduceIte, List.cons_append, List.singleton_append]
    · simp (implicitDefEqProofs := false) (disch := omega) only [go_sem, ↓reduceIte]
    simp (implicitDefEqProofs := false) (disch := omega) only [go_sem, ↓reduceIte]
    refine callF 1 refempty_spec17 ?_
    simp (implicitDefEqProofs := false) (disch := omega) only [go_sem, ↓reduceIte]
    refine loop (ι := Nat) 4 (fun i => i ≤ 256) (fun i => [(4, .sl (.lst 32 L (W.map dg))), (5, .ref 0 []), (8, .ref 1 []), (12, .osl 2 [] 32 0 257), (13, .osl 3 [] 1 0 (i + 1)), (14, .int .i64 (cntK known i : Nat)), (15, .int .i64 i)])
      (fun i => [(0, .var (.ints .u8 32 index)), (1, .var (.ints .u8 32 known)), (2, .row (.lst 32 257 ((empties 257).map dg))), (3, .row (.lst 1 (i + 1) ((rowN T (i + 1)).reverse.map bsl)))]) (fun i => 256 - i) 0 [(0, 0), (1, 1), (2, 2), (3, 3)] [] (Nat.zero_le _) rfl ?_ ?_ ?_ (fun i hi' => ?_)
    · simp (implicitDefEqProofs := false) (disch := omega) only [go_sem, ↓reduceIte]
    · simp (implicitDefEqProofs := false) (disch := omega) only [go_sem, ↓reduceIte, cntK]
    · simp (implicitDefEqProofs := false) (disch := omega) only [go_sem, ↓reduceIte]
      rw [rowR_succ, hT0]
      exact congrArg (fun n => [AV.sl (.ints .u8 n (0 :: (index ++ c)))]) (show List.length (0 :: (index ++ c)) = 65 by simp [l1, l2])
    simp (implicitDefEqProofs := false) (disch := omega) only [go_sem, ↓reduceIte]
    refine brd (fun h => ?_) (fun h => ?_)
    · have hx8 : 0 ≤ known.getD (i / 8) 0 ∧ known.getD (i / 8) 0 < 256 := getD_all' hk.2 (by rw [hk.1]; omega)
      obtain ⟨t1, t2, hw8, hs, hm, hi8, h08, h0r⟩ := kbW_spec known hk i (by omega)
      have e0 : kb known i = decide ((known.getD (i / 8) 0 / 2 ^ (i % 8)) % 2 = 1) := rfl
      have g1 : ∀ K, getP ((empties 257).map dg) i K = K (.ints .u8 32 (emptyD i)) := fun K => getP_map (f := dg) (empties_get (n := 257) (i := i) (by omega)) K
      have le1 : ((empties 257).map dg).length = 257 := by rw [List.length_map, empties_len]
      have hb17 := refbit_spec17 index i hi
      have hcs : cntK known (i + 1) = cntK known i + (if kb known i = true then 1 else 0) := rfl
      have hsd : sideD known W i = if kb known i = true then W.getD (cntK known i) zs else emptyD i := rfl
      have hmono := cntK_mono known (show i ≤ 256 by omega)
      have gs := sideD_good hg hc256 (k := i) (by omega)
      have hTi := hTl i (by omega)
      have gB : ∀ K, getP ((rowN T (i + 1)).reverse.map bsl) 0 K = K (.sl (.ints .u8 (T i).length (T i))) := fun K => getP_map (f := bsl) (a := T i) (by rw [rowR_succ]; rfl) K
      have lB : ((rowN T (i + 1)).reverse.map bsl).length = i + 1 := by rw [List.length_map, List.length_reverse, rowN, List.length_map, List.length_range]
      have hsm := refsum_spec (T i) hTi.2 (by omega)
      have e1 : T (i + 1) = if bitD index i = 0 then pairL (sumD (T i)) (sideD known W i) else pairL (sideD known W i) (sumD (T i)) := by rw [← hT]; rfl
      have gS := sumD_good (T i)
      have hb01 := bitD_01 index i
      generalize hv : known.getD (i / 8) 0 = x at *
      simp (implicitDefEqProofs := false) (disch := omega) only [go_sem, ↓reduceIte, ↓g1, le1, t1, hw8, hv]
      refine loop (ι := Nat) 5 (fun j => j ≤ i % 8) (fun j => [(4, .sl (.lst 32 L (W.map dg))), (5, .ref 0 []), (8, .ref 1 []), (12, .osl 2 [] 32 0 257), (13, .osl 3 [] 1 0 (i + 1)), (14, .int .i64 (cntK known i : Nat)), (15, .int .i64 i), (16, .ref 4 []), (17, .int .u8 (x / 2 ^ j)), (18, .int .i64 j)])
        (fun j => [(0, .var (.ints .u8 32 index)), (1, .var (.ints .u8 32 known)), (2, .row (.lst 32 257 ((empties 257).map dg))), (3, .row (.lst 1 (i + 1) ((rowN T (i + 1)).reverse.map bsl))), (4, .var (.ints .u8 32 (emptyD i)))]) (fun j => i % 8 - j) 0 [(0, 0), (1, 1), (2, 2), (3, 3), (4, 4)] [] (Nat.zero_le _) rfl ?_ ?_ ?_ (fun j hj => ?_)
      · simp (implicitDefEqProofs := false) (disch := omega) only [go_sem, ↓reduceIte]
      · simp (implicitDefEqProofs := false) (disch := omega) only [go_sem, ↓reduceIte]
        rw [show (2 : Int) ^ 0 = 1 by decide, Int.ediv_one]
      · simp (implicitDefEqProofs := false) (disch := omega) only [go_sem, ↓reduceIte]
      have hp2 : (1 : Int) ≤ 2 ^ j := by exact_mod_cast Nat.one_le_two_pow
      have hq : 0 ≤ x / 2 ^ j ∧ x / 2 ^ j < 256 := ⟨Int.ediv_nonneg hx8.1 (by omega), Int.lt_of_le_of_lt (Int.ediv_le_self _ hx8.1) hx8.2⟩
      have q2 : (x / 2 ^ j).tdiv 2 = x / 2 ^ (j + 1) := by rw [Int.tdiv_eq_ediv_of_nonneg hq.1, Int.pow_succ, Int.ediv_ediv_of_nonneg (by omega)]
      have q3 : x / 2 ^ (j + 1) = (x / 2 ^ j) / 2 := by rw [Int.pow_succ, Int.ediv_ediv_of_nonneg (by omega)]
      have w1 : IntKind.u8.wrap (x / 2 ^ (j + 1)) = x / 2 ^ (j + 1) := wrap_u8 (by omega) (by omega)
      simp (implicitDefEqProofs := false) (disch := omega) only [go_sem, ↓reduceIte, t2]
      refine brd (fun h3 => ?_) (fun h3 => ?_)
      · simp (implicitDefEqProofs := false) (disch := omega) only [go_sem, ↓reduceIte, q2, w1]
        refine ⟨j + 1, [(0, 0), (1, 1), (2, 2), (3, 3), (4, 4)], [], [], by dsimp only; omega, by dsimp only; omega, rfl, ?_, ?_, ?_⟩ <;> simp (implicitDefEqProofs := false) (disch := omega) only [go_sem, ↓reduceIte]
      obtain rfl : j = i % 8 := by omega
      have r2 : (x / 2 ^ (i % 8)).tmod 2 = (x / 2 ^ (i % 8)) % 2 := Int.tmod_eq_emod_of_nonneg hq.1
      simp (implicitDefEqProofs := false) (disch := omega) only [go_sem, ↓reduceIte, r2, ← e0]
      refine br (fun hb => ?_) (fun hb => ?_)
      · rw [if_pos hb] at hcs hsd
        have hlt := cntK_lt (k := i) (by omega) hb
        have g2 : ∀ K, getP (W.map dg) (cntK known i) K = K (.ints .u8 32 (sideD known W i)) := fun K => getP_map (f := dg) (l := W) (i := cntK known i) (a := sideD known W i) (by rw [hsd, List.getD, List.getElem?_eq_getElem (by omega), Option.getD_some]) K
        have hl2 : (W.map dg).length = L := by rw [List.length_map, hW]
        simp (implicitDefEqProofs := false) (disch := omega) only [go_sem, ↓reduceIte, ↓g2, hl2, ↓gB, lB]
        refine call0 hsm ?_
        simp (implicitDefEqProofs := false) (disch := omega) only [go_sem, ↓reduceIte]
        refine callF 1 (refpair23_spec _ _ gS gs) ?_
        simp (implicitDefEqProofs := false) (disch := omega) only [go_sem, ↓reduceIte]
        refine call0 hb17 ?_
        simp (implicitDefEqProofs := false) (disch := omega) only [go_sem, ↓reduceIte]
        refine brd (fun h2 => ?_) (fun h2 => ?_)
        · rw [if_neg (by omega)] at e1
          simp (implicitDefEqProofs := false) (disch := omega) only [go_sem, ↓reduceIte]
          refine callF 1 (refpair23_spec _ _ gs gS) ?_
          simp (implicitDefEqProofs := false) (disch := omega) only [go_sem, ↓reduceIte]
          have eB : (rowN T (i + 1 + 1)).reverse.map bsl = AV.sl (.ints .u8 65 (pairL (sideD known W i) (sumD (T i)))) :: (rowN T (i + 1)).reverse.map bsl := by
            rw [rowR_succ, List.map_cons, e1]
            show AV.sl (.ints .u8 (List.length (pairL (sideD known W i) (sumD (T i)))) (pairL (sideD known W i) (sumD (T i)))) :: _ = _
            rw [pair_len gs gS]
          refine cut 4 [(4, .sl (.lst 32 L (W.map dg))), (5, .ref 0 []), (8, .ref 1 []), (12, .osl 2 [] 32 0 257), (13, .osl 3 [] 1 0 (i + 1)), (14, .int .i64 (cntK known (i + 1) : Nat)), (15, .int .i64 i), (20, .sl (.ints .u8 65 (pairL (sideD known W i) (sumD (T i)))))]
            [(0, .var (.ints .u8 32 index)), (1, .var (.ints .u8 32 known)), (2, .row (.lst 32 257 ((empties 257).map dg))), (3, .row (.lst 1 (i + 1) ((rowN T (i + 1)).reverse.map bsl)))] [(0, 0), (1, 1), (2, 2), (3, 3)] [] [7] rfl ?_ ?_ ?_ ?_
          · simp (implicitDefEqProofs := false) (disch := omega) only [go_sem, ↓reduceIte]
          · simp (implicitDefEqProofs := false) (disch := omega) only [go_sem, ↓reduceIte, hcs]
          · simp (implicitDefEqProofs := false) (disch := omega) only [go_sem, ↓reduceIte]
          simp (implicitDefEqProofs := false) (disch := omega) only [go_sem, ↓reduceIte]
          refine ⟨i + 1, [(0, 0), (1, 1), (2, 2), (3, 5)], [], [], by dsimp only; omega, by dsimp only; omega, rfl, ?_, ?_, ?_⟩ <;> simp (implicitDefEqProofs := false) (disch := omega) only [go_sem, ↓reduceIte, eB, Nat.add_comm 1, List.singleton_append, List.cons_append, List.nil_append]
        · rw [if_pos (by omega)] at e1
          simp (implicitDefEqProofs := false) (disch := omega) only [go_sem, ↓reduceIte]
          have eB : (rowN T (i + 1 + 1)).reverse.map bsl = AV.sl (.ints .u8 65 (pairL (sumD (T i)) (sideD known W i))) :: (rowN T (i + 1)).reverse.map bsl := by
            rw [rowR_succ, List.map_cons, e1]
            show AV.sl (.ints .u8 (List.length (pairL (sumD (T i)) (sideD known W i))) (pairL (sumD (T i)) (sideD known W i))) :: _ = _
            rw [pair_len gS gs]
          refine cut 4 [(4, .sl (.lst 32 L (W.map dg))), (5, .ref 0 []), (8, .ref 1 []), (12, .osl 2 [] 32 0 257), (13, .osl 3 [] 1 0 (i + 1)), (14, .int .i64 (cntK known (i + 1) : Nat)), (15, .int .i64 i), (20, .sl (.ints .u8 65 (pairL (sumD (T i)) (sideD known W i))))]
            [(0, .var (.ints .u8 32 index)), (1, .var (.ints .u8 32 known)), (2, .row (.lst 32 257 ((empties 257).map dg))), (3, .row (.lst 1 (i + 1) ((rowN T (i + 1)).reverse.map bsl)))] [(0, 0), (1, 1), (2, 2), (3, 3)] [] [6] rfl ?_ ?_ ?_ ?_
          · simp (implicitDefEqProofs := false) (disch := omega) only [go_sem, ↓reduceIte]
          · simp (implicitDefEqProofs := false) (disch := omega) only [go_sem, ↓reduceIte, hcs]
          · simp (implicitDefEqProofs := false) (disch := omega) only [go_sem, ↓reduceIte]
          simp (implicitDefEqProofs := false) (disch := omega) only [go_sem, ↓reduceIte]
          refine ⟨i + 1, [(0, 0), (1, 1), (2, 2), (3, 5)], [], [], by dsimp only; omega, by dsimp only; omega, rfl, ?_, ?_, ?_⟩ <;> simp (implicitDefEqProofs := false) (disch := omega) only [go_sem, ↓reduceIte, eB, Nat.add_comm 1, List.singleton_append, List.cons_append, List.nil_append]
      · rw [if_neg (by rw [hb]; decide), Nat.add_zero] at hcs
        rw [if_neg (by rw [hb]; decide)] at hsd
        rw [hsd] at gs e1
        simp (implicitDefEqProofs := false) (disch := omega) only [go_sem, ↓reduceIte, ↓gB, lB]
        refine call0 hsm ?_
        simp (implicitDefEqProofs := false) (disch := omega) only [go_sem, ↓reduceIte]
        refine callF 1 (refpair23_spec _ _ gS gs) ?_
        simp (implicitDefEqProofs := false) (disch := omega) only [go_sem, ↓reduceIte]
        refine call0 hb17 ?_
        simp (implicitDefEqProofs := false) (disch := omega) only [go_sem, ↓reduceIte]
        refine brd (fun h2 => ?_) (fun h2 => ?_)
        · rw [if_neg (by omega)] at e1
          simp (implicitDefEqProofs := false) (disch := omega) only [go_sem, ↓reduceIte]
          refine callF 1 (refpair23_spec _ _ gs gS) ?_
          simp (implicitDefEqProofs := false) (disch := omega) only [go_sem, ↓reduceIte]
          have eB : (rowN T (i + 1 + 1)).reverse.map bsl = AV.sl (.ints .u8 65 (pairL (emptyD i) (sumD (T i)))) :: (rowN T (i + 1)).reverse.map bsl := by
            rw [rowR_succ, List.map_cons, e1]
            show AV.sl (.ints .u8 (List.length (pairL (emptyD i) (sumD (T i)))) (pairL (emptyD i) (sumD (T i)))) :: _ = _
            rw [pair_len gs gS]
          refine cut 4 [(4, .sl (.lst 32 L (W.map dg))), (5, .ref 0 []), (8, .ref 1 []), (12, .osl 2 [] 32 0 257), (13, .osl 3 [] 1 0 (i + 1)), (14, .int .i64 (cntK known (i + 1) : Nat)), (15, .int .i64 i), (20, .sl (.ints .u8 65 (pairL (emptyD i) (sumD (T i)))))]
            [(0, .var (.ints .u8 32 index)), (1, .var (.ints .u8 32 known)), (2, .row (.lst 32 257 ((empties 257).map dg))), (3, .row (.lst 1 (i + 1) ((rowN T (i + 1)).reverse.map bsl)))] [(0, 0), (1, 1), (2, 2), (3, 3)] [] [7] rfl ?_ ?_ ?_ ?_
          · simp (implicitDefEqProofs := false) (disch := omega) only [go_sem, ↓reduceIte]
          · simp (implicitDefEqProofs := false) (disch := omega) only [go_sem, ↓reduceIte, hcs]
          · simp (implicitDefEqProofs := false) (disch := omega) only [go_sem, ↓reduceIte]
          simp (implicitDefEqProofs := false) (disch := omega) only [go_sem, ↓reduceIte]
          refine ⟨i + 1, [(0, 0), (1, 1), (2, 2), (3, 5)], [], [], by dsimp only; omega, by dsimp only; omega, rfl, ?_, ?_, ?_⟩ <;> simp (implicitDefEqProofs := false) (disch := omega) only [go_sem, ↓reduceIte, eB, Nat.add_comm 1, List.singleton_append, List.cons_append, List.nil_append]
        · rw [if_pos (by omega)] at e1
          simp (implicitDefEqProofs := false) (disch := omega) only [go_sem, ↓reduceIte]
          have eB : (rowN T (i + 1 + 1)).reverse.map bsl = AV.sl (.ints .u8 65 (pairL (sumD (T i)) (emptyD i))) :: (rowN T (i + 1)).reverse.map bsl := by
            rw [rowR_succ, List.map_cons, e1]
            show AV.sl (.ints .u8 (List.length (pairL (sumD (T i)) (emptyD i))) (pairL (sumD (T i)) (emptyD i))) :: _ = _
            rw [pair_len gS gs]
          refine cut 4 [(4, .sl (.lst 32 L (W.map dg))), (5, .ref 0 []), (8, .ref 1 []), (12, .osl 2 [] 32 0 257), (13, .osl 3 [] 1 0 (i + 1)), (14, .int .i64 (cntK known (i + 1) : Nat)), (15, .int .i64 i), (20, .sl (.ints .u8 65 (pairL (sumD (T i)) (emptyD i))))]
            [(0, .var (.ints .u8 32 index)), (1, .var (.ints .u8 32 known)), (2, .row (.lst 32 257 ((empties 257).map dg))), (3, .row (.lst 1 (i + 1) ((rowN T (i + 1)).reverse.map bsl)))] [(0, 0), (1, 1), (2, 2), (3, 3)] [] [6] rfl ?_ ?_ ?_ ?_
          · simp (implicitDefEqProofs := false) (disch := omega) only [go_sem, ↓reduceIte]
          · simp (implicitDefEqProofs := false) (disch := omega) only [go_sem, ↓reduceIte, hcs]
          · simp (implicitDefEqProofs := false) (disch := omega) only [go_sem, ↓reduceIte]
          simp (implicitDefEqProofs := false) (disch := omega) only [go_sem, ↓reduceIte]
          refine ⟨i + 1, [(0, 0), (1, 1), (2, 2), (3, 5)], [], [], by dsimp only; omega, by dsimp only; omega, rfl, ?_, ?_, ?_⟩ <;> simp (implicitDefEqProofs := false) (disch := omega) only [go_sem, ↓reduceIte, eB, Nat.add_comm 1, List.singleton_append, List.cons_append, List.nil_append]
    obtain rfl : i = 256 := by omega
    simp (implicitDefEqProofs := false) (disch := omega) only [go_sem, ↓reduceIte]
    refine ⟨[(0, 3)], [], [], rfl, ?_, ?_, ?_⟩ <;> simp (implicitDefEqProofs := false) (disch := omega) only [go_sem, ↓reduceIte]
end
end Go.Proofs.Ytegbkbkcfcjkbaa
