/- The package extract: nodes' texts from below on; trails of texts and of logs that grow. -/
import Derived.Test.YtegbkbkcfcjkbaaExtr
namespace Go.Proofs.Ytegbkbkcfcjkbaa
open Go Go.Sy Go.Proofs.Try
set_option maxRecDepth 100000
set_option maxHeartbeats 8000000
set_option linter.unusedSimpArgs false
set_option linter.unusedVariables false
attribute [go_sem] pl92
theorem stepT_mem {W : List (List Int)} (hW : ∀ d ∈ W, goodD d) {x : List Int} (hx : goodD x) (r : Bool) {j : Nat} (hj : j < W.length) : (stepT W r j x).length = 65 ∧ ∀ y ∈ stepT W r j x, 0 ≤ y ∧ y < 256 := by
  have hw := getD_good hW hj
  unfold stepT
  cases r
  · rw [if_neg (by decide)]; exact ⟨pair_len hx hw, pair_mem hx hw⟩
  · rw [if_pos rfl]; exact ⟨pair_len hw hx, pair_mem hw hx⟩
theorem sumD_good (b : List Int) : goodD (sumD b) := ⟨sumD_len _, sumD_mem _⟩
theorem upEnd_good (W : List (List Int)) : ∀ (rs : List Bool) (j : Nat) (x : List Int), goodD x → goodD (upEnd W rs j x)
  | [], _, _, h => h
  | r :: rs, j, x, _ => upEnd_good W rs (j + 1) _ (sumD_good _)
theorem upTx_mem {W : List (List Int)} (hW : ∀ d ∈ W, goodD d) : ∀ (rs : List Bool) (j : Nat) (x : List Int), goodD x → j + rs.length ≤ W.length → ∀ t ∈ upTx W rs j x, t.length = 65 ∧ ∀ y ∈ t, 0 ≤ y ∧ y < 256
  | [], _, _, _, _, t, h => by cases h
  | r :: rs, j, x, hx, hl, t, h => by
    rw [List.length_cons] at hl
    rw [upTx] at h
    rcases List.mem_cons.1 h with rfl | h
    · exact stepT_mem hW hx r (by omega)
    · exact upTx_mem hW rs (j + 1) _ (sumD_good _) (by omega) t h
theorem up_spec (x : List Int) (l : List Bool) (W : List (List Int)) (n m : Nat) (hx : goodD x) (hn : l.length = n) (hm : W.length = m) (hnm : n ≤ m) (hml : m ≤ 1000000) (hnl : n ≤ 1000) (hW : ∀ d ∈ W, goodD d) :
    FnC Try.prog 92 [.ints .u8 32 x, .osl 0 [] 1 0 n, .sl (.lst 32 m (W.map dg))] [(0, .row (.lst 1 n (l.map stV)))] (.osl 1 [] 1 0 n) [(1, .row (.lst 1 n ((upTx W l.reverse 0 x).map bsl)))] := by
  obtain ⟨rs, hrs⟩ : ∃ rs, rs = l.reverse := ⟨_, rfl⟩
  have hrl : rs.length = n := by rw [hrs, List.length_reverse, hn]
  have htu := turnS_spec l n hn hnl
  rw [← hrs] at htu ⊢
  have hle : (W.map dg).length = m := by rw [List.length_map, hm]
  have hle2 : (rs.map stV).length = n := by rw [List.length_map, hrl]
  refine fnV mix ((100008, []) :: pl92) 0 1 3 [.tmp 6] Try.func92 rfl (by kernel_rfl) (by kernel_rfl) rfl (by kernel_rfl) (by kernel_rfl) (by simp) rfl rfl ?_
  simp (implicitDefEqProofs := false) (disch := omega) only [go_sem, ↓reduceIte]
  refine callBF 1 htu (hq := by simp [OB.pf, AV.pf, pf_stV]) ?_ ?_
  · simp (implicitDefEqProofs := false) (disch := omega) only [go_sem, ↓reduceIte]
  simp (implicitDefEqProofs := false) (disch := omega) only [go_sem, ↓reduceIte]
  refine loop (ι := Nat) 3 (fun j => j ≤ n) (fun j => [(2, .sl (.lst 32 m (W.map dg))), (3, .ref 0 []), (7, .osl 2 [] 1 0 j), (12, .osl 1 [] 1 0 n), (13, .int .i64 n), (14, .int .i64 j)])
    (fun j => [(0, .var (.ints .u8 32 (upEnd W (rs.take j) 0 x))), (1, .row (.lst 1 n (rs.map stV))), (2, .row (.lst 1 j ((upTx W (rs.take j) 0 x).map bsl)))]) (fun j => n - j) 0 [(0, 1), (1, 2)] [2] (Nat.zero_le _) rfl ?_ ?_ ?_ (fun j hj => ?_)
  · simp (implicitDefEqProofs := false) (disch := omega) only [go_sem, ↓reduceIte]
  · simp (implicitDefEqProofs := false) (disch := omega) only [go_sem, ↓reduceIte]
  · simp (implicitDefEqProofs := false) (disch := omega) only [go_sem, ↓reduceIte, List.take_zero, upEnd, upTx, List.map_nil]
  simp (implicitDefEqProofs := false) (disch := omega) only [go_sem, ↓reduceIte]
  refine brd (fun h1 => ?_) (fun h1 => ?_)
  · obtain ⟨r, hr⟩ : ∃ r, r = rs.getD j false := ⟨_, rfl⟩
    have hd : rs[j]? = some r := by rw [hr]; simp only [List.getD, List.getElem?_eq_getElem (show j < rs.length by omega), Option.getD_some]
    have hg0 : ∀ K, getP (rs.map stV) j K = K (.agg [.bool r]) := fun K => getP_map (f := stV) hd K
    have hw0 : ∀ K, getP (W.map dg) j K = K (.ints .u8 32 (W.getD j [])) := fun K => getP_map (f := dg) (getD_some' (by omega)) K
    have htk := take_next' hd
    have hsu := up_snoc W r (rs.take j) 0 x
    rw [← htk, List.length_take, Nat.zero_add, show min j rs.length = j by omega] at hsu
    have hX := upEnd_good W (rs.take j) 0 x hx
    have hwj := getD_good hW (show j < W.length by omega)
    generalize upEnd W (rs.take j) 0 x = X at *
    simp (implicitDefEqProofs := false) (disch := omega) only [go_sem, ↓reduceIte, ↓hg0, ↓hw0, hle, hle2]
    refine callF 1 (pair23_spec X (W.getD j []) hX hwj) ?_
    simp (implicitDefEqProofs := false) (disch := omega) only [go_sem, ↓reduceIte]
    by_cases hrr : r = true
    · have hr := hrr
      rw [hrr]
      simp (implicitDefEqProofs := false) (disch := omega) only [go_sem, ↓reduceIte, ↓hw0, hle]
      refine callF 1 (pair23_spec (W.getD j []) X hwj hX) ?_
      simp (implicitDefEqProofs := false) (disch := omega) only [go_sem, ↓reduceIte]
      have hst := stepT_mem hW (x := X) hX r (show j < W.length by omega)
      have hto : stepT W r j X = pairL (W.getD j []) X := by rw [hr]; rfl
      rw [hto] at hst
      have hsm := sums1 hst.2 (by rw [hst.1]; decide)
      rw [bsl, hst.1] at hsm
      refine cut 3 [(2, .sl (.lst 32 m (W.map dg))), (3, .ref 0 []), (7, .osl 2 [] 1 0 j), (10, .sl (.ints .u8 65 (pairL (W.getD j []) X))), (12, .osl 1 [] 1 0 n), (13, .int .i64 n), (14, .int .i64 j)]
        [(0, .var (.ints .u8 32 X)), (1, .row (.lst 1 n (rs.map stV))), (2, .row (.lst 1 j ((upTx W (rs.take j) 0 x).map bsl)))] [(0, 0), (1, 1), (2, 2)] [] [5] rfl ?_ ?_ ?_ ?_
      · simp (implicitDefEqProofs := false) (disch := omega) only [go_sem, ↓reduceIte]
      · simp (implicitDefEqProofs := false) (disch := omega) only [go_sem, ↓reduceIte]
      · simp (implicitDefEqProofs := false) (disch := omega) only [go_sem, ↓reduceIte]
      simp (implicitDefEqProofs := false) (disch := omega) only [go_sem, ↓reduceIte]
      refine callB hsm ?_ ?_
      · simp (implicitDefEqProofs := false) (disch := omega) only [go_sem, ↓reduceIte]
      simp (implicitDefEqProofs := false) (disch := omega) only [go_sem, ↓reduceIte]
      have e1 : upEnd W (rs.take (j + 1)) 0 x = sumD (pairL (W.getD j []) X) := by rw [hsu.2, hto]
      have e2 : (upTx W (rs.take (j + 1)) 0 x).map bsl = (upTx W (rs.take j) 0 x).map bsl ++ [.sl (.ints .u8 65 (pairL (W.getD j []) X))] := by
        rw [hsu.1, List.map_append, hto]
        show _ ++ [AV.sl (.ints .u8 (List.length (pairL (W.getD j []) X)) (pairL (W.getD j []) X))] = _
        rw [hst.1]
      refine ⟨j + 1, [(0, 0), (1, 1), (2, 4)], [], [], by dsimp only; omega, by dsimp only; omega, rfl, ?_, ?_, ?_⟩ <;> simp (implicitDefEqProofs := false) (disch := omega) only [go_sem, ↓reduceIte, e1, e2]
    · have hr : r = false := by simpa using hrr
      rw [hr]
      simp (implicitDefEqProofs := false) (disch := omega) only [go_sem, ↓reduceIte]
      have hst := stepT_mem hW (x := X) hX r (show j < W.length by omega)
      have hto : stepT W r j X = pairL X (W.getD j []) := by rw [hr]; rfl
      rw [hto] at hst
      have hsm := sums1 hst.2 (by rw [hst.1]; decide)
      rw [bsl, hst.1] at hsm
      refine cut 3 [(2, .sl (.lst 32 m (W.map dg))), (3, .ref 0 []), (7, .osl 2 [] 1 0 j), (10, .sl (.ints .u8 65 (pairL X (W.getD j [])))), (12, .osl 1 [] 1 0 n), (13, .int .i64 n), (14, .int .i64 j)]
        [(0, .var (.ints .u8 32 X)), (1, .row (.lst 1 n (rs.map stV))), (2, .row (.lst 1 j ((upTx W (rs.take j) 0 x).map bsl)))] [(0, 0), (1, 1), (2, 2)] [] [4] rfl ?_ ?_ ?_ ?_
      · simp (implicitDefEqProofs := false) (disch := omega) only [go_sem, ↓reduceIte]
      · simp (implicitDefEqProofs := false) (disch := omega) only [go_sem, ↓reduceIte]
      · simp (implicitDefEqProofs := false) (disch := omega) only [go_sem, ↓reduceIte]
      simp (implicitDefEqProofs := false) (disch := omega) only [go_sem, ↓reduceIte]
      refine callB hsm ?_ ?_
      · simp (implicitDefEqProofs := false) (disch := omega) only [go_sem, ↓reduceIte]
      simp (implicitDefEqProofs := false) (disch := omega) only [go_sem, ↓reduceIte]
      have e1 : upEnd W (rs.take (j + 1)) 0 x = sumD (pairL X (W.getD j [])) := by rw [hsu.2, hto]
      have e2 : (upTx W (rs.take (j + 1)) 0 x).map bsl = (upTx W (rs.take j) 0 x).map bsl ++ [.sl (.ints .u8 65 (pairL X (W.getD j [])))] := by
        rw [hsu.1, List.map_append, hto]
        show _ ++ [AV.sl (.ints .u8 (List.length (pairL X (W.getD j []))) (pairL X (W.getD j [])))] = _
        rw [hst.1]
      refine ⟨j + 1, [(0, 0), (1, 1), (2, 4)], [], [], by dsimp only; omega, by dsimp only; omega, rfl, ?_, ?_, ?_⟩ <;> simp (implicitDefEqProofs := false) (disch := omega) only [go_sem, ↓reduceIte, e1, e2]
  · obtain rfl : j = n := by omega
    have ht : rs.take j = rs := List.take_of_length_le (by omega)
    simp (implicitDefEqProofs := false) (disch := omega) only [go_sem, ↓reduceIte]
    refine ⟨[(1, 2)], [], [], rfl, ?_, ?_, ?_⟩ <;> simp (implicitDefEqProofs := false) (disch := omega) only [go_sem, ↓reduceIte, ht]
end Go.Proofs.Ytegbkbkcfcjkbaa
