/- The trail of a growing log, as the document tells it. -/
import Derived.Test.YtegbkbkcfcjkbaaExtr9
namespace Go.Proofs.Ytegbkbkcfcjkbaa
open Go Go.Sy Go.Proofs.Try
set_option maxRecDepth 100000
set_option maxHeartbeats 8000000
set_option linter.unusedSimpArgs false
set_option linter.unusedVariables false
attribute [go_sem] pl49
theorem growT_eq (a : List Int) (W : List (List Int)) (f n : Nat) (cut : Bool) : growT a W (f + 1) n n cut = [] := by rw [growT, if_pos rfl]
theorem growT_congr (a : List Int) (W W' : List (List Int)) : ∀ (f m n : Nat) (cut : Bool), (∀ j, j < depG f m n cut → W.getD j [] = W'.getD j []) → growT a W f m n cut = growT a W' f m n cut
  | 0, _, _, _, _ => rfl
  | f + 1, m, n, cut, h => by
    by_cases c : m = n
    · subst c; rw [growT_eq, growT_eq]
    by_cases c2 : m ≤ halfN n
    · rw [depG_lo f cut c c2] at h
      rw [growT_lo a W f cut c c2, growT_lo a W' f cut c c2, growT_congr a W W' f m (halfN n) cut (fun j hj => h j (by omega)), groV_congr a W W' f m (halfN n) cut (fun j hj => h j (by omega)), h (depG f m (halfN n) cut) (by omega)]
    · rw [depG_hi f cut c c2] at h
      rw [growT_hi a W f cut c c2, growT_hi a W' f cut c c2, growT_congr a W W' f (m - halfN n) (n - halfN n) true (fun j hj => h j (by omega)), groV_congr a W W' f (m - halfN n) (n - halfN n) true (fun j hj => h j (by omega)), h (depG f (m - halfN n) (n - halfN n) true) (by omega)]
def GrowC (a : List Int) (W : List (List Int)) (m n w : Nat) (cut ok : Bool) (d : List Int) (R : List (List Int)) : Prop :=
  (R = [] ∧ FnC Try.prog 49 [.ints .u8 32 a, .int .i64 m, .int .i64 n, .bool cut, .sl (.lst 32 w (W.map dg))] [] (.tup [.nils, .ints .u8 32 d, .bool ok]) []) ∨
  (R ≠ [] ∧ FnC Try.prog 49 [.ints .u8 32 a, .int .i64 m, .int .i64 n, .bool cut, .sl (.lst 32 w (W.map dg))] [] (.tup [.osl 0 [] 1 0 R.length, .ints .u8 32 d, .bool ok]) [(0, .row (.lst 1 R.length (R.map bsl)))])
theorem refgrow_spec (a : List Int) (ha : goodD a) : ∀ (f m n : Nat) (cut : Bool) (W : List (List Int)) (w : Nat), n ≤ f → f ≤ 1000 → 1 ≤ m → m ≤ n → n ≤ 1000 → W.length = w → w ≤ 1000000 → (∀ d ∈ W, goodD d) →
    ∃ d R, goodD d ∧ R.length ≤ f ∧ (depG f m n cut = w → d = (groV a W f m n cut).2 ∧ R = growT a W f m n cut) ∧ GrowC a W m n w cut (decide (depG f m n cut = w)) d R := by
  intro f
  induction f with
  | zero => intro m n cut W w h1 hf h2 h3; omega
  | succ f ih =>
    intro s n cut W m h1 hf h2 h3 h4 hW hm hg
    by_cases c1 : s = n
    · subst c1
      rw [depG_eq, groV_eq, growT_eq]
      cases cut
      · refine ⟨a, [], ha, Nat.zero_le _, fun _ => ⟨rfl, rfl⟩, .inl ⟨rfl, ?_⟩⟩
        rw [if_neg (by decide)]
        have e : decide (0 = m) = decide ((m : Int) = 0) := decide_eq_decide.2 (by omega)
        rw [e]
        refine fn0 mix pl49 0 5 [.tmp 10, .cell 11 63, .tmp 12] Try.func49 rfl (by kernel_rfl) (by kernel_rfl) rfl (by kernel_rfl) (by kernel_rfl) (by simp) ?_
        simp (implicitDefEqProofs := false) (disch := omega) only [go_sem, ↓reduceIte]
      · rw [if_pos rfl, if_pos rfl]
        by_cases c2 : m = 1
        · subst c2
          obtain ⟨x, rfl⟩ := List.length_eq_one_iff.1 hW
          have hxg := hg x (List.mem_cons_self ..)
          refine ⟨x, [], hxg, Nat.zero_le _, fun _ => ⟨rfl, rfl⟩, .inl ⟨rfl, ?_⟩⟩
          refine fn0 mix pl49 0 5 [.tmp 10, .cell 11 63, .tmp 12] Try.func49 rfl (by kernel_rfl) (by kernel_rfl) rfl (by kernel_rfl) (by kernel_rfl) (by simp) ?_
          simp (implicitDefEqProofs := false) (disch := omega) only [go_sem, ↓reduceIte, List.map_cons, List.map_nil, dg]
        · refine ⟨a, [], ha, Nat.zero_le _, fun h => absurd h.symm c2, .inl ⟨rfl, ?_⟩⟩
          have e : decide (1 = m) = false := decide_eq_false (fun h => c2 h.symm)
          have e2 : decide ((m : Int) = 1) = false := decide_eq_false (by omega)
          rw [e]
          refine fn0 mix pl49 0 5 [.tmp 10, .cell 11 63, .tmp 12] Try.func49 rfl (by kernel_rfl) (by kernel_rfl) rfl (by kernel_rfl) (by kernel_rfl) (by simp) ?_
          simp (implicitDefEqProofs := false) (disch := omega) only [go_sem, ↓reduceIte, e2]
    have hk := halfN_lt (show 2 ≤ n by omega)
    have d1 : decide ((s : Int) = (n : Int)) = false := decide_eq_false (by omega)
    obtain _ | m := m
    · refine ⟨a, [], ha, Nat.zero_le _, fun h => ?_, .inl ⟨rfl, ?_⟩⟩
      · by_cases c2 : s ≤ halfN n
        · rw [depG_lo f cut c1 c2] at h; omega
        · rw [depG_hi f cut c1 c2] at h; omega
      have e : decide (depG (f + 1) s n cut = 0) = false := decide_eq_false (by
        by_cases c2 : s ≤ halfN n
        · rw [depG_lo f cut c1 c2]; omega
        · rw [depG_hi f cut c1 c2]; omega)
      rw [e]
      refine fn0 mix pl49 0 5 [.tmp 10, .cell 11 63, .tmp 12] Try.func49 rfl (by kernel_rfl) (by kernel_rfl) rfl (by kernel_rfl) (by kernel_rfl) (by simp) ?_
      simp (implicitDefEqProofs := false) (disch := omega) only [go_sem, ↓reduceIte, d1]
    have hxg := getD_good hg (show m < W.length by omega)
    have g0 := fun K => getDm hW K
    have i1 : (m : Int) + 1 - 1 = m := by omega
    have i2 : (m : Int).toNat = m := Int.toNat_natCast m
    have g2 : ∀ K, getP (W.map dg) (m : Int).toNat K = K (.ints .u8 32 (W.getD m [])) := fun K => by rw [i2, g0]
    have g3 : ∀ K, getP (W.map dg) ((m : Int) + 1 - 1).toNat K = K (.ints .u8 32 (W.getD m [])) := fun K => by rw [i1, g2]
    have hlm : (W.map dg).length = m + 1 := by rw [List.length_map, hW]
    have hlt : (W.take m).length = m := by rw [List.length_take]; omega
    have hgt : ∀ d ∈ W.take m, goodD d := fun d h => hg d (List.mem_of_mem_take h)
    have ee : decide ((m : Int) + 1 = 0) = false := decide_eq_false (by omega)
    have em : ¬ m = m + 1 := by omega
    by_cases c2 : s ≤ halfN n
    · have d3 : decide ((s : Int) ≤ (halfN n : Int)) = true := decide_eq_true (by omega)
      obtain ⟨d, R, hdg, hRl', hv, hc⟩ := ih s (halfN n) cut (W.take m) m (by omega) (by omega) (by omega) c2 (by omega) hlt (by omega) hgt
      refine ⟨nodeL d (W.getD m []), pairL d (W.getD m []) :: R, nodeL_good _ _, by rw [List.length_cons]; omega, fun h => ?_, ?_⟩
      · rw [depG_lo f cut c1 c2] at h
        have hv := hv (by omega)
        rw [groV_congr a (W.take m) W f s (halfN n) cut (fun j hj => take_getD' (by omega)), growT_congr a (W.take m) W f s (halfN n) cut (fun j hj => take_getD' (by omega))] at hv
        rw [groV_lo _ _ f cut c1 c2, growT_lo _ _ f cut c1 c2, ← hv.1, ← hv.2, show depG f s (halfN n) cut = m by omega]
        exact ⟨rfl, rfl⟩
      rw [depG_lo f cut c1 c2]
      have e : decide (depG f s (halfN n) cut + 1 = m + 1) = decide (depG f s (halfN n) cut = m) := decide_eq_decide.2 (by omega)
      rw [e]
      generalize decide (depG f s (halfN n) cut = m) = bk at *
      have hpg := refpair23_spec (d) (W.getD m []) hdg hxg
      have hsm := refsum_spec (pairL (d) (W.getD m [])) (pair_mem hdg hxg) (by rw [pair_len hdg hxg]; decide)
      have hsd : sumD (pairL (d) (W.getD m [])) = nodeL (d) (W.getD m []) := rfl
      rw [pair_len hdg hxg, hsd] at hsm
      have ej : (pairL (d) (W.getD m []) :: R).map bsl = AV.sl (.ints .u8 65 (pairL (d) (W.getD m []))) :: R.map bsl := by
        rw [List.map_cons]
        show AV.sl (.ints .u8 (List.length (pairL (d) (W.getD m []))) (pairL (d) (W.getD m []))) :: _ = _
        rw [pair_len hdg hxg]
      refine .inr ⟨by simp, ?_⟩
      rw [ej, List.length_cons]
      rcases hc with ⟨hR, hc⟩ | ⟨hR, hc⟩
      · subst hR
        rw [List.map_take] at hc
        refine fnN mix ((100015, []) :: (100018, []) :: pl49) 0 5 [.tmp 10, .cell 11 63, .tmp 12] Try.func49 rfl (by kernel_rfl) (by kernel_rfl) rfl (by kernel_rfl) (by kernel_rfl) (by simp) ?_
        simp (implicitDefEqProofs := false) (disch := omega) only [go_sem, ↓reduceIte, d1, ee]
        refine call0 (refhalf_spec n n (Nat.le_refl _) (by omega) h4) ?_
        simp (implicitDefEqProofs := false) (disch := omega) only [go_sem, ↓reduceIte, i1, ↓g0, ↓g2, ↓g3, hlm, d3, ee, em]
        refine call0 hc ?_
        simp (implicitDefEqProofs := false) (disch := omega) only [go_sem, ↓reduceIte]
        refine callF 1 hpg ?_
        simp (implicitDefEqProofs := false) (disch := omega) only [go_sem, ↓reduceIte]
        refine Sy.cut 1 [(11, .ref 0 []), (16, .nils), (18, .bool bk), (19, .sl (.ints .u8 65 (pairL (d) (W.getD m []))))] [(0, .var (.ints .u8 32 (List.replicate 32 0)))] [(0, 1)] [] [4] rfl ?_ ?_ ?_ ?_
        · simp (implicitDefEqProofs := false) (disch := omega) only [go_sem, ↓reduceIte]
        · simp (implicitDefEqProofs := false) (disch := omega) only [go_sem, ↓reduceIte]
        · simp (implicitDefEqProofs := false) (disch := omega) only [go_sem, ↓reduceIte]
        simp (implicitDefEqProofs := false) (disch := omega) only [go_sem, ↓reduceIte]
        refine call0 hsm ?_
        simp (implicitDefEqProofs := false) (disch := omega) only [go_sem, ↓reduceIte]
        refine ⟨[(0, 2)], [], [], rfl, ?_, ?_, ?_⟩ <;> simp (implicitDefEqProofs := false) (disch := omega) only [go_sem, ↓reduceIte, Nat.add_comm 1, List.singleton_append, List.cons_append, List.nil_append, List.map_nil, List.length_nil, Nat.zero_add]
      · rw [List.map_take] at hc
        have hRl : R.length ≤ 1000 := by omega
        have hRn : (R.map bsl).length = R.length := List.length_map ..
        refine fnN mix ((100015, []) :: (100018, []) :: pl49) 0 5 [.tmp 10, .cell 11 63, .tmp 12] Try.func49 rfl (by kernel_rfl) (by kernel_rfl) rfl (by kernel_rfl) (by kernel_rfl) (by simp) ?_
        simp (implicitDefEqProofs := false) (disch := omega) only [go_sem, ↓reduceIte, d1, ee]
        refine call0 (refhalf_spec n n (Nat.le_refl _) (by omega) h4) ?_
        simp (implicitDefEqProofs := false) (disch := omega) only [go_sem, ↓reduceIte, i1, ↓g0, ↓g2, ↓g3, hlm, d3, ee, em]
        refine callF 1 hc ?_
        simp (implicitDefEqProofs := false) (disch := omega) only [go_sem, ↓reduceIte]
        refine callF 1 hpg ?_
        simp (implicitDefEqProofs := false) (disch := omega) only [go_sem, ↓reduceIte]
        refine Sy.cut 2 [(11, .ref 0 []), (16, .osl 1 [] 1 0 R.length), (18, .bool bk), (19, .sl (.ints .u8 65 (pairL (d) (W.getD m []))))] [(0, .var (.ints .u8 32 (List.replicate 32 0))), (1, .row (.lst 1 R.length (R.map bsl)))] [(0, 1), (1, 3)] [] [5] rfl ?_ ?_ ?_ ?_
        · simp (implicitDefEqProofs := false) (disch := omega) only [go_sem, ↓reduceIte]
        · simp (implicitDefEqProofs := false) (disch := omega) only [go_sem, ↓reduceIte]
        · simp (implicitDefEqProofs := false) (disch := omega) only [go_sem, ↓reduceIte]
        simp (implicitDefEqProofs := false) (disch := omega) only [go_sem, ↓reduceIte]
        refine call0 hsm ?_
        simp (implicitDefEqProofs := false) (disch := omega) only [go_sem, ↓reduceIte]
        refine ⟨[(0, 3)], [], [], rfl, ?_, ?_, ?_⟩ <;> simp (implicitDefEqProofs := false) (disch := omega) only [go_sem, ↓reduceIte, Nat.add_comm 1, List.singleton_append, List.cons_append, List.nil_append]
    · have d3 : decide ((s : Int) ≤ (halfN n : Int)) = false := decide_eq_false (by omega)
      have i3 : (n : Int) - (halfN n : Int) = ((n - halfN n : Nat) : Int) := by omega
      have i4 : (s : Int) - (halfN n : Int) = ((s - halfN n : Nat) : Int) := by omega
      obtain ⟨d, R, hdg, hRl', hv, hc⟩ := ih (s - halfN n) (n - halfN n) true (W.take m) m (by omega) (by omega) (by omega) (by omega) (by omega) hlt (by omega) hgt
      refine ⟨nodeL (W.getD m []) d, pairL (W.getD m []) d :: R, nodeL_good _ _, by rw [List.length_cons]; omega, fun h => ?_, ?_⟩
      · rw [depG_hi f cut c1 c2] at h
        have hv := hv (by omega)
        rw [groV_congr a (W.take m) W f (s - halfN n) (n - halfN n) true (fun j hj => take_getD' (by omega)), growT_congr a (W.take m) W f (s - halfN n) (n - halfN n) true (fun j hj => take_getD' (by omega))] at hv
        rw [groV_hi _ _ f cut c1 c2, growT_hi _ _ f cut c1 c2, ← hv.1, ← hv.2, show depG f (s - halfN n) (n - halfN n) true = m by omega]
        exact ⟨rfl, rfl⟩
      rw [depG_hi f cut c1 c2]
      have e : decide (depG f (s - halfN n) (n - halfN n) true + 1 = m + 1) = decide (depG f (s - halfN n) (n - halfN n) true = m) := decide_eq_decide.2 (by omega)
      rw [e]
      generalize decide (depG f (s - halfN n) (n - halfN n) true = m) = bk at *
      have hpg := refpair23_spec (W.getD m []) (d) hxg hdg
      have hsm := refsum_spec (pairL (W.getD m []) (d)) (pair_mem hxg hdg) (by rw [pair_len hxg hdg]; decide)
      have hsd : sumD (pairL (W.getD m []) (d)) = nodeL (W.getD m []) (d) := rfl
      rw [pair_len hxg hdg, hsd] at hsm
      have ej : (pairL (W.getD m []) (d) :: R).map bsl = AV.sl (.ints .u8 65 (pairL (W.getD m []) (d))) :: R.map bsl := by
        rw [List.map_cons]
        show AV.sl (.ints .u8 (List.length (pairL (W.getD m []) (d))) (pairL (W.getD m []) (d))) :: _ = _
        rw [pair_len hxg hdg]
      refine .inr ⟨by simp, ?_⟩
      rw [ej, List.length_cons]
      rcases hc with ⟨hR, hc⟩ | ⟨hR, hc⟩
      · subst hR
        rw [List.map_take] at hc
        refine fnN mix ((100015, []) :: (100018, []) :: pl49) 0 5 [.tmp 10, .cell 11 63, .tmp 12] Try.func49 rfl (by kernel_rfl) (by kernel_rfl) rfl (by kernel_rfl) (by kernel_rfl) (by simp) ?_
        simp (implicitDefEqProofs := false) (disch := omega) only [go_sem, ↓reduceIte, d1, ee]
        refine call0 (refhalf_spec n n (Nat.le_refl _) (by omega) h4) ?_
        simp (implicitDefEqProofs := false) (disch := omega) only [go_sem, ↓reduceIte, i1, ↓g0, ↓g2, ↓g3, hlm, d3, ee, em, i3, i4]
        refine call0 hc ?_
        simp (implicitDefEqProofs := false) (disch := omega) only [go_sem, ↓reduceIte]
        refine callF 1 hpg ?_
        simp (implicitDefEqProofs := false) (disch := omega) only [go_sem, ↓reduceIte]
        refine Sy.cut 1 [(11, .ref 0 []), (20, .nils), (22, .bool bk), (23, .sl (.ints .u8 65 (pairL (W.getD m []) (d))))] [(0, .var (.ints .u8 32 (List.replicate 32 0)))] [(0, 1)] [] [4] rfl ?_ ?_ ?_ ?_
        · simp (implicitDefEqProofs := false) (disch := omega) only [go_sem, ↓reduceIte]
        · simp (implicitDefEqProofs := false) (disch := omega) only [go_sem, ↓reduceIte]
        · simp (implicitDefEqProofs := false) (disch := omega) only [go_sem, ↓reduceIte]
        simp (implicitDefEqProofs := false) (disch := omega) only [go_sem, ↓reduceIte]
        refine call0 hsm ?_
        simp (implicitDefEqProofs := false) (disch := omega) only [go_sem, ↓reduceIte]
        refine ⟨[(0, 2)], [], [], rfl, ?_, ?_, ?_⟩ <;> simp (implicitDefEqProofs := false) (disch := omega) only [go_sem, ↓reduceIte, Nat.add_comm 1, List.singleton_append, List.cons_append, List.nil_append, List.map_nil, List.length_nil, Nat.zero_add]
      · rw [List.map_take] at hc
        have hRl : R.length ≤ 1000 := by omega
        have hRn : (R.map bsl).length = R.length := List.length_map ..
        refine fnN mix ((100015, []) :: (100018, []) :: pl49) 0 5 [.tmp 10, .cell 11 63, .tmp 12] Try.func49 rfl (by kernel_rfl) (by kernel_rfl) rfl (by kernel_rfl) (by kernel_rfl) (by simp) ?_
        simp (implicitDefEqProofs := false) (disch := omega) only [go_sem, ↓reduceIte, d1, ee]
        refine call0 (refhalf_spec n n (Nat.le_refl _) (by omega) h4) ?_
        simp (implicitDefEqProofs := false) (disch := omega) only [go_sem, ↓reduceIte, i1, ↓g0, ↓g2, ↓g3, hlm, d3, ee, em, i3, i4]
        refine callF 1 hc ?_
        simp (implicitDefEqProofs := false) (disch := omega) only [go_sem, ↓reduceIte]
        refine callF 1 hpg ?_
        simp (implicitDefEqProofs := false) (disch := omega) only [go_sem, ↓reduceIte]
        refine Sy.cut 2 [(11, .ref 0 []), (20, .osl 1 [] 1 0 R.length), (22, .bool bk), (23, .sl (.ints .u8 65 (pairL (W.getD m []) (d))))] [(0, .var (.ints .u8 32 (List.replicate 32 0))), (1, .row (.lst 1 R.length (R.map bsl)))] [(0, 1), (1, 3)] [] [5] rfl ?_ ?_ ?_ ?_
        · simp (implicitDefEqProofs := false) (disch := omega) only [go_sem, ↓reduceIte]
        · simp (implicitDefEqProofs := false) (disch := omega) only [go_sem, ↓reduceIte]
        · simp (implicitDefEqProofs := false) (disch := omega) only [go_sem, ↓reduceIte]
        simp (implicitDefEqProofs := false) (disch := omega) only [go_sem, ↓reduceIte]
        refine call0 hsm ?_
        simp (implicitDefEqProofs := false) (disch := omega) only [go_sem, ↓reduceIte]
        refine ⟨[(0, 3)], [], [], rfl, ?_, ?_, ?_⟩ <;> simp (implicitDefEqProofs := false) (disch := omega) only [go_sem, ↓reduceIte, Nat.add_comm 1, List.singleton_append, List.cons_append, List.nil_append]
end Go.Proofs.Ytegbkbkcfcjkbaa
