/- The trails of a text and of a growing log, as the document tells them. -/
import Derived.Test.YtegbkbkcfcjkbaaExtr8
import Derived.Test.YtegbkbkcfcjkbaaExtr5
namespace Go.Proofs.Ytegbkbkcfcjkbaa
open Go Go.Sy Go.Proofs.Try
set_option maxRecDepth 100000
set_option maxHeartbeats 8000000
set_option linter.unusedSimpArgs false
set_option linter.unusedVariables false

theorem trailT_congr (x : List Int) (W W' : List (List Int)) : ∀ (f n i : Nat), (∀ j, j < depH f n i → W.getD j [] = W'.getD j []) → trailT x W f n i = trailT x W' f n i
  | 0, _, _, _ => rfl
  | f + 1, n, i, h => by
    by_cases c : n ≤ 1
    · rw [trailT, if_pos c, trailT, if_pos c]
    by_cases c2 : i < halfN n
    · rw [depH_lo f (by omega) c2] at h
      rw [trailT_lo _ _ f (by omega) c2, trailT_lo _ _ f (by omega) c2, trailT_congr x W W' f (halfN n) i (fun j hj => h j (by omega)), upV_congr x W W' f (halfN n) i (fun j hj => h j (by omega)), h (depH f (halfN n) i) (by omega)]
    · rw [depH_hi f (by omega) c2] at h
      rw [trailT_hi _ _ f (by omega) c2, trailT_hi _ _ f (by omega) c2, trailT_congr x W W' f (n - halfN n) (i - halfN n) (fun j hj => h j (by omega)), upV_congr x W W' f (n - halfN n) (i - halfN n) (fun j hj => h j (by omega)), h (depH f (n - halfN n) (i - halfN n)) (by omega)]
/-- The text at the top of a trail. -/
def topT (t : List Int) (W : List (List Int)) (f n i : Nat) : List Int := (trailT (leafL t) W f n i ++ [0 :: t]).getD 0 []
theorem topT_sum (t : List Int) (W : List (List Int)) : ∀ (f n i : Nat), sumD (topT t W f n i) = upV (leafL t) W f n i
  | 0, _, _ => rfl
  | f + 1, n, i => by
    unfold topT
    by_cases c : n ≤ 1
    · rw [trailT, if_pos c, upV, if_pos c]; rfl
    by_cases c2 : i < halfN n
    · rw [trailT_lo _ _ f (by omega) c2, upV_lo _ _ f (by omega) c2]; rfl
    · rw [trailT_hi _ _ f (by omega) c2, upV_hi _ _ f (by omega) c2]; rfl
theorem topT_get (t : List Int) (W : List (List Int)) (f n i : Nat) : (trailT (leafL t) W f n i ++ [0 :: t])[0]? = some (topT t W f n i) := by
  unfold topT
  rw [List.getD]
  cases h : (trailT (leafL t) W f n i ++ [0 :: t])[0]? with
  | some x => rfl
  | none =>
    rw [List.getElem?_eq_none_iff, List.length_append, List.length_singleton] at h
    omega
theorem depH_one1 (f : Nat) {i : Nat} (h : 1 ≤ f) : depH f 1 i = 0 := by
  obtain ⟨f, rfl⟩ : ∃ g, f = g + 1 := ⟨f - 1, by omega⟩
  rw [depH, if_pos (Nat.le_refl 1)]
section
variable (t : List Int) (k : Nat) (hk : t.length = k) (ht : ∀ x ∈ t, 0 ≤ x ∧ x < 256) (hkl : k ≤ 100000)
include ht hk hkl in
theorem topT_mem {W : List (List Int)} (hW : ∀ d ∈ W, goodD d) (f n i : Nat) (h : depH f n i ≤ W.length) : (topT t W f n i).length ≤ 200000 ∧ ∀ x ∈ topT t W f n i, 0 ≤ x ∧ x < 256 := by
  have hm := topT_get t W f n i
  have : topT t W f n i ∈ trailT (leafL t) W f n i ++ [0 :: t] := List.mem_of_getElem? hm
  rcases List.mem_append.1 this with h1 | h1
  · have := trailT_mem (leafL_good t) hW f n i h _ h1
    exact ⟨by omega, this.2⟩
  · rw [List.mem_singleton] at h1
    rw [h1]
    exact ⟨by rw [List.length_cons]; omega, byte_cons (by decide) ht⟩
include hk hkl in
theorem text1_spec (W : List (List Int)) (m i : Nat) (hW : W.length = m) (hm : m ≤ 1000000) : FnC Try.prog 48 [.int .i64 1, .int .i64 i, .sl (.ints .u8 k t), .sl (.lst 32 m (W.map dg))] [] (.tup [.osl 0 [] 1 0 1, .bool (decide (m = 0))]) [(0, .row (.lst 1 1 [bsl (0 :: t)]))] := by
  have e : decide (m = 0) = decide ((m : Int) = 0) := decide_eq_decide.2 (by omega)
  have eb : bsl (0 :: t) = .sl (.ints .u8 (1 + k) (0 :: t)) := by
    show AV.sl (.ints .u8 (List.length (0 :: t)) (0 :: t)) = _
    rw [List.length_cons, hk, Nat.add_comm k 1]
  rw [e, eb]
  refine fnN mix [] 0 4 [.tmp 8, .tmp 9] Try.func48 rfl (by kernel_rfl) (by kernel_rfl) rfl (by kernel_rfl) (by kernel_rfl) (by simp) ?_
  simp (implicitDefEqProofs := false) (disch := omega) only [go_sem, ↓reduceIte]
  refine ⟨[(0, 2)], [], [1], rfl, ?_, ?_, ?_⟩ <;> simp (implicitDefEqProofs := false) (disch := omega) only [go_sem, ↓reduceIte, List.singleton_append]
include hk hkl in
theorem reftext_bad : ∀ (f n i : Nat) (W : List (List Int)) (m : Nat), n ≤ f → 2 ≤ n → n ≤ 1000 → i < n → W.length = m → m ≤ 1000000 → (∀ d ∈ W, goodD d) → depH f n i ≠ m →
    FnC Try.prog 48 [.int .i64 n, .int .i64 i, .sl (.ints .u8 k t), .sl (.lst 32 m (W.map dg))] [] (.tup [.nils, .bool false]) [] := by
  intro f
  induction f with
  | zero => intro n i W m h1 h2; omega
  | succ f ih =>
    intro n i W m h1 h2 h3 h4 hW hm hg hd
    have hkn := halfN_lt h2
    have d1 : decide ((n : Int) = 1) = false := decide_eq_false (by omega)
    obtain _ | m := m
    · refine fn0 mix [] 0 4 [.tmp 8, .tmp 9] Try.func48 rfl (by kernel_rfl) (by kernel_rfl) rfl (by kernel_rfl) (by kernel_rfl) (by simp) ?_
      simp (implicitDefEqProofs := false) (disch := omega) only [go_sem, ↓reduceIte, d1]
    have hxg := getD_good hg (show m < W.length by omega)
    have g0 := fun K => getDm hW K
    have i1 : (m : Int) + 1 - 1 = m := by omega
    have i2 : (m : Int).toNat = m := Int.toNat_natCast m
    have g2 : ∀ K, getP (W.map dg) (m : Int).toNat K = K (.ints .u8 32 (W.getD m [])) := fun K => by rw [i2, g0]
    have g3 : ∀ K, getP (W.map dg) ((m : Int) + 1 - 1).toNat K = K (.ints .u8 32 (W.getD m [])) := fun K => by rw [i1, g2]
    have hlm : (W.map dg).length = m + 1 := by rw [List.length_map, hW]
    have hlt : (W.take m).length = m := by rw [List.length_take]; omega
    have hgt : ∀ d ∈ W.take m, goodD d := fun d h => hg d (List.mem_of_mem_take h)
    have ee : decide ((m : Int) + 1 = 0) = false := decide_eq_false (by omega)
    have em : ¬ m = m + 1 := by omega
    by_cases c2 : i < halfN n
    · have d3 : decide ((halfN n : Int) ≤ (i : Int)) = false := decide_eq_false (by omega)
      rw [depH_lo f h2 c2] at hd
      by_cases c3 : halfN n = 1
      · rw [c3, depH_one1 f (by omega)] at hd
        have hc : FnC Try.prog 48 [.int .i64 (halfN n : Nat), .int .i64 i, .sl (.ints .u8 k t), .sl (.lst 32 m ((W.map dg).take m))] [] (.tup [.osl 0 [] 1 0 1, .bool false]) [(0, .row (.lst 1 1 [bsl (0 :: t)]))] := by
          have hc := text1_spec t k hk hkl (W.take m) m i hlt (by omega)
          rw [show decide (m = 0) = false from decide_eq_false (by omega), List.map_take] at hc
          rw [c3]
          exact hc
        refine fn0 mix [] 0 4 [.tmp 8, .tmp 9] Try.func48 rfl (by kernel_rfl) (by kernel_rfl) rfl (by kernel_rfl) (by kernel_rfl) (by simp) ?_
        simp (implicitDefEqProofs := false) (disch := omega) only [go_sem, ↓reduceIte, d1, ee]
        refine call0 (refhalf_spec n n (Nat.le_refl _) (by omega) h3) ?_
        simp (implicitDefEqProofs := false) (disch := omega) only [go_sem, ↓reduceIte, i1, ↓g0, ↓g2, ↓g3, hlm, d3, ee, em]
        refine callF 1 hc ?_
        simp (implicitDefEqProofs := false) (disch := omega) only [go_sem, ↓reduceIte]
      · have hc := ih (halfN n) i (W.take m) m (by omega) (by omega) (by omega) c2 hlt (by omega) hgt (by omega)
        rw [List.map_take] at hc
        refine fn0 mix [] 0 4 [.tmp 8, .tmp 9] Try.func48 rfl (by kernel_rfl) (by kernel_rfl) rfl (by kernel_rfl) (by kernel_rfl) (by simp) ?_
        simp (implicitDefEqProofs := false) (disch := omega) only [go_sem, ↓reduceIte, d1, ee]
        refine call0 (refhalf_spec n n (Nat.le_refl _) (by omega) h3) ?_
        simp (implicitDefEqProofs := false) (disch := omega) only [go_sem, ↓reduceIte, i1, ↓g0, ↓g2, ↓g3, hlm, d3, ee, em]
        refine call0 hc ?_
        simp (implicitDefEqProofs := false) (disch := omega) only [go_sem, ↓reduceIte]
    · have d3 : decide ((halfN n : Int) ≤ (i : Int)) = true := decide_eq_true (by omega)
      have i3 : (n : Int) - (halfN n : Int) = ((n - halfN n : Nat) : Int) := by omega
      have i4 : (i : Int) - (halfN n : Int) = ((i - halfN n : Nat) : Int) := by omega
      rw [depH_hi f h2 c2] at hd
      by_cases c3 : n - halfN n = 1
      · rw [c3, depH_one1 f (by omega)] at hd
        have hc : FnC Try.prog 48 [.int .i64 (n - halfN n : Nat), .int .i64 (i - halfN n : Nat), .sl (.ints .u8 k t), .sl (.lst 32 m ((W.map dg).take m))] [] (.tup [.osl 0 [] 1 0 1, .bool false]) [(0, .row (.lst 1 1 [bsl (0 :: t)]))] := by
          have hc := text1_spec t k hk hkl (W.take m) m (i - halfN n) hlt (by omega)
          rw [show decide (m = 0) = false from decide_eq_false (by omega), List.map_take] at hc
          rw [c3]
          exact hc
        refine fn0 mix [] 0 4 [.tmp 8, .tmp 9] Try.func48 rfl (by kernel_rfl) (by kernel_rfl) rfl (by kernel_rfl) (by kernel_rfl) (by simp) ?_
        simp (implicitDefEqProofs := false) (disch := omega) only [go_sem, ↓reduceIte, d1, ee]
        refine call0 (refhalf_spec n n (Nat.le_refl _) (by omega) h3) ?_
        simp (implicitDefEqProofs := false) (disch := omega) only [go_sem, ↓reduceIte, i1, ↓g0, ↓g2, ↓g3, hlm, d3, ee, em, i3, i4]
        refine callF 1 hc ?_
        simp (implicitDefEqProofs := false) (disch := omega) only [go_sem, ↓reduceIte]
      · have hc := ih (n - halfN n) (i - halfN n) (W.take m) m (by omega) (by omega) (by omega) (by omega) hlt (by omega) hgt (by omega)
        rw [List.map_take] at hc
        refine fn0 mix [] 0 4 [.tmp 8, .tmp 9] Try.func48 rfl (by kernel_rfl) (by kernel_rfl) rfl (by kernel_rfl) (by kernel_rfl) (by simp) ?_
        simp (implicitDefEqProofs := false) (disch := omega) only [go_sem, ↓reduceIte, d1, ee]
        refine call0 (refhalf_spec n n (Nat.le_refl _) (by omega) h3) ?_
        simp (implicitDefEqProofs := false) (disch := omega) only [go_sem, ↓reduceIte, i1, ↓g0, ↓g2, ↓g3, hlm, d3, ee, em, i3, i4]
        refine call0 hc ?_
        simp (implicitDefEqProofs := false) (disch := omega) only [go_sem, ↓reduceIte]
include hk ht hkl in
theorem reftext_ok : ∀ (f n i : Nat) (W : List (List Int)) (m : Nat), n ≤ f → 1 ≤ n → n ≤ 1000 → i < n → W.length = m → m ≤ 1000000 → (∀ d ∈ W, goodD d) → depH f n i = m →
    FnC Try.prog 48 [.int .i64 n, .int .i64 i, .sl (.ints .u8 k t), .sl (.lst 32 m (W.map dg))] [] (.tup [.osl 0 [] 1 0 (m + 1), .bool true]) [(0, .row (.lst 1 (m + 1) ((trailT (leafL t) W f n i ++ [0 :: t]).map bsl)))] := by
  intro f
  induction f with
  | zero => intro n i W m h1 h2; omega
  | succ f ih =>
    intro n i W m h1 h2 h3 h4 hW hm hg hd
    by_cases c1 : n = 1
    · subst c1
      rw [depH_one] at hd
      subst hd
      have h := text1_spec t k hk hkl W 0 i hW hm
      rw [trailT_one]
      exact h
    have h2 : 2 ≤ n := by omega
    have hkn := halfN_lt h2
    have d1 : decide ((n : Int) = 1) = false := decide_eq_false (by omega)
    obtain _ | m := m
    · exfalso
      by_cases c2 : i < halfN n
      · rw [depH_lo f h2 c2] at hd; omega
      · rw [depH_hi f h2 c2] at hd; omega
    have hxg := getD_good hg (show m < W.length by omega)
    have g0 := fun K => getDm hW K
    have i1 : (m : Int) + 1 - 1 = m := by omega
    have i2 : (m : Int).toNat = m := Int.toNat_natCast m
    have g2 : ∀ K, getP (W.map dg) (m : Int).toNat K = K (.ints .u8 32 (W.getD m [])) := fun K => by rw [i2, g0]
    have g3 : ∀ K, getP (W.map dg) ((m : Int) + 1 - 1).toNat K = K (.ints .u8 32 (W.getD m [])) := fun K => by rw [i1, g2]
    have hlm : (W.map dg).length = m + 1 := by rw [List.length_map, hW]
    have hlt : (W.take m).length = m := by rw [List.length_take]; omega
    have hgt : ∀ d ∈ W.take m, goodD d := fun d h => hg d (List.mem_of_mem_take h)
    have ee : decide ((m : Int) + 1 = 0) = false := decide_eq_false (by omega)
    have em : ¬ m = m + 1 := by omega
    by_cases c2 : i < halfN n
    · have d3 : decide ((halfN n : Int) ≤ (i : Int)) = false := decide_eq_false (by omega)
      rw [depH_lo f h2 c2] at hd
      have hc := ih (halfN n) i (W.take m) m (by omega) (by omega) (by omega) c2 hlt (by omega) hgt (by omega)
      rw [List.map_take, trailT_congr (leafL t) (W.take m) W f (halfN n) i (fun j hj => take_getD' (by omega))] at hc
      rw [trailT_lo _ _ f h2 c2, List.cons_append, show depH f (halfN n) i = m by omega]
      have hTt := topT_mem t k hk ht hkl hg f (halfN n) i (by omega)
      have hsm := refsum_spec (topT t W f (halfN n) (i)) hTt.2 (by omega)
      have gB : ∀ K, getP ((trailT (leafL t) W f (halfN n) (i) ++ [0 :: t]).map bsl) 0 K = K (.sl (.ints .u8 (topT t W f (halfN n) (i)).length (topT t W f (halfN n) (i)))) := fun K => getP_map (f := bsl) (topT_get t W f (halfN n) (i)) K
      have lB : ((trailT (leafL t) W f (halfN n) (i) ++ [0 :: t]).map bsl).length = m + 1 := by rw [List.length_map, List.length_append, trailT_len, List.length_singleton]; omega
      have hsu := topT_sum t W f (halfN n) (i)
      rw [hsu] at hsm
      have gS : goodD (upV (leafL t) W f (halfN n) (i)) := by rw [← hsu]; exact sumD_good _
      have em2 : m + 1 + 1 = m + 2 := rfl
      generalize trailT (leafL t) W f (halfN n) (i) ++ [0 :: t] = R at *
      generalize upV (leafL t) W f (halfN n) (i) = U at *
      generalize topT t W f (halfN n) (i) = TT at *
      have ej : (pairL (U) (W.getD m []) :: R).map bsl = AV.sl (.ints .u8 65 (pairL (U) (W.getD m []))) :: R.map bsl := by
        rw [List.map_cons]
        show AV.sl (.ints .u8 (List.length (pairL (U) (W.getD m []))) (pairL (U) (W.getD m []))) :: _ = _
        rw [pair_len gS hxg]
      rw [ej]
      refine fnN mix ((100020, []) :: []) 0 4 [.tmp 8, .tmp 9] Try.func48 rfl (by kernel_rfl) (by kernel_rfl) rfl (by kernel_rfl) (by kernel_rfl) (by simp) ?_
      simp (implicitDefEqProofs := false) (disch := omega) only [go_sem, ↓reduceIte, d1, ee]
      refine call0 (refhalf_spec n n (Nat.le_refl _) (by omega) h3) ?_
      simp (implicitDefEqProofs := false) (disch := omega) only [go_sem, ↓reduceIte, i1, ↓g0, ↓g2, ↓g3, hlm, d3, ee, em]
      refine callF 1 hc ?_
      simp (implicitDefEqProofs := false) (disch := omega) only [go_sem, ↓reduceIte, ↓gB, lB]
      refine call0 hsm ?_
      simp (implicitDefEqProofs := false) (disch := omega) only [go_sem, ↓reduceIte]
      refine callF 1 (refpair23_spec _ _ gS hxg) ?_
      simp (implicitDefEqProofs := false) (disch := omega) only [go_sem, ↓reduceIte, d3]
      skip
      skip
      refine cut 1 [(15, .osl 0 [] 1 0 (m + 1)), (18, .sl (.ints .u8 65 (pairL (U) (W.getD m []))))] [(0, .row (.lst 1 (m + 1) (R.map bsl)))] [(0, 1)] [] [3] rfl ?_ ?_ ?_ ?_
      · simp (implicitDefEqProofs := false) (disch := omega) only [go_sem, ↓reduceIte]
      · simp (implicitDefEqProofs := false) (disch := omega) only [go_sem, ↓reduceIte]
      · simp (implicitDefEqProofs := false) (disch := omega) only [go_sem, ↓reduceIte]
      simp (implicitDefEqProofs := false) (disch := omega) only [go_sem, ↓reduceIte]
      refine ⟨[(0, 2)], [], [], rfl, ?_, ?_, ?_⟩ <;> simp (implicitDefEqProofs := false) (disch := omega) only [go_sem, ↓reduceIte, Nat.add_comm 1, List.singleton_append, List.cons_append, List.nil_append]
    · have d3 : decide ((halfN n : Int) ≤ (i : Int)) = true := decide_eq_true (by omega)
      have i3 : (n : Int) - (halfN n : Int) = ((n - halfN n : Nat) : Int) := by omega
      have i4 : (i : Int) - (halfN n : Int) = ((i - halfN n : Nat) : Int) := by omega
      rw [depH_hi f h2 c2] at hd
      have hc := ih (n - halfN n) (i - halfN n) (W.take m) m (by omega) (by omega) (by omega) (by omega) hlt (by omega) hgt (by omega)
      rw [List.map_take, trailT_congr (leafL t) (W.take m) W f (n - halfN n) (i - halfN n) (fun j hj => take_getD' (by omega))] at hc
      rw [trailT_hi _ _ f h2 c2, List.cons_append, show depH f (n - halfN n) (i - halfN n) = m by omega]
      have hTt := topT_mem t k hk ht hkl hg f (n - halfN n) (i - halfN n) (by omega)
      have hsm := refsum_spec (topT t W f (n - halfN n) (i - halfN n)) hTt.2 (by omega)
      have gB : ∀ K, getP ((trailT (leafL t) W f (n - halfN n) (i - halfN n) ++ [0 :: t]).map bsl) 0 K = K (.sl (.ints .u8 (topT t W f (n - halfN n) (i - halfN n)).length (topT t W f (n - halfN n) (i - halfN n)))) := fun K => getP_map (f := bsl) (topT_get t W f (n - halfN n) (i - halfN n)) K
      have lB : ((trailT (leafL t) W f (n - halfN n) (i - halfN n) ++ [0 :: t]).map bsl).length = m + 1 := by rw [List.length_map, List.length_append, trailT_len, List.length_singleton]; omega
      have hsu := topT_sum t W f (n - halfN n) (i - halfN n)
      rw [hsu] at hsm
      have gS : goodD (upV (leafL t) W f (n - halfN n) (i - halfN n)) := by rw [← hsu]; exact sumD_good _
      have em2 : m + 1 + 1 = m + 2 := rfl
      generalize trailT (leafL t) W f (n - halfN n) (i - halfN n) ++ [0 :: t] = R at *
      generalize upV (leafL t) W f (n - halfN n) (i - halfN n) = U at *
      generalize topT t W f (n - halfN n) (i - halfN n) = TT at *
      have ej : (pairL (W.getD m []) (U) :: R).map bsl = AV.sl (.ints .u8 65 (pairL (W.getD m []) (U))) :: R.map bsl := by
        rw [List.map_cons]
        show AV.sl (.ints .u8 (List.length (pairL (W.getD m []) (U))) (pairL (W.getD m []) (U))) :: _ = _
        rw [pair_len hxg gS]
      rw [ej]
      refine fnN mix ((100020, []) :: []) 0 4 [.tmp 8, .tmp 9] Try.func48 rfl (by kernel_rfl) (by kernel_rfl) rfl (by kernel_rfl) (by kernel_rfl) (by simp) ?_
      simp (implicitDefEqProofs := false) (disch := omega) only [go_sem, ↓reduceIte, d1, ee]
      refine call0 (refhalf_spec n n (Nat.le_refl _) (by omega) h3) ?_
      simp (implicitDefEqProofs := false) (disch := omega) only [go_sem, ↓reduceIte, i1, ↓g0, ↓g2, ↓g3, hlm, d3, ee, em, i3, i4]
      refine callF 1 hc ?_
      simp (implicitDefEqProofs := false) (disch := omega) only [go_sem, ↓reduceIte, ↓gB, lB]
      refine call0 hsm ?_
      simp (implicitDefEqProofs := false) (disch := omega) only [go_sem, ↓reduceIte]
      refine callF 1 (refpair23_spec _ _ gS hxg) ?_
      simp (implicitDefEqProofs := false) (disch := omega) only [go_sem, ↓reduceIte, d3]
      refine callF 1 (refpair23_spec _ _ hxg gS) ?_
      simp (implicitDefEqProofs := false) (disch := omega) only [go_sem, ↓reduceIte]
      refine cut 1 [(15, .osl 0 [] 1 0 (m + 1)), (18, .sl (.ints .u8 65 (pairL (W.getD m []) (U))))] [(0, .row (.lst 1 (m + 1) (R.map bsl)))] [(0, 1)] [] [4] rfl ?_ ?_ ?_ ?_
      · simp (implicitDefEqProofs := false) (disch := omega) only [go_sem, ↓reduceIte]
      · simp (implicitDefEqProofs := false) (disch := omega) only [go_sem, ↓reduceIte]
      · simp (implicitDefEqProofs := false) (disch := omega) only [go_sem, ↓reduceIte]
      simp (implicitDefEqProofs := false) (disch := omega) only [go_sem, ↓reduceIte]
      refine ⟨[(0, 2)], [], [], rfl, ?_, ?_, ?_⟩ <;> simp (implicitDefEqProofs := false) (disch := omega) only [go_sem, ↓reduceIte, Nat.add_comm 1, List.singleton_append, List.cons_append, List.nil_append]
end
end Go.Proofs.Ytegbkbkcfcjkbaa
