/- log.Grows; planchetref19.Both and Grows. -/
import Derived.Test.YthhlielliopegaaGreatLog6
namespace Go.Proofs.YthhlielliopegaaGreat
open Go Go.Sy Go.Proofs.Tryz
set_option maxRecDepth 100000
set_option maxHeartbeats 8000000
set_option linter.unusedSimpArgs false
set_option linter.unusedVariables false
attribute [go_sem] pl43
def growsP (a : List Int) (m : Int) (b : List Int) (n : Int) (W : List (List Int)) : Prop := 1 ≤ m ∧ m ≤ n ∧ n ≤ 200 ∧ depG n.toNat m.toNat n.toNat false = W.length ∧ groV a W n.toNat m.toNat n.toNat false = (a, b)
instance (a : List Int) (m : Int) (b : List Int) (n : Int) (W : List (List Int)) : Decidable (growsP a m b n W) := by unfold growsP; infer_instance
theorem grows_spec (a b : List Int) (m n : Int) (W : List (List Int)) (L : Nat) (ha : goodD a) (hb : goodD b) (hW : W.length = L) (hL : L ≤ 1000000) (hg : ∀ d ∈ W, goodD d) :
    FnC Tryz.prog 47 [.ints .u8 32 a, .int .i64 m, .ints .u8 32 b, .int .i64 n, .sl (.lst 32 L (W.map dg))] [] (.bool (decide (growsP a m b n W))) [] := by
  refine fn0 mix [] 0 5 [.tmp 10] Tryz.func47 rfl (by kernel_rfl) (by kernel_rfl) rfl (by kernel_rfl) (by kernel_rfl) (by simp) ?_
  simp (implicitDefEqProofs := false) (disch := omega) only [go_sem, ↓reduceIte]
  refine brd (fun h => ?_) (fun h1 => ?_)
  · have h := h
    have e : decide (growsP a m b n W) = false := decide_eq_false (fun h => by unfold growsP at h; omega)
    rw [e]
    simp (implicitDefEqProofs := false) (disch := omega) only [go_sem, ↓reduceIte]
  simp (implicitDefEqProofs := false) (disch := omega) only [go_sem, ↓reduceIte]
  refine brd (fun h => ?_) (fun h2 => ?_)
  · have h := h
    have e : decide (growsP a m b n W) = false := decide_eq_false (fun h => by unfold growsP at h; omega)
    rw [e]
    simp (implicitDefEqProofs := false) (disch := omega) only [go_sem, ↓reduceIte]
  simp (implicitDefEqProofs := false) (disch := omega) only [go_sem, ↓reduceIte]
  refine brd (fun h => ?_) (fun h3 => ?_)
  · have h := h
    have e : decide (growsP a m b n W) = false := decide_eq_false (fun h => by unfold growsP at h; omega)
    rw [e]
    simp (implicitDefEqProofs := false) (disch := omega) only [go_sem, ↓reduceIte]
  obtain ⟨M, rfl⟩ := Int.eq_ofNat_of_zero_le (show 0 ≤ m by omega)
  obtain ⟨N, rfl⟩ := Int.eq_ofNat_of_zero_le (show 0 ≤ n by omega)
  obtain ⟨o, w, ho, hw, hv, hc⟩ := gup_spec a ha W L hW hL hg N M N false (Nat.le_refl _) (by omega) (by omega) (by omega)
  have e : decide (growsP a M b N W) = decide (depG N M N false = L ∧ groV a W N M N false = (a, b)) := by
    apply decide_eq_decide.2
    unfold growsP
    rw [Int.toNat_natCast, Int.toNat_natCast, hW]
    constructor
    · intro h; exact ⟨h.2.2.2.1, h.2.2.2.2⟩
    · intro h; exact ⟨by omega, by omega, by omega, h.1, h.2⟩
  rw [e]
  generalize depG N M N false = D at *
  generalize groV a W N M N false = V at *
  simp (implicitDefEqProofs := false) (disch := omega) only [go_sem, ↓reduceIte]
  refine callG false [(0, 0), (1, 3), (2, 4), (3, 2)] [(0, 0), (1, 3), (2, 4), (3, 2)] 5 hc ?_ ?_
  · simp [keys]
  by_cases c1 : D ≤ L
  · rw [decide_eq_true c1]
    by_cases c2 : D = L
    · subst c2
      have hv := hv (Nat.le_refl _)
      have e2 : decide (D = D ∧ V = (a, b)) = (decide (o = a) && decide (w = b)) := by
        rw [← hv]; simp
      rw [Nat.sub_self, e2]
      simp (implicitDefEqProofs := false) (disch := omega) only [go_sem, ↓reduceIte]
      by_cases c3 : o = a
      · have e3 : decide (o = a) = true := decide_eq_true c3
        simp (implicitDefEqProofs := false) (disch := omega) only [go_sem, ↓reduceIte, e3]
      · have e3 : decide (o = a) = false := decide_eq_false c3
        simp (implicitDefEqProofs := false) (disch := omega) only [go_sem, ↓reduceIte, e3]
    · have e2 : decide (D = L ∧ V = (a, b)) = false := decide_eq_false (fun h => c2 h.1)
      rw [e2]
      have e3 : decide (((L - D : Nat) : Int) = 0) = false := decide_eq_false (by omega)
      have e4 : ¬ L - D = 0 := by omega
      simp (implicitDefEqProofs := false) (disch := omega) only [go_sem, ↓reduceIte, e3, e4]
  · rw [decide_eq_false c1]
    have e2 : decide (D = L ∧ V = (a, b)) = false := decide_eq_false (fun h => c1 (by omega))
    rw [e2]
    simp (implicitDefEqProofs := false) (disch := omega) only [go_sem, ↓reduceIte]
theorem groV_congr (a : List Int) (W W' : List (List Int)) : ∀ (f m n : Nat) (cut : Bool), (∀ j, j < depG f m n cut → W.getD j [] = W'.getD j []) → groV a W f m n cut = groV a W' f m n cut
  | 0, _, _, _, _ => rfl
  | f + 1, m, n, cut, h => by
    by_cases c : m = n
    · subst c
      rw [depG_eq] at h
      rw [groV_eq, groV_eq]
      cases cut
      · rfl
      · rw [if_pos rfl, if_pos rfl, h 0 (by rw [if_pos rfl]; decide)]
    by_cases c2 : m ≤ halfN n
    · rw [depG_lo f cut c c2] at h
      rw [groV_lo a W f cut c c2, groV_lo a W' f cut c c2, groV_congr a W W' f m (halfN n) cut (fun j hj => h j (by omega)), h (depG f m (halfN n) cut) (by omega)]
    · rw [depG_hi f cut c c2] at h
      rw [groV_hi a W f cut c c2, groV_hi a W' f cut c c2, groV_congr a W W' f (m - halfN n) (n - halfN n) true (fun j hj => h j (by omega)), h (depG f (m - halfN n) (n - halfN n) true) (by omega)]
theorem refboth_spec19 (a : List Int) (ha : goodD a) : ∀ (f s n : Nat) (cut : Bool) (W : List (List Int)) (m : Nat), n ≤ f → 1 ≤ s → s ≤ n → n ≤ 1000 → W.length = m → m ≤ 1000000 → (∀ d ∈ W, goodD d) →
    ∃ o w, goodD o ∧ goodD w ∧ (depG f s n cut = m → (o, w) = groV a W f s n cut) ∧ FnC Tryz.prog 43 [.ints .u8 32 a, .int .i64 s, .int .i64 n, .bool cut, .sl (.lst 32 m (W.map dg))] [] (.tup [.ints .u8 32 o, .ints .u8 32 w, .bool (decide (depG f s n cut = m))]) [] := by
  intro f
  induction f with
  | zero => intro s n cut W m h1 h2 h3; omega
  | succ f ih =>
    intro s n cut W m h1 h2 h3 h4 hW hm hg
    by_cases c1 : s = n
    · subst c1
      rw [depG_eq, groV_eq]
      cases cut
      · refine ⟨a, a, ha, ha, fun _ => rfl, ?_⟩
        rw [if_neg (by decide)]
        have e : decide (0 = m) = decide ((m : Int) = 0) := decide_eq_decide.2 (by omega)
        rw [e]
        refine fn0 mix pl43 0 5 [.cell 10 23, .cell 11 23, .tmp 12] Tryz.func43 rfl (by kernel_rfl) (by kernel_rfl) rfl (by kernel_rfl) (by kernel_rfl) (by simp) ?_
        simp (implicitDefEqProofs := false) (disch := omega) only [go_sem, ↓reduceIte]
      · rw [if_pos rfl, if_pos rfl]
        by_cases c2 : m = 1
        · subst c2
          obtain ⟨x, rfl⟩ := List.length_eq_one_iff.1 hW
          have hxg := hg x (List.mem_cons_self ..)
          refine ⟨x, x, hxg, hxg, fun _ => rfl, ?_⟩
          refine fn0 mix pl43 0 5 [.cell 10 23, .cell 11 23, .tmp 12] Tryz.func43 rfl (by kernel_rfl) (by kernel_rfl) rfl (by kernel_rfl) (by kernel_rfl) (by simp) ?_
          simp (implicitDefEqProofs := false) (disch := omega) only [go_sem, ↓reduceIte, List.map_cons, List.map_nil, dg]
        · refine ⟨a, a, ha, ha, fun h => absurd h.symm c2, ?_⟩
          have e : decide (1 = m) = false := decide_eq_false (fun h => c2 h.symm)
          have e2 : decide ((m : Int) = 1) = false := decide_eq_false (by omega)
          rw [e]
          refine fn0 mix pl43 0 5 [.cell 10 23, .cell 11 23, .tmp 12] Tryz.func43 rfl (by kernel_rfl) (by kernel_rfl) rfl (by kernel_rfl) (by kernel_rfl) (by simp) ?_
          simp (implicitDefEqProofs := false) (disch := omega) only [go_sem, ↓reduceIte, e2]
    have hk := halfN_lt (show 2 ≤ n by omega)
    have d1 : decide ((s : Int) = (n : Int)) = false := decide_eq_false (by omega)
    obtain _ | m := m
    · refine ⟨a, a, ha, ha, fun h => ?_, ?_⟩
      · by_cases c2 : s ≤ halfN n
        · rw [depG_lo f cut c1 c2] at h; omega
        · rw [depG_hi f cut c1 c2] at h; omega
      have e : decide (depG (f + 1) s n cut = 0) = false := decide_eq_false (by
        by_cases c2 : s ≤ halfN n
        · rw [depG_lo f cut c1 c2]; omega
        · rw [depG_hi f cut c1 c2]; omega)
      rw [e]
      refine fn0 mix pl43 0 5 [.cell 10 23, .cell 11 23, .tmp 12] Tryz.func43 rfl (by kernel_rfl) (by kernel_rfl) rfl (by kernel_rfl) (by kernel_rfl) (by simp) ?_
      simp (implicitDefEqProofs := false) (disch := omega) only [go_sem, ↓reduceIte, d1]
    have hxg := getD_good hg (show m < W.length by omega)
    have g0 := fun K => getDm hW K
    have i1 : (m : Int) + 1 - 1 = m := by omega
    have i2 : (m : Int).toNat = m := Int.toNat_natCast m
    have g2 : ∀ K, getP (W.map dg) (m : Int).toNat K = K (.ints .u8 32 (W.getD m [])) := fun K => by rw [i2, g0]
    have g3 : ∀ K, getP (W.map dg) ((m : Int) + 1 - 1).toNat K = K (.ints .u8 32 (W.getD m [])) := fun K => by rw [i1, g2]
    have hlm : (W.map dg).length = m + 1 := by rw [List.length_map, hW]
    have hlt : (W.take m).length = m := by rw [List.length_take]; omega
    have hgt : ∀ d ∈ W.take m, goodD d := fun d h => hg d (List.mem_of_mem_take h)
    have ee : decide ((m : Int) + 1 = 0) = false := decide_eq_false (by omega)
    have em : ¬ m = m + 1 := by omega
    by_cases c2 : s ≤ halfN n
    · have d3 : decide ((s : Int) ≤ (halfN n : Int)) = true := decide_eq_true (by omega)
      obtain ⟨o, w, ho, hw, hv, hc⟩ := ih s (halfN n) cut (W.take m) m (by omega) (by omega) c2 (by omega) hlt (by omega) hgt
      refine ⟨o, nodeL w (W.getD m []), ho, nodeL_good _ _, fun h => ?_, ?_⟩
      · rw [depG_lo f cut c1 c2] at h
        have hv := hv (by omega)
        rw [groV_congr a (W.take m) W f s (halfN n) cut (fun j hj => take_getD' (by omega))] at hv
        rw [groV_lo _ _ f cut c1 c2, ← hv, show depG f s (halfN n) cut = m by omega]
      rw [depG_lo f cut c1 c2]
      have e : decide (depG f s (halfN n) cut + 1 = m + 1) = decide (depG f s (halfN n) cut = m) := decide_eq_decide.2 (by omega)
      rw [e]
      rw [List.map_take] at hc
      refine fn0 mix pl43 0 5 [.cell 10 23, .cell 11 23, .tmp 12] Tryz.func43 rfl (by kernel_rfl) (by kernel_rfl) rfl (by kernel_rfl) (by kernel_rfl) (by simp) ?_
      simp (implicitDefEqProofs := false) (disch := omega) only [go_sem, ↓reduceIte, d1, ee]
      refine call0 (refhalf_spec n n (Nat.le_refl _) (by omega) h4) ?_
      simp (implicitDefEqProofs := false) (disch := omega) only [go_sem, ↓reduceIte, i1, ↓g0, ↓g2, ↓g3, hlm, d3, ee, em]
      refine call0 hc ?_
      simp (implicitDefEqProofs := false) (disch := omega) only [go_sem, ↓reduceIte]
      refine call0 (refnode_spec17 _ _ hw hxg) ?_
      simp (implicitDefEqProofs := false) (disch := omega) only [go_sem, ↓reduceIte]
    · have d3 : decide ((s : Int) ≤ (halfN n : Int)) = false := decide_eq_false (by omega)
      have i3 : (n : Int) - (halfN n : Int) = ((n - halfN n : Nat) : Int) := by omega
      have i4 : (s : Int) - (halfN n : Int) = ((s - halfN n : Nat) : Int) := by omega
      obtain ⟨o, w, ho, hw, hv, hc⟩ := ih (s - halfN n) (n - halfN n) true (W.take m) m (by omega) (by omega) (by omega) (by omega) hlt (by omega) hgt
      refine ⟨nodeL (W.getD m []) o, nodeL (W.getD m []) w, nodeL_good _ _, nodeL_good _ _, fun h => ?_, ?_⟩
      · rw [depG_hi f cut c1 c2] at h
        have hv := hv (by omega)
        rw [groV_congr a (W.take m) W f (s - halfN n) (n - halfN n) true (fun j hj => take_getD' (by omega))] at hv
        rw [groV_hi _ _ f cut c1 c2, ← hv, show depG f (s - halfN n) (n - halfN n) true = m by omega]
      rw [depG_hi f cut c1 c2]
      have e : decide (depG f (s - halfN n) (n - halfN n) true + 1 = m + 1) = decide (depG f (s - halfN n) (n - halfN n) true = m) := decide_eq_decide.2 (by omega)
      rw [e]
      rw [List.map_take] at hc
      refine fn0 mix pl43 0 5 [.cell 10 23, .cell 11 23, .tmp 12] Tryz.func43 rfl (by kernel_rfl) (by kernel_rfl) rfl (by kernel_rfl) (by kernel_rfl) (by simp) ?_
      simp (implicitDefEqProofs := false) (disch := omega) only [go_sem, ↓reduceIte, d1, ee]
      refine call0 (refhalf_spec n n (Nat.le_refl _) (by omega) h4) ?_
      simp (implicitDefEqProofs := false) (disch := omega) only [go_sem, ↓reduceIte, i1, ↓g0, ↓g2, ↓g3, hlm, d3, ee, em, i3, i4]
      refine call0 hc ?_
      simp (implicitDefEqProofs := false) (disch := omega) only [go_sem, ↓reduceIte]
      refine call0 (refnode_spec17 _ _ hxg ho) ?_
      simp (implicitDefEqProofs := false) (disch := omega) only [go_sem, ↓reduceIte]
      refine call0 (refnode_spec17 _ _ hxg hw) ?_
      simp (implicitDefEqProofs := false) (disch := omega) only [go_sem, ↓reduceIte]
end Go.Proofs.YthhlielliopegaaGreat
