/- planchetref19's Up and Holds. -/
import Derived.Test.YtclkaibkepaebaaLog4
namespace Go.Proofs.Ytclkaibkepaebaa
open Go Go.Sy Go.Proofs.Try
set_option maxRecDepth 100000
set_option maxHeartbeats 8000000
set_option linter.unusedSimpArgs false
set_option linter.unusedVariables false
attribute [go_sem] pl90
theorem getDm {W : List (List Int)} {m : Nat} (hW : W.length = m + 1) (K : AV → Prop) : getP (W.map dg) m K = K (.ints .u8 32 (W.getD m [])) := getP_map (f := dg) (getD_some' (by omega)) K
theorem refup_spec19 (x : List Int) (hx : goodD x) : ∀ (f n i : Nat) (W : List (List Int)) (m : Nat), n ≤ f → 1 ≤ n → n ≤ 1000 → i < n → W.length = m → m ≤ 1000000 → (∀ d ∈ W, goodD d) →
    ∃ y, goodD y ∧ (depH f n i = m → y = upV x W f n i) ∧ FnC Try.prog 90 [.ints .u8 32 x, .int .i64 n, .int .i64 i, .sl (.lst 32 m (W.map dg))] [] (.tup [.ints .u8 32 y, .bool (decide (depH f n i = m))]) [] := by
  intro f
  induction f with
  | zero => intro n i W m h1 h2; omega
  | succ f ih =>
    intro n i W m h1 h2 h3 h4 hW hm hg
    by_cases c1 : n = 1
    · subst c1
      refine ⟨x, hx, fun _ => by rw [upV_one], ?_⟩
      rw [depH_one]
      have e : decide (0 = m) = decide ((m : Int) = 0) := decide_eq_decide.2 (by omega)
      rw [e]
      refine fn0 mix pl90 0 4 [.cell 8 25, .tmp 9] Try.func90 rfl (by kernel_rfl) (by kernel_rfl) rfl (by kernel_rfl) (by kernel_rfl) (by simp) ?_
      simp (implicitDefEqProofs := false) (disch := omega) only [go_sem, ↓reduceIte]
    have hk := halfN_lt (show 2 ≤ n by omega)
    have d1 : decide ((n : Int) = 1) = false := decide_eq_false (by omega)
    obtain _ | m := m
    · refine ⟨x, hx, fun h => ?_, ?_⟩
      · by_cases c2 : i < halfN n
        · rw [depH_lo f (by omega) c2] at h; omega
        · rw [depH_hi f (by omega) c2] at h; omega
      have e : decide (depH (f + 1) n i = 0) = false := decide_eq_false (by
        by_cases c2 : i < halfN n
        · rw [depH_lo f (by omega) c2]; omega
        · rw [depH_hi f (by omega) c2]; omega)
      rw [e]
      refine fn0 mix pl90 0 4 [.cell 8 25, .tmp 9] Try.func90 rfl (by kernel_rfl) (by kernel_rfl) rfl (by kernel_rfl) (by kernel_rfl) (by simp) ?_
      simp (implicitDefEqProofs := false) (disch := omega) only [go_sem, ↓reduceIte, d1]
    have hxg := getD_good hg (show m < W.length by omega)
    have g0 := fun K => getDm hW K
    have i1 : (m : Int) + 1 - 1 = m := by omega
    have i2 : (m : Int).toNat = m := Int.toNat_natCast m
    have g2 : ∀ K, getP (W.map dg) (m : Int).toNat K = K (.ints .u8 32 (W.getD m [])) := fun K => by rw [i2, g0]
    have g3 : ∀ K, getP (W.map dg) ((m : Int) + 1 - 1).toNat K = K (.ints .u8 32 (W.getD m [])) := fun K => by rw [i1, g2]
    have hlm : (W.map dg).length = m + 1 := by rw [List.length_map, hW]
    have hlt : (W.take m).length = m := by rw [List.length_take]; omega
    have hgt : ∀ d ∈ W.take m, goodD d := fun d h => hg d (List.mem_of_mem_take h)
    have ee : decide ((m : Int) + 1 = 0) = false := decide_eq_false (by omega)
    have em : ¬ m = m + 1 := by omega
    by_cases c2 : i < halfN n
    · have d3 : decide ((i : Int) < (halfN n : Int)) = true := decide_eq_true (by omega)
      obtain ⟨y, hy, hv, hc⟩ := ih (halfN n) i (W.take m) m (by omega) (by omega) (by omega) c2 hlt (by omega) hgt
      refine ⟨nodeL y (W.getD m []), nodeL_good _ _, fun h => ?_, ?_⟩
      · rw [depH_lo f (by omega) c2] at h
        rw [upV_lo _ _ f (by omega) c2, hv (by omega), show depH f (halfN n) i = m by omega]
        rw [upV_congr x (W.take m) W f (halfN n) i (fun j hj => take_getD' (by omega))]
      rw [depH_lo f (by omega) c2]
      have e : decide (depH f (halfN n) i + 1 = m + 1) = decide (depH f (halfN n) i = m) := decide_eq_decide.2 (by omega)
      rw [e]
      rw [List.map_take] at hc
      refine fn0 mix pl90 0 4 [.cell 8 25, .tmp 9] Try.func90 rfl (by kernel_rfl) (by kernel_rfl) rfl (by kernel_rfl) (by kernel_rfl) (by simp) ?_
      simp (implicitDefEqProofs := false) (disch := omega) only [go_sem, ↓reduceIte, d1, ee]
      refine call0 (refhalf_spec n n (Nat.le_refl _) (by omega) h3) ?_
      simp (implicitDefEqProofs := false) (disch := omega) only [go_sem, ↓reduceIte, i1, ↓g0, ↓g2, ↓g3, hlm, d3, ee, em]
      refine call0 hc ?_
      simp (implicitDefEqProofs := false) (disch := omega) only [go_sem, ↓reduceIte]
      refine call0 (refnode_spec17 _ _ hy hxg) ?_
      simp (implicitDefEqProofs := false) (disch := omega) only [go_sem, ↓reduceIte]
    · have d3 : decide ((i : Int) < (halfN n : Int)) = false := decide_eq_false (by omega)
      have i3 : (n : Int) - (halfN n : Int) = ((n - halfN n : Nat) : Int) := by omega
      have i4 : (i : Int) - (halfN n : Int) = ((i - halfN n : Nat) : Int) := by omega
      obtain ⟨y, hy, hv, hc⟩ := ih (n - halfN n) (i - halfN n) (W.take m) m (by omega) (by omega) (by omega) (by omega) hlt (by omega) hgt
      refine ⟨nodeL (W.getD m []) y, nodeL_good _ _, fun h => ?_, ?_⟩
      · rw [depH_hi f (by omega) c2] at h
        rw [upV_hi _ _ f (by omega) c2, hv (by omega), show depH f (n - halfN n) (i - halfN n) = m by omega]
        rw [upV_congr x (W.take m) W f (n - halfN n) (i - halfN n) (fun j hj => take_getD' (by omega))]
      rw [depH_hi f (by omega) c2]
      have e : decide (depH f (n - halfN n) (i - halfN n) + 1 = m + 1) = decide (depH f (n - halfN n) (i - halfN n) = m) := decide_eq_decide.2 (by omega)
      rw [e]
      rw [List.map_take] at hc
      refine fn0 mix pl90 0 4 [.cell 8 25, .tmp 9] Try.func90 rfl (by kernel_rfl) (by kernel_rfl) rfl (by kernel_rfl) (by kernel_rfl) (by simp) ?_
      simp (implicitDefEqProofs := false) (disch := omega) only [go_sem, ↓reduceIte, d1, ee]
      refine call0 (refhalf_spec n n (Nat.le_refl _) (by omega) h3) ?_
      simp (implicitDefEqProofs := false) (disch := omega) only [go_sem, ↓reduceIte, i1, ↓g0, ↓g2, ↓g3, hlm, d3, ee, em, i3, i4]
      refine call0 hc ?_
      simp (implicitDefEqProofs := false) (disch := omega) only [go_sem, ↓reduceIte]
      refine call0 (refnode_spec17 _ _ hxg hy) ?_
      simp (implicitDefEqProofs := false) (disch := omega) only [go_sem, ↓reduceIte]
theorem refholds_spec (d b : List Int) (bn : Nat) (n i : Int) (W : List (List Int)) (m : Nat) (hd : goodD d) (hbn : b.length = bn) (hb : ∀ x ∈ b, 0 ≤ x ∧ x < 256) (hbl : bn ≤ 100000) (hW : W.length = m) (hm : m ≤ 1000000) (hg : ∀ d ∈ W, goodD d) :
    FnC Try.prog 37 [.ints .u8 32 d, .int .i64 n, .int .i64 i, .sl (.ints .u8 bn b), .sl (.lst 32 m (W.map dg))] [] (.bool (decide (holdsP d n i b W))) [] := by
  refine fn0 mix [] 0 5 [.tmp 10] Try.func37 rfl (by kernel_rfl) (by kernel_rfl) rfl (by kernel_rfl) (by kernel_rfl) (by simp) ?_
  simp (implicitDefEqProofs := false) (disch := omega) only [go_sem, ↓reduceIte]
  refine brd (fun h => ?_) (fun h1 => ?_)
  · have h := h
    have e : decide (holdsP d n i b W) = false := decide_eq_false (fun h => by unfold holdsP at h; omega)
    rw [e]
    simp (implicitDefEqProofs := false) (disch := omega) only [go_sem, ↓reduceIte]
  simp (implicitDefEqProofs := false) (disch := omega) only [go_sem, ↓reduceIte]
  refine brd (fun h => ?_) (fun h2 => ?_)
  · have h := h
    have e : decide (holdsP d n i b W) = false := decide_eq_false (fun h => by unfold holdsP at h; omega)
    rw [e]
    simp (implicitDefEqProofs := false) (disch := omega) only [go_sem, ↓reduceIte]
  simp (implicitDefEqProofs := false) (disch := omega) only [go_sem, ↓reduceIte]
  refine brd (fun h => ?_) (fun h3 => ?_)
  · have h := h
    have e : decide (holdsP d n i b W) = false := decide_eq_false (fun h => by unfold holdsP at h; omega)
    rw [e]
    simp (implicitDefEqProofs := false) (disch := omega) only [go_sem, ↓reduceIte]
  simp (implicitDefEqProofs := false) (disch := omega) only [go_sem, ↓reduceIte]
  refine brd (fun h => ?_) (fun h4 => ?_)
  · have h := h
    have e : decide (holdsP d n i b W) = false := decide_eq_false (fun h => by unfold holdsP at h; omega)
    rw [e]
    simp (implicitDefEqProofs := false) (disch := omega) only [go_sem, ↓reduceIte]
  obtain ⟨N, rfl⟩ := Int.eq_ofNat_of_zero_le (show 0 ≤ n by omega)
  obtain ⟨I, rfl⟩ := Int.eq_ofNat_of_zero_le (show 0 ≤ i by omega)
  obtain ⟨y, hy, hv, hc⟩ := refup_spec19 (leafL b) (leafL_good b) N N I W m (Nat.le_refl _) (by omega) (by omega) (by omega) hW hm hg
  have e : decide (holdsP d N I b W) = decide (depH N N I = m ∧ upV (leafL b) W N N I = d) := by
    apply decide_eq_decide.2
    unfold holdsP
    rw [Int.toNat_natCast, Int.toNat_natCast, hW]
    constructor
    · intro h; exact ⟨h.2.2.2.2.1, h.2.2.2.2.2⟩
    · intro h; exact ⟨by omega, by omega, by omega, by omega, h.1, h.2⟩
  rw [e]
  generalize depH N N I = D at *
  generalize upV (leafL b) W N N I = V at *
  simp (implicitDefEqProofs := false) (disch := omega) only [go_sem, ↓reduceIte]
  refine call0 (refleaf_spec19 b bn hbn hb hbl) ?_
  simp (implicitDefEqProofs := false) (disch := omega) only [go_sem, ↓reduceIte]
  refine call0 hc ?_
  by_cases c1 : D = m
  · have e2 : decide (D = m ∧ V = d) = decide (V = d) := by simp [c1]
    rw [e2, decide_eq_true c1, hv c1]
    simp (implicitDefEqProofs := false) (disch := omega) only [go_sem, ↓reduceIte]
  · have e2 : decide (D = m ∧ V = d) = false := decide_eq_false (fun h => c1 h.1)
    rw [e2, decide_eq_false c1]
    simp (implicitDefEqProofs := false) (disch := omega) only [go_sem, ↓reduceIte]
end Go.Proofs.Ytclkaibkepaebaa
