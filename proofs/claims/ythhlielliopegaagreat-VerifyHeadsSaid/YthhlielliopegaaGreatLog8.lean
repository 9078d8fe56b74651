/- planchetref19.Grows; the walk of LogChecks. -/
import Derived.Test.YthhlielliopegaaGreatLog7
namespace Go.Proofs.YthhlielliopegaaGreat
open Go Go.Sy Go.Proofs.Tryz
set_option maxRecDepth 100000
set_option maxHeartbeats 8000000
set_option linter.unusedSimpArgs false
set_option linter.unusedVariables false

theorem refgrows_spec (a b : List Int) (m n : Int) (W : List (List Int)) (L : Nat) (ha : goodD a) (hb : goodD b) (hW : W.length = L) (hL : L ≤ 1000000) (hg : ∀ d ∈ W, goodD d) :
    FnC Tryz.prog 16 [.ints .u8 32 a, .int .i64 m, .ints .u8 32 b, .int .i64 n, .sl (.lst 32 L (W.map dg))] [] (.bool (decide (growsP a m b n W))) [] := by
  refine fn0 mix [] 0 5 [.tmp 10] Tryz.func16 rfl (by kernel_rfl) (by kernel_rfl) rfl (by kernel_rfl) (by kernel_rfl) (by simp) ?_
  simp (implicitDefEqProofs := false) (disch := omega) only [go_sem, ↓reduceIte]
  refine brd (fun h => ?_) (fun h1 => ?_)
  · have h := h
    have e : decide (growsP a m b n W) = false := decide_eq_false (fun h => by unfold growsP at h; omega)
    rw [e]
    simp (implicitDefEqProofs := false) (disch := omega) only [go_sem, ↓reduceIte]
  simp (implicitDefEqProofs := false) (disch := omega) only [go_sem, ↓reduceIte]
  refine brd (fun h => ?_) (fun h2 => ?_)
  · have h := h
    have e : decide (growsP a m b n W) = false := decide_eq_false (fun h => by unfold growsP at h; omega)
    rw [e]
    simp (implicitDefEqProofs := false) (disch := omega) only [go_sem, ↓reduceIte]
  simp (implicitDefEqProofs := false) (disch := omega) only [go_sem, ↓reduceIte]
  refine brd (fun h => ?_) (fun h3 => ?_)
  · have h := h
    have e : decide (growsP a m b n W) = false := decide_eq_false (fun h => by unfold growsP at h; omega)
    rw [e]
    simp (implicitDefEqProofs := false) (disch := omega) only [go_sem, ↓reduceIte]
  obtain ⟨M, rfl⟩ := Int.eq_ofNat_of_zero_le (show 0 ≤ m by omega)
  obtain ⟨N, rfl⟩ := Int.eq_ofNat_of_zero_le (show 0 ≤ n by omega)
  obtain ⟨o, w, ho, hw, hv, hc⟩ := refboth_spec19 a ha N M N false W L (Nat.le_refl _) (by omega) (by omega) (by omega) hW hL hg
  have e : decide (growsP a M b N W) = decide (depG N M N false = L ∧ groV a W N M N false = (a, b)) := by
    apply decide_eq_decide.2
    unfold growsP
    rw [Int.toNat_natCast, Int.toNat_natCast, hW]
    constructor
    · intro h; exact ⟨h.2.2.2.1, h.2.2.2.2⟩
    · intro h; exact ⟨by omega, by omega, by omega, h.1, h.2⟩
  rw [e]
  generalize depG N M N false = D at *
  generalize groV a W N M N false = V at *
  simp (implicitDefEqProofs := false) (disch := omega) only [go_sem, ↓reduceIte]
  refine call0 hc ?_
  by_cases c2 : D = L
  · subst c2
    have hv := hv rfl
    have e2 : decide (D = D ∧ V = (a, b)) = (decide (o = a) && decide (w = b)) := by
      rw [← hv]; simp
    rw [e2, decide_eq_true rfl]
    simp (implicitDefEqProofs := false) (disch := omega) only [go_sem, ↓reduceIte]
    by_cases c3 : o = a
    · have e3 : decide (o = a) = true := decide_eq_true c3
      simp (implicitDefEqProofs := false) (disch := omega) only [go_sem, ↓reduceIte, e3]
    · have e3 : decide (o = a) = false := decide_eq_false c3
      simp (implicitDefEqProofs := false) (disch := omega) only [go_sem, ↓reduceIte, e3]
  · have e2 : decide (D = L ∧ V = (a, b)) = false := decide_eq_false (fun h => c2 h.1)
    rw [e2, decide_eq_false c2]
    simp (implicitDefEqProofs := false) (disch := omega) only [go_sem, ↓reduceIte]
end Go.Proofs.YthhlielliopegaaGreat
