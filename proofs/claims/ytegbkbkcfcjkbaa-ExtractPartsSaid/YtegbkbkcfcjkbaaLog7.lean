/- log.Grows; planchetref19.Both and Grows. -/
import Derived.Test.YtegbkbkcfcjkbaaLog6
namespace Go.Proofs.Ytegbkbkcfcjkbaa
open Go Go.Sy Go.Proofs.Try
set_option maxRecDepth 100000
set_option maxHeartbeats 8000000
set_option linter.unusedSimpArgs false
set_option linter.unusedVariables false

def growsP (a : List Int) (m : Int) (b : List Int) (n : Int) (W : List (List Int)) : Prop := 1 ≤ m ∧ m ≤ n ∧ n ≤ 200 ∧ depG n.toNat m.toNat n.toNat false = W.length ∧ groV a W n.toNat m.toNat n.toNat false = (a, b)
instance (a : List Int) (m : Int) (b : List Int) (n : Int) (W : List (List Int)) : Decidable (growsP a m b n W) := by unfold growsP; infer_instance
theorem grows_spec (a b : List Int) (m n : Int) (W : List (List Int)) (L : Nat) (ha : goodD a) (hb : goodD b) (hW : W.length = L) (hL : L ≤ 1000000) (hg : ∀ d ∈ W, goodD d) :
    FnC Try.prog 41 [.ints .u8 32 a, .int .i64 m, .ints .u8 32 b, .int .i64 n, .sl (.lst 32 L (W.map dg))] [] (.bool (decide (growsP a m b n W))) [] := by
  refine fn0 mix [] 0 5 [.tmp 10] Try.func41 rfl (by kernel_rfl) (by kernel_rfl) rfl (by kernel_rfl) (by kernel_rfl) (by simp) ?_
  simp (implicitDefEqProofs := false) (disch := omega) only [go_sem, ↓reduceIte]
  refine brd (fun h => ?_) (fun h1 => ?_)
  · have h := h
    have e : decide (growsP a m b n W) = false := decide_eq_false (fun h => by unfold growsP at h; omega)
    rw [e]
    simp (implicitDefEqProofs := false) (disch := omega) only [go_sem, ↓reduceIte]
  simp (implicitDefEqProofs := false) (disch := omega) only [go_sem, ↓reduceIte]
  refine brd (fun h => ?_) (fun h2 => ?_)
  · have h := h
    have e : decide (growsP a m b n W) = false := decide_eq_false (fun h => by unfold growsP at h; omega)
    rw [e]
    simp (implicitDefEqProofs := false) (disch := omega) only [go_sem, ↓reduceIte]
  simp (implicitDefEqProofs := false) (disch := omega) only [go_sem, ↓reduceIte]
  refine brd (fun h => ?_) (fun h3 => ?_)
  · have h := h
    have e : decide (growsP a m b n W) = false := decide_eq_false (fun h => by unfold growsP at h; omega)
    rw [e]
    simp (implicitDefEqProofs := false) (disch := omega) only [go_sem, ↓reduceIte]
  obtain ⟨M, rfl⟩ := Int.eq_ofNat_of_zero_le (show 0 ≤ m by omega)
  obtain ⟨N, rfl⟩ := Int.eq_ofNat_of_zero_le (show 0 ≤ n by omega)
  obtain ⟨o, w, ho, hw, hv, hc⟩ := gup_spec a ha W L hW hL hg N M N false (Nat.le_refl _) (by omega) (by omega) (by omega)
  have e : decide (growsP a M b N W) = decide (depG N M N false = L ∧ groV a W N M N false = (a, b)) := by
    apply decide_eq_decide.2
    unfold growsP
    rw [Int.toNat_natCast, Int.toNat_natCast, hW]
    constructor
    · intro h; exact ⟨h.2.2.2.1, h.2.2.2.2⟩
    · intro h; exact ⟨by omega, by omega, by omega, h.1, h.2⟩
  rw [e]
  generalize depG N M N false = D at *
  generalize groV a W N M N false = V at *
  simp (implicitDefEqProofs := false) (disch := omega) only [go_sem, ↓reduceIte]
  refine callG false [(0, 0), (1, 3), (2, 4), (3, 2)] [(0, 0), (1, 3), (2, 4), (3, 2)] 5 hc ?_ ?_
  · simp [keys]
  by_cases c1 : D ≤ L
  · rw [decide_eq_true c1]
    by_cases c2 : D = L
    · subst c2
      have hv := hv (Nat.le_refl _)
      have e2 : decide (D = D ∧ V = (a, b)) = (decide (o = a) && decide (w = b)) := by
        rw [← hv]; simp
      rw [Nat.sub_self, e2]
      simp (implicitDefEqProofs := false) (disch := omega) only [go_sem, ↓reduceIte]
      by_cases c3 : o = a
      · have e3 : decide (o = a) = true := decide_eq_true c3
        simp (implicitDefEqProofs := false) (disch := omega) only [go_sem, ↓reduceIte, e3]
      · have e3 : decide (o = a) = false := decide_eq_false c3
        simp (implicitDefEqProofs := false) (disch := omega) only [go_sem, ↓reduceIte, e3]
    · have e2 : decide (D = L ∧ V = (a, b)) = false := decide_eq_false (fun h => c2 h.1)
      rw [e2]
      have e3 : decide (((L - D : Nat) : Int) = 0) = false := decide_eq_false (by omega)
      have e4 : ¬ L - D = 0 := by omega
      simp (implicitDefEqProofs := false) (disch := omega) only [go_sem, ↓reduceIte, e3, e4]
  · rw [decide_eq_false c1]
    have e2 : decide (D = L ∧ V = (a, b)) = false := decide_eq_false (fun h => c1 (by omega))
    rw [e2]
    simp (implicitDefEqProofs := false) (disch := omega) only [go_sem, ↓reduceIte]
theorem groV_congr (a : List Int) (W W' : List (List Int)) : ∀ (f m n : Nat) (cut : Bool), (∀ j, j < depG f m n cut → W.getD j [] = W'.getD j []) → groV a W f m n cut = groV a W' f m n cut
  | 0, _, _, _, _ => rfl
  | f + 1, m, n, cut, h => by
    by_cases c : m = n
    · subst c
      rw [depG_eq] at h
      rw [groV_eq, groV_eq]
      cases cut
      · rfl
      · rw [if_pos rfl, if_pos rfl, h 0 (by rw [if_pos rfl]; decide)]
    by_cases c2 : m ≤ halfN n
    · rw [depG_lo f cut c c2] at h
      rw [groV_lo a W f cut c c2, groV_lo a W' f cut c c2, groV_congr a W W' f m (halfN n) cut (fun j hj => h j (by omega)), h (depG f m (halfN n) cut) (by omega)]
    · rw [depG_hi f cut c c2] at h
      rw [groV_hi a W f cut c c2, groV_hi a W' f cut c c2, groV_congr a W W' f (m - halfN n) (n - halfN n) true (fun j hj => h j (by omega)), h (depG f (m - halfN n) (n - halfN n) true) (by omega)]
end Go.Proofs.Ytegbkbkcfcjkbaa
