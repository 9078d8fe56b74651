/- The walk of FenceLeast. -/
import Derived.Test.YthomlkmbgmkjiaaFence
namespace Go.Proofs.Ythomlkmbgmkjiaa
open Go Go.Sy Go.Proofs.Try
set_option maxRecDepth 100000
set_option maxHeartbeats 4000000
set_option linter.unusedSimpArgs false
set_option linter.unusedVariables false
attribute [go_sem] pl3
def high_ (a0 a1 a2 b0 b1 b2 : Int) : Bool := decide (b0 ≤ a0) && (decide (b1 < a1) || (decide (a1 = b1) && decide (b2 ≤ a2)))
theorem high_spec (a0 a1 a2 b0 b1 b2 : Int) : FnC Try.prog 16 [.agg [.int .i64 a0, .int .i64 a1, .int .i64 a2], .agg [.int .i64 b0, .int .i64 b1, .int .i64 b2]] [] (.bool (high_ a0 a1 a2 b0 b1 b2)) [] := by
  unfold high_
  refine fn0 mix [] 0 2 [.tmp 4] Try.func16 rfl (by kernel_rfl) (by kernel_rfl) rfl (by kernel_rfl) (by kernel_rfl) (by simp) ?_
  by_cases g0 : b0 ≤ a0
  · by_cases g1 : b1 < a1
    · rw [decide_eq_true g0, decide_eq_true g1]
      simp (implicitDefEqProofs := false) (disch := omega) only [go_sem, ↓reduceIte, decide_eq_true g0, decide_eq_true g1]
    · by_cases g2 : a1 = b1
      · rw [decide_eq_true g0, decide_eq_false g1, decide_eq_true g2]
        simp (implicitDefEqProofs := false) (disch := omega) only [go_sem, ↓reduceIte, decide_eq_true g0, decide_eq_false g1, decide_eq_true g2]
      · rw [decide_eq_true g0, decide_eq_false g1, decide_eq_false g2]
        simp (implicitDefEqProofs := false) (disch := omega) only [go_sem, ↓reduceIte, decide_eq_true g0, decide_eq_false g1, decide_eq_false g2]
  · rw [decide_eq_false g0]
    simp (implicitDefEqProofs := false) (disch := omega) only [go_sem, ↓reduceIte, decide_eq_false g0]
theorem high_iff (a0 a1 a2 b0 b1 b2 : Int) : high_ a0 a1 a2 b0 b1 b2 = true ↔ b0 ≤ a0 ∧ (b1 < a1 ∨ a1 = b1 ∧ b2 ≤ a2) := by simp [high_]
theorem high_a (a0 a1 a2 b0 b1 b2 : Int) : high_ (max a0 b0) (max a1 b1) (hi_ a1 a2 b1 b2) a0 a1 a2 = true := by
  rw [high_iff]; unfold hi_; repeat' split <;> omega
theorem high_b (a0 a1 a2 b0 b1 b2 : Int) : high_ (max a0 b0) (max a1 b1) (hi_ a1 a2 b1 b2) b0 b1 b2 = true := by
  rw [high_iff]; unfold hi_; repeat' split <;> omega
theorem high_l {a0 a1 a2 b0 b1 b2 c0 c1 c2 : Int} (h1 : high_ c0 c1 c2 a0 a1 a2 = true) (h2 : high_ c0 c1 c2 b0 b1 b2 = true) : high_ c0 c1 c2 (max a0 b0) (max a1 b1) (hi_ a1 a2 b1 b2) = true := by
  rw [high_iff] at *; unfold hi_; repeat' split <;> omega
theorem fenceLeast_spec (a0 a1 a2 b0 b1 b2 c0 c1 c2 : Int) : FnC Try.prog 3 [.agg [.int .i64 a0, .int .i64 a1, .int .i64 a2], .agg [.int .i64 b0, .int .i64 b1, .int .i64 b2], .agg [.int .i64 c0, .int .i64 c1, .int .i64 c2]] [] (.bool true) [] := by
  have hla := high_spec (max a0 b0) (max a1 b1) (hi_ a1 a2 b1 b2) a0 a1 a2
  rw [high_a] at hla
  have hlb := high_spec (max a0 b0) (max a1 b1) (hi_ a1 a2 b1 b2) b0 b1 b2
  rw [high_b] at hlb
  have m1 : max b0 a0 = max a0 b0 := Int.max_comm _ _
  have m2 : max b1 a1 = max a1 b1 := Int.max_comm _ _
  have m3 : hi_ b1 b2 a1 a2 = hi_ a1 a2 b1 b2 := by unfold hi_; repeat' split <;> omega
  have s1 : max a0 (max b0 c0) = max (max a0 b0) c0 := (Int.max_assoc _ _ _).symm
  have s2 : max a1 (max b1 c1) = max (max a1 b1) c1 := (Int.max_assoc _ _ _).symm
  have s3 : hi_ a1 a2 (max b1 c1) (hi_ b1 b2 c1 c2) = hi_ (max a1 b1) (hi_ a1 a2 b1 b2) c1 c2 := by unfold hi_; repeat' split <;> omega
  have i1 : max a0 a0 = a0 := Int.max_self _
  have i2 : max a1 a1 = a1 := Int.max_self _
  have i3 : hi_ a1 a2 a1 a2 = a2 := by unfold hi_; repeat' split <;> omega
  refine fn0 mix pl3 0 3 [.tmp 6] Try.func3 rfl (by kernel_rfl) (by kernel_rfl) rfl (by kernel_rfl) (by kernel_rfl) (by simp) ?_
  simp (implicitDefEqProofs := false) (disch := omega) only [go_sem, ↓reduceIte]
  refine call0 (least_spec a0 a1 a2 b0 b1 b2) ?_
  simp (implicitDefEqProofs := false) (disch := omega) only [go_sem, ↓reduceIte]
  refine call0 (as_spec (max a0 b0) (max a1 b1) (hi_ a1 a2 b1 b2)) ?_
  simp (implicitDefEqProofs := false) (disch := omega) only [go_sem, ↓reduceIte]
  refine call0 (as_spec a0 a1 a2) ?_
  simp (implicitDefEqProofs := false) (disch := omega) only [go_sem, ↓reduceIte]
  refine call0 (hla) ?_
  simp (implicitDefEqProofs := false) (disch := omega) only [go_sem, ↓reduceIte]
  refine call0 (as_spec (max a0 b0) (max a1 b1) (hi_ a1 a2 b1 b2)) ?_
  simp (implicitDefEqProofs := false) (disch := omega) only [go_sem, ↓reduceIte]
  refine call0 (as_spec b0 b1 b2) ?_
  simp (implicitDefEqProofs := false) (disch := omega) only [go_sem, ↓reduceIte]
  refine call0 (hlb) ?_
  simp (implicitDefEqProofs := false) (disch := omega) only [go_sem, ↓reduceIte]
  cases h1 : high_ c0 c1 c2 a0 a1 a2
  · have h1' := high_spec c0 c1 c2 a0 a1 a2
    rw [h1] at h1'
    refine call0 (as_spec c0 c1 c2) ?_
    simp (implicitDefEqProofs := false) (disch := omega) only [go_sem, ↓reduceIte]
    refine call0 (as_spec a0 a1 a2) ?_
    simp (implicitDefEqProofs := false) (disch := omega) only [go_sem, ↓reduceIte]
    refine call0 (h1') ?_
    simp (implicitDefEqProofs := false) (disch := omega) only [go_sem, ↓reduceIte]
    refine call0 (least_spec b0 b1 b2 a0 a1 a2) ?_
    simp (implicitDefEqProofs := false) (disch := omega) only [go_sem, ↓reduceIte, m1, m2, m3]
    refine call0 (least_spec b0 b1 b2 c0 c1 c2) ?_
    simp (implicitDefEqProofs := false) (disch := omega) only [go_sem, ↓reduceIte]
    refine call0 (least_spec a0 a1 a2 (max b0 c0) (max b1 c1) (hi_ b1 b2 c1 c2)) ?_
    simp (implicitDefEqProofs := false) (disch := omega) only [go_sem, ↓reduceIte]
    refine call0 (least_spec (max a0 b0) (max a1 b1) (hi_ a1 a2 b1 b2) c0 c1 c2) ?_
    simp (implicitDefEqProofs := false) (disch := omega) only [go_sem, ↓reduceIte, s1, s2, s3]
    refine call0 (least_spec a0 a1 a2 a0 a1 a2) ?_
    simp (implicitDefEqProofs := false) (disch := omega) only [go_sem, ↓reduceIte, i1, i2, i3]
    refine call0 (knows14_spec) ?_
    simp (implicitDefEqProofs := false) (disch := omega) only [go_sem, ↓reduceIte]
  have h1' := high_spec c0 c1 c2 a0 a1 a2
  rw [h1] at h1'
  refine call0 (as_spec c0 c1 c2) ?_
  simp (implicitDefEqProofs := false) (disch := omega) only [go_sem, ↓reduceIte]
  refine call0 (as_spec a0 a1 a2) ?_
  simp (implicitDefEqProofs := false) (disch := omega) only [go_sem, ↓reduceIte]
  refine call0 (h1') ?_
  simp (implicitDefEqProofs := false) (disch := omega) only [go_sem, ↓reduceIte]
  cases h2 : high_ c0 c1 c2 b0 b1 b2
  · have h2' := high_spec c0 c1 c2 b0 b1 b2
    rw [h2] at h2'
    refine call0 (as_spec c0 c1 c2) ?_
    simp (implicitDefEqProofs := false) (disch := omega) only [go_sem, ↓reduceIte]
    refine call0 (as_spec b0 b1 b2) ?_
    simp (implicitDefEqProofs := false) (disch := omega) only [go_sem, ↓reduceIte]
    refine call0 (h2') ?_
    simp (implicitDefEqProofs := false) (disch := omega) only [go_sem, ↓reduceIte]
    refine call0 (least_spec b0 b1 b2 a0 a1 a2) ?_
    simp (implicitDefEqProofs := false) (disch := omega) only [go_sem, ↓reduceIte, m1, m2, m3]
    refine call0 (least_spec b0 b1 b2 c0 c1 c2) ?_
    simp (implicitDefEqProofs := false) (disch := omega) only [go_sem, ↓reduceIte]
    refine call0 (least_spec a0 a1 a2 (max b0 c0) (max b1 c1) (hi_ b1 b2 c1 c2)) ?_
    simp (implicitDefEqProofs := false) (disch := omega) only [go_sem, ↓reduceIte]
    refine call0 (least_spec (max a0 b0) (max a1 b1) (hi_ a1 a2 b1 b2) c0 c1 c2) ?_
    simp (implicitDefEqProofs := false) (disch := omega) only [go_sem, ↓reduceIte, s1, s2, s3]
    refine call0 (least_spec a0 a1 a2 a0 a1 a2) ?_
    simp (implicitDefEqProofs := false) (disch := omega) only [go_sem, ↓reduceIte, i1, i2, i3]
    refine call0 (knows14_spec) ?_
    simp (implicitDefEqProofs := false) (disch := omega) only [go_sem, ↓reduceIte]
  have h2' := high_spec c0 c1 c2 b0 b1 b2
  rw [h2] at h2'
  have h3' := high_spec c0 c1 c2 (max a0 b0) (max a1 b1) (hi_ a1 a2 b1 b2)
  rw [high_l h1 h2] at h3'
  refine call0 (as_spec c0 c1 c2) ?_
  simp (implicitDefEqProofs := false) (disch := omega) only [go_sem, ↓reduceIte]
  refine call0 (as_spec b0 b1 b2) ?_
  simp (implicitDefEqProofs := false) (disch := omega) only [go_sem, ↓reduceIte]
  refine call0 (h2') ?_
  simp (implicitDefEqProofs := false) (disch := omega) only [go_sem, ↓reduceIte]
  refine call0 (as_spec c0 c1 c2) ?_
  simp (implicitDefEqProofs := false) (disch := omega) only [go_sem, ↓reduceIte]
  refine call0 (as_spec (max a0 b0) (max a1 b1) (hi_ a1 a2 b1 b2)) ?_
  simp (implicitDefEqProofs := false) (disch := omega) only [go_sem, ↓reduceIte]
  refine call0 (h3') ?_
  simp (implicitDefEqProofs := false) (disch := omega) only [go_sem, ↓reduceIte]
  refine call0 (least_spec b0 b1 b2 a0 a1 a2) ?_
  simp (implicitDefEqProofs := false) (disch := omega) only [go_sem, ↓reduceIte, m1, m2, m3]
  refine call0 (least_spec b0 b1 b2 c0 c1 c2) ?_
  simp (implicitDefEqProofs := false) (disch := omega) only [go_sem, ↓reduceIte]
  refine call0 (least_spec a0 a1 a2 (max b0 c0) (max b1 c1) (hi_ b1 b2 c1 c2)) ?_
  simp (implicitDefEqProofs := false) (disch := omega) only [go_sem, ↓reduceIte]
  refine call0 (least_spec (max a0 b0) (max a1 b1) (hi_ a1 a2 b1 b2) c0 c1 c2) ?_
  simp (implicitDefEqProofs := false) (disch := omega) only [go_sem, ↓reduceIte, s1, s2, s3]
  refine call0 (least_spec a0 a1 a2 a0 a1 a2) ?_
  simp (implicitDefEqProofs := false) (disch := omega) only [go_sem, ↓reduceIte, i1, i2, i3]
  refine call0 (knows14_spec) ?_
  simp (implicitDefEqProofs := false) (disch := omega) only [go_sem, ↓reduceIte]
end Go.Proofs.Ythomlkmbgmkjiaa
