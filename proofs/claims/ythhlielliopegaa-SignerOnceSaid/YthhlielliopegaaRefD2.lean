/- The document's disk: what is done with it. -/
import Derived.Test.YthhlielliopegaaRefD
namespace Go.Proofs.Ythhlielliopegaa
open Go Go.Sy Go.Proofs.Try
set_option maxRecDepth 100000
set_option maxHeartbeats 8000000
set_option linter.unusedSimpArgs false
set_option linter.unusedVariables false

theorem leftR_eq {D : DS} (h : D.set = true → 0 ≤ D.left ∧ D.left < 9223372036854775808) : (leftR D = 0) ↔ (D.set = true ∧ D.left = 0) := by
  unfold leftR
  by_cases c : D.set = true
  · rw [if_pos c]; exact ⟨fun e => ⟨c, e⟩, fun e => e.2⟩
  · rw [if_neg c]; exact ⟨fun e => by omega, fun e => absurd e.1 c⟩
theorem there_ns {ns : Nat} {D : DS} (h : okD D) (hr : okR ns D) (i : Int) : thereD D i ↔ 0 ≤ i ∧ i < (ns : Int) := by
  unfold thereD
  rw [hr.bl, Nat.mul_div_cancel _ h.sz1]
theorem fail_spec (D : DS) (after : Int) (ks : List Int) (hk : ks.length ≤ 1000000) : FnC Try.prog 14 [.ref 0 [], .int .i64 after, .sl (.ints .i64 ks.length ks)] (dskO 1 2 D) (.tup []) (dskO 3 4 (failD D after ks)) := by
  have hg := gone_spec D
  obtain ⟨sz, b, W, off, set, left, kp⟩ := D
  unfold failD
  refine fnV mix [] 1 3 3 [] Try.func14 rfl (by kernel_rfl) (by kernel_rfl) rfl (by kernel_rfl) (by kernel_rfl) (by simp) rfl rfl ?_
  cases off
  case true =>
    rw [if_pos rfl]
    simp (implicitDefEqProofs := false) (disch := omega) only [go_sem, ↓reduceIte]
    refine callG false [(0, 0), (1, 1), (2, 2)] [(0, 0), (3, 3), (4, 4)] 5 hg ?_ ?_
    · simp [keys]
    simp (implicitDefEqProofs := false) (disch := omega) only [go_sem, ↓reduceIte]
    refine ⟨[(0, 0), (3, 3), (4, 4)], [], [], rfl, ?_, ?_, ?_⟩ <;> simp (implicitDefEqProofs := false) (disch := omega) only [go_sem, ↓reduceIte]
  rw [if_neg (fun h => by cases h)]
  simp (implicitDefEqProofs := false) (disch := omega) only [go_sem, ↓reduceIte]
  refine callG false [(0, 0), (1, 1), (2, 2)] [(0, 0), (3, 3), (4, 4)] 5 hg ?_ ?_
  · simp [keys]
  simp (implicitDefEqProofs := false) (disch := omega) only [go_sem, ↓reduceIte, List.nil_append]
  refine ⟨[(0, 0), (3, 3), (4, 4)], [], [6], rfl, ?_, ?_, ?_⟩ <;> simp (implicitDefEqProofs := false) (disch := omega) only [go_sem, ↓reduceIte]
end Go.Proofs.Ythhlielliopegaa
