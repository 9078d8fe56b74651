/- The walk of LogRoots. -/
import Derived.Test.YthhlielliopegaaGreatLog2
import Derived.Test.YthhlielliopegaaGreatRef01
import Derived.Test.YthhlielliopegaaGreatTree5
namespace Go.Proofs.YthhlielliopegaaGreat
open Go Go.Sy Go.Proofs.Tryz
set_option maxRecDepth 100000
set_option maxHeartbeats 8000000
set_option linter.unusedSimpArgs false
set_option linter.unusedVariables false

theorem abc_texts : textsP [[97], [98], [99]] := by
  intro b hb
  simp only [List.mem_cons, List.not_mem_nil, or_false] at hb
  rcases hb with rfl | rfl | rfl <;> exact ⟨by decide, by decide⟩
theorem rg_abc : rg [[97], [98], [99]] 0 3 = nodeL (nodeL (leafL [97]) (leafL [98])) (leafL [99]) := by
  have h3 : halfN 3 = 2 := by decide
  have h2 : halfN 2 = 1 := by decide
  rw [rg_two _ 0 (by decide), h3, rg_two _ 0 (by decide), h2, rg_one, rg_one, rg_one]
  rfl
theorem len_cat {ps : List (List Int)} {p : List Int} (h : p ∈ ps) : p.length ≤ (cat ps).length := by
  induction ps with
  | nil => cases h
  | cons q qs ih =>
    rw [cat, List.flatMap_cons, List.length_append]
    rcases List.mem_cons.1 h with rfl | h
    · exact Nat.le_add_right _ _
    · have := ih h
      rw [cat] at this
      omega
end Go.Proofs.YthhlielliopegaaGreat
