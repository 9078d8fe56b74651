/- Ways of logs: the contracts of log.Root, reversed, Way, From, and of planchetref19.Way and From. -/
import Derived.Test.YthhlielliopegaaGreatLog
import Derived.Test.YthhlielliopegaaGreatTree4
namespace Go.Proofs.YthhlielliopegaaGreat
open Go Go.Sy Go.Proofs.Tryz
set_option maxRecDepth 100000
set_option maxHeartbeats 8000000
set_option linter.unusedSimpArgs false
set_option linter.unusedVariables false

/-- The way of a place: the nearest first. -/
def wayF : Nat → List (List Int) → Nat → List (List Int)
  | 0, _, _ => []
  | f + 1, l, i => if l.length ≤ 1 then [] else if i < halfN l.length then wayF f (l.take (halfN l.length)) i ++ [rg (l.drop (halfN l.length)) 0 (l.length - halfN l.length)]
    else wayF f (l.drop (halfN l.length)) (i - halfN l.length) ++ [rg (l.take (halfN l.length)) 0 (halfN l.length)]
theorem wayF_len : ∀ (f : Nat) (l : List (List Int)) (i : Nat), (wayF f l i).length ≤ f
  | 0, _, _ => Nat.le_refl _
  | f + 1, l, i => by
    rw [wayF]
    split
    · exact Nat.zero_le _
    · split
      · rw [List.length_append, List.length_singleton]; have := wayF_len f (l.take (halfN l.length)) i; omega
      · rw [List.length_append, List.length_singleton]; have := wayF_len f (l.drop (halfN l.length)) (i - halfN l.length); omega
/-- The way from a beginning: the nearest first. -/
def fromF : Nat → List (List Int) → Nat → Bool → List (List Int)
  | 0, _, _, _ => []
  | f + 1, l, m, cut => if m = l.length then (if cut = true then [rg l 0 l.length] else []) else if m ≤ halfN l.length then fromF f (l.take (halfN l.length)) m cut ++ [rg (l.drop (halfN l.length)) 0 (l.length - halfN l.length)]
    else fromF f (l.drop (halfN l.length)) (m - halfN l.length) true ++ [rg (l.take (halfN l.length)) 0 (halfN l.length)]
theorem fromF_len : ∀ (f : Nat) (l : List (List Int)) (m : Nat) (cut : Bool), (fromF f l m cut).length ≤ f
  | 0, _, _, _ => Nat.le_refl _
  | f + 1, l, m, cut => by
    rw [fromF]
    split
    · split
      · rw [List.length_singleton]; omega
      · exact Nat.zero_le _
    · split
      · rw [List.length_append, List.length_singleton]; have := fromF_len f (l.take (halfN l.length)) m cut; omega
      · rw [List.length_append, List.length_singleton]; have := fromF_len f (l.drop (halfN l.length)) (m - halfN l.length) true; omega
end Go.Proofs.YthhlielliopegaaGreat
