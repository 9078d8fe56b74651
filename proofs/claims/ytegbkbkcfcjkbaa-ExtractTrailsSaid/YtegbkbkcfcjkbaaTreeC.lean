/- The walk of TreeClimbs. -/
import Derived.Test.YtegbkbkcfcjkbaaTree
namespace Go.Proofs.Ytegbkbkcfcjkbaa
open Go Go.Sy Go.Proofs.Try
set_option maxRecDepth 100000
set_option maxHeartbeats 8000000
set_option linter.unusedSimpArgs false
set_option linter.unusedVariables false

section
variable (pub : List Int) (l t : Int) (hp : goodD pub) (hl : 0 ≤ l ∧ l < 4294967296) (ht : 0 ≤ t ∧ t < 18446744073709551616)
end
def secA (seed key pub : List Int) : AV := .agg [.ints .u8 32 seed, .ints .u8 32 key, .ints .u8 32 pub]
def oneD : List Int := 1 :: List.replicate 31 0
def twoD : List Int := 2 :: List.replicate 31 0
theorem oneD_good : goodD oneD := ⟨rfl, by decide⟩
theorem twoD_good : goodD twoD := ⟨rfl, by decide⟩
end Go.Proofs.Ytegbkbkcfcjkbaa
