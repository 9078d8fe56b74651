/- Texts,joined. -/
import Derived.Test.YtololahjocfbeaaGreatD22
namespace Go.Proofs.YtololahjocfbeaaGreat
open Go Go.Sy Go.Proofs.Tryz
set_option maxRecDepth 100000
set_option maxHeartbeats 8000000
set_option linter.unusedSimpArgs false
set_option linter.unusedVariables false
def zs : List Int:=List.replicate 32 0
theorem zs_good : goodD zs:=⟨rfl,by decide⟩
end Go.Proofs.YtololahjocfbeaaGreat
