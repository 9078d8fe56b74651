/- planchetref19's Up and Holds. -/
import Derived.Test.YthhlielliopegaaGreatLog4
namespace Go.Proofs.YthhlielliopegaaGreat
open Go Go.Sy Go.Proofs.Tryz
set_option maxRecDepth 100000
set_option maxHeartbeats 8000000
set_option linter.unusedSimpArgs false
set_option linter.unusedVariables false

theorem getDm {W : List (List Int)} {m : Nat} (hW : W.length = m + 1) (K : AV → Prop) : getP (W.map dg) m K = K (.ints .u8 32 (W.getD m [])) := getP_map (f := dg) (getD_some' (by omega)) K
end Go.Proofs.YthhlielliopegaaGreat
