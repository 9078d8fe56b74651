/- Texts,joined. -/
import Derived.Test.YtololahjocfbeaaGreatD29
import Derived.Test.YtololahjocfbeaaGreatD26
import Derived.Test.YtololahjocfbeaaGreatD33
namespace Go.Proofs.YtololahjocfbeaaGreat
open Go Go.Sy Go.Proofs.Tryz
set_option maxRecDepth 100000
set_option maxHeartbeats 8000000
set_option linter.unusedSimpArgs false
set_option linter.unusedVariables false
attribute [go_sem] pl33 pl121
abbrev cfgV (a n b : Int) (ma na : List Int) : AV:=.agg [.agg [.int .i64 a,.int .i64 n],.int .i64 b,.ints .u8 32 ma,.ints .u8 32 na]
attribute [go_sem] cfgV
end Go.Proofs.YtololahjocfbeaaGreat
