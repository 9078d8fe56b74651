/- planchetref19.Grows; the walk of LogChecks. -/
import Derived.Test.YtegbkbkcfcjkbaaLog7
namespace Go.Proofs.Ytegbkbkcfcjkbaa
open Go Go.Sy Go.Proofs.Try
set_option maxRecDepth 100000
set_option maxHeartbeats 8000000
set_option linter.unusedSimpArgs false
set_option linter.unusedVariables false

end Go.Proofs.Ytegbkbkcfcjkbaa
