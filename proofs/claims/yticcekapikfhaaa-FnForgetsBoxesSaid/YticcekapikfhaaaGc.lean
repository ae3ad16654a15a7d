/- IsSystem of the program. No conditions. -/
import Derived.Test.YticcekapikfhaaaGb
namespace Go.Proofs.Yticcekapikfhaaa
open Go Go.TL
set_option linter.unusedSimpArgs false
set_option linter.unusedVariables false
set_option maxRecDepth 20000
set_option maxHeartbeats 4000000

end Go.Proofs.Yticcekapikfhaaa
