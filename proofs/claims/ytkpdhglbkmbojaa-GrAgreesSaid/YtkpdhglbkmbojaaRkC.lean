import Derived.Test.YtkpdhglbkmbojaaRkB
import Derived.Test.YtkpdhglbkmbojaaAgB
set_option linter.unusedSimpArgs false
set_option linter.unusedVariables false
set_option maxRecDepth 8000
set_option maxHeartbeats 1000000
namespace Go.Par
open Go.Proofs

end Go.Par
