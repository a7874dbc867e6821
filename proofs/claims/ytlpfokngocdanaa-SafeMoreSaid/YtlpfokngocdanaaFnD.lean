import Derived.Test.YtlpfokngocdanaaFnD0
set_option linter.unusedSimpArgs false
set_option maxRecDepth 8000
namespace Go.Par
open Go.Proofs

end Go.Par
