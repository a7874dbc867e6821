import Derived.Test.YtkpdhglbkmbojaaPrC
set_option linter.unusedSimpArgs false
set_option linter.unusedVariables false
set_option linter.unusedSectionVars false
set_option maxRecDepth 8000
set_option maxHeartbeats 1000000
namespace Go.Par
open Go.Proofs

section
variable {h0 : Heap} {k : ZN} {F : List (Nat × Ob)} (g : G) (hf : g.fits) {P : List Int} (ok : POk g P) (W T : List Int)
include hf ok

end
end Go.Par
