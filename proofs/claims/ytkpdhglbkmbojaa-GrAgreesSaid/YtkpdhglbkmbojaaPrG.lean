import Derived.Test.YtkpdhglbkmbojaaPrF
set_option linter.unusedSimpArgs false
set_option linter.unusedVariables false
set_option linter.unusedSectionVars false
set_option maxRecDepth 8000
set_option maxHeartbeats 2000000
namespace Go.Par
open Go.Proofs

theorem TI_goY (g : G) (x : Nat) : TI g (x + 1) = goY g.owner.length (AL g (whoAt x)) (RL g (whoAt x)) (TI g x) g.owner.length := by
  rw [goY_full]
  exact tab_congr fun v hv => by
    by_cases h1 : hasN (RL g (whoAt x)) v = true <;> by_cases h2 : 0 ≤ fI (AL g (whoAt x)) v <;> simp only [h1, h2, and_self, if_true, if_false, true_and, and_true, false_and, and_false]

end Go.Par
