import Derived.Test.YtkpdhglbkmbojaaPyB
import Derived.Test.YtkpdhglbkmbojaaAgB
set_option linter.unusedSimpArgs false
set_option linter.unusedVariables false
set_option maxRecDepth 8000
set_option maxHeartbeats 1000000
namespace Go.Par
open Go.Proofs

/-- The names of what a solver holds. -/
structure ZN where
  s : Nat
  w : Nat
  t : Nat
  q : Nat
  nn : Bool

abbrev ZNok (h0 : Heap) (k : ZN) (F : List (Nat × Ob)) : Prop := HN h0 (k.s :: k.w :: k.t :: k.q :: nms F)

section
variable {h0 : Heap} {k : ZN} {F : List (Nat × Ob)} (N : ZNok h0 k F) (g : G) (P W T : List Int)
include N
end
section
variable {h0 : Heap} {k : ZN} {F : List (Nat × Ob)} {f : Nat} {X : Ob} (N : ZNok h0 k ((f, X) :: F)) (g : G) (P W T : List Int)
include N
theorem ZNok.less : ZNok h0 k F := by
  have := N.del 4
  simpa [List.eraseIdx] using this
end

section
variable {h0 : Heap} {k : ZN} {F : List (Nat × Ob)} (N : ZNok h0 k F) (g : G) (hf : g.fits) (P W T : List Int)
include N hf

end
end Go.Par
