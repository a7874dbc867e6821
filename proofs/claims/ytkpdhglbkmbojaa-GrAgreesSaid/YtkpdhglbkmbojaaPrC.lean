import Derived.Test.YtkpdhglbkmbojaaPrB
set_option linter.unusedSimpArgs false
set_option linter.unusedVariables false
set_option linter.unusedSectionVars false
set_option maxRecDepth 8000
set_option maxHeartbeats 1000000
namespace Go.Par
open Go.Proofs

def topX (P : List Int) (part : List Bool) (x : Nat) : Int := (List.range x).foldl (fun t v => if hasN part v then max t (fI P v) else t) 0
theorem topX_zero (P : List Int) (part : List Bool) : topX P part 0 = 0 := rfl
theorem topX_full (P : List Int) (part : List Bool) : topX P part part.length = topP P part := rfl
theorem topX_succ (P : List Int) (part : List Bool) (x : Nat) : topX P part (x + 1) = if hasN part x then max (topX P part x) (fI P x) else topX P part x := by
  rw [topX, List.range_succ, List.foldl_append]; rfl
theorem topX_ge {g : G} {P : List Int} (ok : POk g P) (part : List Bool) (x : Nat) : 0 ≤ topX P part x ∧ topX P part x ≤ 5 := by
  induction x with
  | zero => simp [topX_zero]
  | succ x ih =>
    rw [topX_succ]
    have := ok.hi x
    split <;> omega
def bestP (P : List Int) (part : List Bool) (top : Int) (v : Nat) : Bool := hasN part v && decide (fI P v = top)

section
variable {h0 : Heap} {k : ZN} {F : List (Nat × Ob)} (g : G) (hf : g.fits) {P : List Int} (ok : POk g P) (W T : List Int)
include hf ok

end
end Go.Par
