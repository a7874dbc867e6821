import Derived.Test.YtmmfdmhjkcbobaaFgB
import Derived.Test.YtmmfdmhjkcbobaaMgC
set_option linter.unusedSimpArgs false
set_option maxRecDepth 8000
namespace Go.Par
open Go.Proofs

theorem GV.weaken {u u' : AV} {h : Heap} (hw : wk u u' ∨ weak u = u') : GV u h u' h := fun φ w x H V => by
  refine ⟨φ, Ext.refl φ, H, ?_, fun _ q => q⟩
  rcases hw with hw | rfl
  · exact V.wk hw
  · exact V.weak
theorem GStep.weaken {S : St} {t : Nat} {u : AV} (u' : AV) (hv : get S.tm t = u) (hw : wk u u' ∨ weak u = u') : GStep S ⟨S.n, (t, u') :: S.tm, S.h⟩ := GStep.slot hv (GV.weaken hw)
theorem AW.weaken {P : Program} {c : Code} {Q : Exit → St → Prop} {S : St} (t : Nat) {u : AV} (u' : AV) (hv : get S.tm t = u) (hw : wk u u' ∨ weak u = u') (h : AW P c Q ⟨S.n, (t, u') :: S.tm, S.h⟩) : AW P c Q S := AW.ghost (GStep.weaken u' hv hw) h

def rowsA (g : G) (l : List (List Bool)) : AV := if l = [] then .ro true [.ro true (bools (topL g))] else .ro false (bools2 l)
theorem rowsA_weak (g : G) (l : List (List Bool)) : weak (rowsA g l) = .ro false (bools2 (rowsL g l)) := by
  unfold rowsA rowsL; split <;> simp

/-- The solver. -/
def solV (g : G) (A E : List (List Bool)) : AV := .rop [.ro false (ints g.owner), .ro false (rows g.next), .ro false (bools2 A), .ro false (bools2 E)]

@[simp] theorem solV_known (g : G) (A E : List (List Bool)) : (solV g A E).known = true := rfl
@[simp] theorem solV_one (g : G) (A E : List (List Bool)) : (solV g A E).one = true := rfl
@[simp] theorem solV_flat (g : G) (A E : List (List Bool)) : (solV g A E).flat = [solV g A E] := rfl

set_option linter.unusedSectionVars false
section
variable (g : G) (hf : g.fits) (hm : mayE g = 0) (A E : List (List Bool))
include hf hm

theorem forceA1 (x : List Bool) : forceA g 1 x = .ro true (bools (forceL g 1 x)) := if_pos ⟨hm, .inr rfl⟩

structure FX where
  x : List Bool
  f : Nat

end

structure SX where
  z : List Bool
  k : Nat
  f : Nat

def solveA (g : G) (A E : List (List Bool)) : AV := if mayE g = 0 ∧ A.length ≤ 4 ∧ E.length ≤ 4 then .tup [.ro false (bools (solveL g A E).1), .int .i64 ((solveL g A E).2 : Nat)] else .tup [.nils, .int .i64 0]

theorem rowsL_le (g : G) (l : List (List Bool)) (h : l.length ≤ 4) : (rowsL g l).length ≤ 4 := by
  unfold rowsL; split
  · simp
  · exact h

def regionA (g : G) (A E : List (List Bool)) : AV := if mayE g = 0 ∧ A.length ≤ 4 ∧ E.length ≤ 4 then .ro false (bools (solveL g A E).1) else .nils
def roundsE (g : G) (A E : List (List Bool)) : Int := if mayE g = 0 ∧ A.length ≤ 4 ∧ E.length ≤ 4 then ((solveL g A E).2 : Nat) else 0
theorem solveA_eq (g : G) (A E : List (List Bool)) : solveA g A E = .tup [regionA g A E, .int .i64 (roundsE g A E)] := by
  unfold solveA regionA roundsE; split <;> rfl

end Go.Par
