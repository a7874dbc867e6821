import Derived.Test.YtkpdhglbkmbojaaPrE
import Derived.Test.YtkpdhglbkmbojaaPyC
set_option linter.unusedSimpArgs false
set_option linter.unusedVariables false
set_option linter.unusedSectionVars false
set_option maxRecDepth 8000
set_option maxHeartbeats 1000000
namespace Go.Par
open Go.Proofs

noncomputable def solA (g : G) (P : List Int) : AV := if mayP g P then .tup [.ro true (ints (winL g P)), .ro true (ints (toL g P))] else .tup [.nils, .nils]
def negY (n x : Nat) : List Int := tab n fun v => if v < x then -1 else 0
theorem negY_len (n x : Nat) : (negY n x).length = n := length_tab _ _
theorem negY_set (n x : Nat) : (negY n x).set x (-1) = negY n (x + 1) := by
  rw [negY, set_tab]
  refine tab_congr fun v _ => ?_
  by_cases e : v = x
  · subst e; simp
  · by_cases h : v < x
    · simp [e, h, show v < x + 1 by omega]
    · simp [e, h, show ¬ v < x + 1 by omega]
def finY (g : G) (W T : List Int) (x : Nat) : List Int := tab g.owner.length fun v => if v < x ∧ fI W v ≠ ow g v then -1 else fI T v
theorem finY_len (g : G) (W T : List Int) (x : Nat) : (finY g W T x).length = g.owner.length := length_tab _ _
theorem finY_zero {g : G} {W T : List Int} (h : T.length = g.owner.length) : finY g W T 0 = T := by
  refine (tab_ext h fun i hi => ?_).symm
  rw [if_neg fun q => Nat.not_lt_zero _ q.1]; simp [fI, show i < T.length by omega]
theorem finY_put {g : G} {W T : List Int} {x : Nat} (h : fI W x ≠ ow g x) : (finY g W T x).set x (-1) = finY g W T (x + 1) := by
  rw [finY, set_tab]
  refine tab_congr fun v _ => ?_
  by_cases e : v = x
  · subst e; rw [if_pos rfl, if_pos ⟨Nat.lt_succ_self _, h⟩]
  · by_cases h : v < x
    · simp [e, h, show v < x + 1 by omega]
    · simp [e, h, show ¬ v < x + 1 by omega]
theorem finY_not {g : G} {W T : List Int} {x : Nat} (h : fI W x = ow g x) : finY g W T x = finY g W T (x + 1) := by
  refine tab_congr fun v _ => ?_
  by_cases e : v = x
  · subst e; rw [if_neg fun q => q.2 h, if_neg fun q => q.2 h]
  · by_cases h : v < x
    · simp [h, show v < x + 1 by omega]
    · simp [h, show ¬ v < x + 1 by omega]
end Go.Par
