/- Who goes by the plan meets what is ensured on the circle that comes: plain law for PlanWalk. -/
import Derived.Test.YtaipmknajpbpkaaWpW
import Derived.Test.YtaipmknajpbpkaaPgB
import Derived.Test.YtaipmknajpbpkaaGgA
set_option linter.unusedSimpArgs false
set_option linter.unusedVariables false
namespace Go.Par

def plX (g : G) (A E : List (List Bool)) (p q : Nat) : Prop := gE g (p / (rowsL g E).length) (q / (rowsL g E).length) ∧
    (ow g (p / (rowsL g E).length) = 1 → ((planTL g (rowsL g A) (rowsL g E) (solveL g A E).1).getD (p % (rowsL g E).length) []).getD (p / (rowsL g E).length) 0 = (q / (rowsL g E).length : Nat)) ∧
    q % (rowsL g E).length = thenN (rowsL g E) (p / (rowsL g E).length) (p % (rowsL g E).length)
def plS' (g : G) (A E : List (List Bool)) (p : Nat) : Prop := p < g.owner.length * (rowsL g E).length ∧ hasN (solveL g A E).1 (p / (rowsL g E).length) = true
section
variable {g : G} {A E : List (List Bool)}
theorem plS_lt {p : Nat} (h : plS' g A E p) : p / (rowsL g E).length < g.owner.length := Nat.div_lt_of_lt_mul (by rw [Nat.mul_comm]; exact h.1)
theorem pl_play : PlPlay g A E (plX g A E) (plS' g A E) := ⟨fun p h => plS_lt h, fun p h => h.2, fun p q _ e => e⟩
theorem walk_plan (hm : mayE g = 0) {k : Nat} {sts : List Nat} {p j : Nat} (I : WkI (plX g A E) (plS' g A E) (rowsL g E).length k sts p) (hj : sts[j]? = some p) (hA : mtB A ((sts.drop j).map (· / (rowsL g E).length)) = true) : mtB E ((sts.drop j).map (· / (rowsL g E).length)) = true := by
  rw [mtB_iff] at hA ⊢
  intro e he
  refine Classical.byContradiction fun hno => ?_
  obtain ⟨i, hi, rfl⟩ := List.mem_iff_getElem.1 he
  have hE : rowsL g E = E := by unfold rowsL; rw [if_neg (fun q => by rw [q] at hi; simp at hi)]
  have hlen : (rowsL g E).length = E.length := by rw [hE]
  have hp : p ∈ sts.drop j := List.mem_iff_getElem?.2 ⟨0, by rw [List.getElem?_drop]; exact hj⟩
  have conn := fun m m' (h1 : m ∈ sts.drop j) (h2 : m' ∈ sts.drop j) => I.st.conn hj h1 h2
  have hS : ∀ u ∈ sts.drop j, plS' g A E u := fun u hu => I.s u (List.mem_of_mem_drop hu)
  obtain ⟨a, ha, hmiss⟩ := pl_play.misses hm (j := i) (by rw [hlen]; exact hi) (S' := fun u => u ∈ sts.drop j) (fun u hu => ⟨hS u hu, by
    have e1 : (rowsL g E).getD i [] = E[i] := by rw [hE]; simp [hi]
    rw [e1]
    cases q : hasN E[i] (u / (rowsL g E).length) with
    | false => rfl
    | true => exact absurd ⟨_, List.mem_map.2 ⟨u, hu, rfl⟩, q⟩ hno⟩) (conn p p hp hp)
  have hall : ∀ u ∈ sts.drop j, hasN ((rowsL g A).getD a []) (u / (rowsL g E).length) = false := fun u hu => hmiss u (.inr ⟨conn u p hu hp, conn p u hp hu⟩)
  by_cases hA0 : A = []
  · have e1 : rowsL g A = [topL g] := by unfold rowsL; rw [if_pos hA0]
    rw [e1] at ha hall
    have : a = 0 := by simp at ha; omega
    subst this
    have := hall p hp
    rw [show ([topL g].getD 0 []) = topL g from rfl, top_has (plS_lt (hS p hp))] at this
    cases this
  · have e1 : rowsL g A = A := by unfold rowsL; rw [if_neg hA0]
    rw [e1] at ha hall
    obtain ⟨v, hv, q⟩ := hA A[a] (List.getElem_mem ha)
    obtain ⟨u, hu, rfl⟩ := List.mem_map.1 hv
    have := hall u hu
    have e2 : A.getD a [] = A[a] := by simp [ha]
    rw [e2, q] at this; cases this
end
end Go.Par
