/- Rows of assume and of ensure: with more of them, in another order: plain laws. -/
import Derived.Test.YtkpdhglbkmbojaaPlL
import Derived.Test.YtkpdhglbkmbojaaGcA
set_option linter.unusedSimpArgs false
set_option linter.unusedVariables false
set_option maxRecDepth 8000
namespace Go.Par

def rowIn (A A' : List (List Bool)) : Prop := ∀ i, i < A.length → ∃ j, j < A'.length ∧ A'.getD j [] = A.getD i []
theorem level_in {g : G} {A A' : List (List Bool)} (hm : mayE g = 0) (h : rowIn A A') (goal y : List Bool) : leS g.owner.length (levelL g A goal y) (levelL g A' goal y) := by
  intro v hv q
  rw [levelL, levelK_has hv] at q ⊢
  obtain ⟨i, hi, q⟩ := q
  obtain ⟨j, hj, e⟩ := h i hi
  exact ⟨j, hj, by rw [e]; exact q⟩
theorem least_in {g : G} {A A' : List (List Bool)} (hm : mayE g = 0) (hA : 0 < A.length) (hA' : 0 < A'.length) (h : rowIn A A') (row z : List Bool) : leS g.owner.length (leastL g A row z) (leastL g A' row z) := by
  obtain ⟨h1, _, _⟩ := least_spec hm hA' row z
  refine (least_spec hm hA row z).2.2 _ ?_
  have := level_in hm h (goalL g row z) (leastL g A' row z)
  rw [h1] at this
  exact this
/-- With more rows of assume, and fewer of ensure, Sys wins no less. -/
theorem solve_in {g : G} {A E A' E' : List (List Bool)} (hm : mayE g = 0) (h : rowIn (rowsL g A) (rowsL g A')) (k : rowIn (rowsL g E') (rowsL g E)) : leS g.owner.length (solveL g A E).1 (solveL g A' E').1 := by
  obtain ⟨s1, s2, _, _⟩ := solve_spec hm A E
  have fix := round_fix hm (rowsL_pos g A) (rowsL g E) s2 s1
  refine (solve_spec hm A' E').2.2.2 _ fun i hi x hx => ?_
  obtain ⟨j, hj, e⟩ := k i hi
  have f := fix j hj
  rw [e] at f
  have a := least_in hm (rowsL_pos g A) (rowsL_pos g A') h ((rowsL g E').getD i []) (solveL g A E).1
  rw [f] at a
  exact a.trans (least_mono hm (rowsL_pos g A') _ hx)
theorem solve_same {g : G} {A E A' E' : List (List Bool)} (hm : mayE g = 0) (h : rowIn (rowsL g A) (rowsL g A')) (h' : rowIn (rowsL g A') (rowsL g A)) (k : rowIn (rowsL g E') (rowsL g E)) (k' : rowIn (rowsL g E) (rowsL g E')) : (solveL g A E).1 = (solveL g A' E').1 :=
  leS.antisymm (solve_spec hm A E).2.1.1 (solve_spec hm A' E').2.1.1 (solve_in hm h k) (solve_in hm h' k')
theorem rowIn.refl (A : List (List Bool)) : rowIn A A := fun i hi => ⟨i, hi, rfl⟩
theorem rowIn.snoc (A : List (List Bool)) (r : List Bool) : rowIn A (A ++ [r]) := fun i hi => ⟨i, by simp; omega, by rw [List.getD_eq_getElem?_getD, List.getD_eq_getElem?_getD, List.getElem?_append_left hi]⟩
theorem rowIn.cons (A : List (List Bool)) (r : List Bool) : rowIn A (r :: A) := fun i hi => ⟨i + 1, by simpa using hi, by simp⟩
theorem rowIn.twice {A : List (List Bool)} {n : Nat} (h : n < A.length) : rowIn (A[n] :: A) A := fun i hi => by
  cases i with
  | zero => exact ⟨n, h, by simp [h]⟩
  | succ i => exact ⟨i, by simpa using hi, by simp⟩
theorem rowsL_ne {g : G} {A : List (List Bool)} (h : A ≠ []) : rowsL g A = A := by unfold rowsL; rw [if_neg h]
end Go.Par
