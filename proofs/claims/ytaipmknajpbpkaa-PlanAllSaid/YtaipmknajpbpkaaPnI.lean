/- The steps of the plan, plain. -/
import Derived.Test.YtaipmknajpbpkaaPnH
import Derived.Test.YtaipmknajpbpkaaLwFoilAll
set_option linter.unusedSimpArgs false
set_option linter.unusedVariables false
set_option maxRecDepth 8000
namespace Go.Par

theorem solve_row {g : G} (hm : mayE g = 0) (A E : List (List Bool)) : ∀ i, i < (rowsL g E).length → leastL g (rowsL g A) ((rowsL g E).getD i []) (solveL g A E).1 = (solveL g A E).1 := by
  obtain ⟨h1, h2, _, _⟩ := solve_spec hm A E
  exact round_fix hm (rowsL_pos g A) (rowsL g E) h2 h1

/-- The plan for each row of ensure. -/
theorem plan_row {g : G} (hm : mayE g = 0) (A E : List (List Bool)) {m : Nat} (h : m < (rowsL g E).length) : PlanOk g (rowsL g A) ((rowsL g E).getD m []) (solveL g A E).1 ((planTL g (rowsL g A) (rowsL g E) (solveL g A E).1).getD m []) := by
  have e : (planTL g (rowsL g A) (rowsL g E) (solveL g A E).1).getD m [] = planL g (rowsL g A) ((rowsL g E).getD m []) (solveL g A E).1 := by simp [planTL, h]
  rw [e]
  exact plan_ok hm (rowsL_pos g A) (solve_row hm A E m h)

theorem pnV_ok {g : G} (hm : mayE g = 0) (A E : List (List Bool)) : ∀ v, v ≤ g.owner.length →
    (∀ s ∈ pnV g (solveL g A E).1 (planTL g (rowsL g A) (rowsL g E) (solveL g A E).1) (rowsL g E) v, ∃ a b c : Nat, s.a = a ∧ a < v ∧ s.b = b ∧ b < (rowsL g E).length ∧ s.c = c ∧ c < g.owner.length ∧ hasN (solveL g A E).1 a = true ∧ hasN (solveL g A E).1 c = true) ∧
    (pnV g (solveL g A E).1 (planTL g (rowsL g A) (rowsL g E) (solveL g A E).1) (rowsL g E) v).Pairwise lexS
  | 0, _ => ⟨fun s hs => (by cases hs), List.Pairwise.nil⟩
  | v + 1, hv => by
    obtain ⟨h1, h2⟩ := pnV_ok hm A E v (by omega)
    rw [pnV]
    by_cases c : hasN (solveL g A E).1 v = true ∧ ow g v = 1
    · rw [if_pos c]
      have k1 : ∀ s ∈ pnM (planTL g (rowsL g A) (rowsL g E) (solveL g A E).1) (rowsL g E) v (rowsL g E).length, ∃ a b c : Nat, s.a = a ∧ a = v ∧ s.b = b ∧ b < (rowsL g E).length ∧ s.c = c ∧ c < g.owner.length ∧ hasN (solveL g A E).1 c = true := by
        intro s hs
        obtain ⟨m, hml, rfl⟩ := mem_tab.1 hs
        obtain ⟨w, q1, q2, q3⟩ := (plan_row hm A E hml).own v (by omega) c.1 c.2
        exact ⟨v, m, w, rfl, rfl, rfl, hml, q1, gE_lt hm q2 (by omega), q3⟩
      refine ⟨fun s hs => ?_, List.pairwise_append.2 ⟨h2, ?_, fun s hs t ht => ?_⟩⟩
      · rcases List.mem_append.1 hs with hs | hs
        · obtain ⟨a, b, c, e1, e2, e3⟩ := h1 s hs
          exact ⟨a, b, c, e1, by omega, e3⟩
        · obtain ⟨a, b, c', e1, e2, e3, e4, e5, e6, e7⟩ := k1 s hs
          exact ⟨a, b, c', e1, by omega, e3, e4, e5, e6, by rw [e2]; exact c.1, e7⟩
      · rw [List.pairwise_iff_getElem]
        intro i j hi hj hij
        simp only [pnM, getElem_tab]
        exact .inr ⟨rfl, by show ((i : Nat) : Int) < ((j : Nat) : Int); omega⟩
      · obtain ⟨a, b, c, e1, e2, _⟩ := h1 s hs
        obtain ⟨a', b', c', e1', e2', _⟩ := k1 t ht
        exact .inl (by rw [e1, e1']; omega)
    · rw [if_neg c, List.append_nil]
      refine ⟨fun s hs => ?_, h2⟩
      obtain ⟨a, b, c, e1, e2, e3⟩ := h1 s hs
      exact ⟨a, b, c, e1, by omega, e3⟩
theorem pnV_cnt {g : G} (Z : List Bool) (TL : List (List Int)) (goals : List (List Bool)) (x : Nat) : (pnV g Z TL goals (x + 1)).length = (pnV g Z TL goals x).length + if hasN Z x = true ∧ ow g x = 1 then goals.length else 0 := by
  rw [pnV, List.length_append]
  split
  · rw [pnM_len]
  · rfl
end Go.Par
