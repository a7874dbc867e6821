/- The region: what it is. Plain laws. -/
import Derived.Test.YtaipmknajpbpkaaFgB
set_option linter.unusedSimpArgs false
namespace Go.Par

theorem solveG_spec {g : G} (hm : mayE g = 0) {A : List (List Bool)} (hA : 0 < A.length) (E : List (List Bool)) : ∀ (f : Nat) (z : List Bool) (k : Nat), Kept g A z → cntS z < f →
    (solveG g A E f z k).1 = roundL g A E (solveG g A E f z k).1 ∧ Kept g A (solveG g A E f z k).1 ∧ (solveG g A E f z k).2 ≤ k + cntS z ∧
    ∀ y, (∀ i, i < E.length → ∀ x, leS g.owner.length y x → leS g.owner.length y (leastL g A (E.getD i []) x)) → leS g.owner.length y z → leS g.owner.length y (solveG g A E f z k).1
  | 0, z, k, _, hc => by omega
  | f + 1, z, k, hK, hc => by
    obtain ⟨hle, hK'⟩ := round_kept hm hA E hK E.length
    by_cases e : z = roundL g A E z
    · have h : solveG g A E (f + 1) z k = (z, k) := by rw [solveG, if_pos e]
      rw [h]
      exact ⟨e, hK, Nat.le_add_right _ _, fun y _ h => h⟩
    · have h : solveG g A E (f + 1) z k = solveG g A E f (roundL g A E z) (k + 1) := by rw [solveG, if_neg e]
      rw [h]
      have hc' := (cnt_mono hK'.1 hK.1 hle).2 (fun q => e q.symm)
      obtain ⟨h1, h2, h3, h4⟩ := solveG_spec hm hA E f (roundL g A E z) (k + 1) hK' (by unfold roundL; omega)
      refine ⟨h1, h2, by unfold roundL at h3 ⊢; omega, fun y hy hz => h4 y hy ?_⟩
      have : ∀ j, j ≤ E.length → leS g.owner.length y (roundK g A E z j) := by
        intro j
        induction j with
        | zero => intro _; exact hz
        | succ j ih => intro hj; exact hy j (by omega) _ (ih (by omega))
      exact this _ (Nat.le_refl _)

theorem solve_spec {g : G} (hm : mayE g = 0) (A E : List (List Bool)) :
    (solveL g A E).1 = roundL g (rowsL g A) (rowsL g E) (solveL g A E).1 ∧ Kept g (rowsL g A) (solveL g A E).1 ∧ (solveL g A E).2 ≤ g.owner.length ∧
    ∀ y, (∀ i, i < (rowsL g E).length → ∀ x, leS g.owner.length y x → leS g.owner.length y (leastL g (rowsL g A) ((rowsL g E).getD i []) x)) → leS g.owner.length y (solveL g A E).1 := by
  have hc : cntS (topL g) ≤ g.owner.length := by have := cntS_le (topL g); rw [topL, len_not] at this; rw [topL]; omega
  obtain ⟨h1, h2, h3, h4⟩ := solveG_spec hm (rowsL_pos g A) (rowsL g E) (g.owner.length + 1) (topL g) 0 (kept_top _) (by omega)
  exact ⟨h1, h2, by unfold solveL; omega, fun y hy => h4 y hy (le_top y)⟩

/-- No row of ensure changes it. -/
theorem round_fix {g : G} (hm : mayE g = 0) {A : List (List Bool)} (hA : 0 < A.length) (E : List (List Bool)) {z : List Bool} (hK : Kept g A z) (h : z = roundL g A E z) : ∀ i, i < E.length → leastL g A (E.getD i []) z = z := by
  have key : ∀ j, j ≤ E.length → leS g.owner.length z (roundK g A E z (E.length - j)) := by
    intro j
    induction j with
    | zero => intro _; rw [Nat.sub_zero]; rw [roundL] at h; rw [← h]; exact leS.refl _
    | succ j ih =>
      intro hj
      have := ih (by omega)
      have e : E.length - j = (E.length - (j + 1)) + 1 := by omega
      rw [e] at this
      obtain ⟨_, hk⟩ := round_kept hm hA E hK (E.length - (j + 1))
      exact this.trans (least_le hm hA hk).1
  have all : ∀ j, j ≤ E.length → roundK g A E z j = z := by
    intro j hj
    obtain ⟨h1, h2⟩ := round_kept hm hA E hK j
    have := key (E.length - j) (by omega)
    rw [show E.length - (E.length - j) = j by omega] at this
    exact leS.antisymm h2.1 hK.1 h1 this
  intro i hi
  have h1 := all (i + 1) (by omega)
  rw [roundK, all i (by omega)] at h1
  exact h1

theorem level_sure {g : G} (hm : mayE g = 0) {A : List (List Bool)} (s : List Bool) : ∀ k, 0 < k → leS g.owner.length s (levelK g A s k)
  | 0, h => by omega
  | k + 1, _ => by
    intro v hv q
    rw [levelK, has_or hv, Bool.or_eq_true]
    right
    have e := (great_spec (step_mon hm s (A.getD k []))).1
    rw [← e, stepL, has_or hv, q, Bool.true_or]

theorem levelK_has {g : G} {A : List (List Bool)} {s : List Bool} {v : Nat} (hv : v < g.owner.length) : ∀ k, hasN (levelK g A s k) v = true ↔ ∃ i, i < k ∧ hasN (great g (stepL g s (A.getD i []))) v = true
  | 0 => by simp [levelK, hasN]
  | k + 1 => by
    rw [levelK, has_or hv, Bool.or_eq_true, levelK_has hv k]
    constructor
    · rintro (⟨i, hi, q⟩ | q)
      · exact ⟨i, by omega, q⟩
      · exact ⟨k, by omega, q⟩
    · rintro ⟨i, hi, q⟩
      by_cases e : i = k
      · subst e; exact .inr q
      · exact .inl ⟨i, by omega, q⟩

/-- What is kept so is what can be forced of it. -/
theorem forced {g : G} (hm : mayE g = 0) {A : List (List Bool)} (hA : 0 < A.length) {row z : List Bool} (h : leastL g A row z = z) : forceL g 1 z = z := by
  obtain ⟨h1, h2, _⟩ := least_spec hm hA row z
  rw [h] at h1 h2
  refine leS.antisymm (len_force _ _ _) h2 ?_ ?_
  · intro v hv q
    have : hasN (sureL g (goalL g row z) z) v = true := by rw [sureL, has_or hv, q, Bool.or_true]
    have := level_sure hm (A := A) _ A.length hA v hv this
    rw [levelL] at h1
    rw [h1] at this
    exact this
  · intro v hv q
    have q0 := q
    rw [← h1, levelL, levelK_has hv] at q
    obtain ⟨i, hi, q⟩ := q
    have hx : leS g.owner.length (great g (stepL g (sureL g (goalL g row z) z) (A.getD i []))) z := by
      intro u hu hq
      have : hasN (levelL g A (goalL g row z) z) u = true := by rw [levelL, levelK_has hu]; exact ⟨i, hi, hq⟩
      rw [h1] at this
      exact this
    have e := (great_spec (step_mon hm (sureL g (goalL g row z) z) (A.getD i []))).1
    rw [← e, stepL, has_or hv, Bool.or_eq_true] at q
    rcases q with q | q
    · rw [sureL, has_or hv, Bool.or_eq_true] at q
      rcases q with q | q
      · rw [goalL, has_and hv, Bool.and_eq_true] at q
        exact q.2
      · exact q
    · rw [has_and hv, Bool.and_eq_true] at q
      exact force_mono hm hx v hv q.2

theorem solve_forced {g : G} (hm : mayE g = 0) (A E : List (List Bool)) : forceL g 1 (solveL g A E).1 = (solveL g A E).1 := by
  obtain ⟨h1, h2, _, _⟩ := solve_spec hm A E
  exact forced hm (rowsL_pos g A) (round_fix hm (rowsL_pos g A) (rowsL g E) h2 h1 0 (rowsL_pos g E))
end Go.Par
