/- Cuts of a game: plain laws. -/
import Derived.Test.YtdicfaplohdopaaPlF
namespace Go.Par

def allL (n : Nat) : List Bool := tab n fun _ => true

theorem only_all {g : G} (hm : mayE g = 0) : waysG g (onlyP (allL g.owner.length)) = g := by
  obtain ⟨h1, h2, h3⟩ := may_ok hm
  rw [waysG_eq hm]
  have : waysL g (onlyP (allL g.owner.length)) = g.next := by
    refine (tab_ext rfl fun v hv => ?_).symm
    rw [List.getElem?_eq_getElem hv, waysRow, List.getD_eq_getElem?_getD, List.getElem?_eq_getElem hv, Option.getD_some]
    congr 1
    refine (List.filter_eq_self.2 fun w hw => ?_).symm
    obtain ⟨q1, q2⟩ := (may_row hm (by omega) hv).2 w hw
    rw [onlyP, allL, hasN_tab (by omega), hasI_tab q1 q2]
    rfl
  rw [this]

theorem follow_one {g : G} (hm : mayE g = 0) {who : Int} {to_ : List Int} {v : Nat} (hv : v < g.owner.length) (hv' : v < g.next.length) (ho : g.owner[v] = who) : (g.next[v].countP (followP g who to_ v)) ≤ 1 := by
  have hs := (rise_iff.1 (may_rise hm hv')).2
  have e : ∀ w, followP g who to_ v w = (decide (v < to_.length) && decide (to_.getD v 0 = w)) := by
    intro w; simp [followP, hv, ho]
  by_cases hl : v < to_.length
  · have e2 : followP g who to_ v = fun w => w == to_.getD v 0 := by
      funext w; rw [e w]
      by_cases q : to_.getD v 0 = w
      · rw [decide_eq_true q, decide_eq_true hl, q]; simp
      · have q' : ¬ w = to_.getD v 0 := fun x => q x.symm
        simp only [decide_eq_false q, Bool.and_false]
        exact (beq_eq_false_iff_ne.2 q').symm
    rw [e2, List.countP_eq_length_filter, filter_sorted _ hs]
    split <;> simp
  · have e2 : followP g who to_ v = fun _ => false := by
      funext w; rw [e w]; simp [hl]
    rw [e2]; simp

theorem follow_none {g : G} (hm : mayE g = 0) (who : Int) : deadA (waysG g (followP g who [])) who = .ro true (bools (tab g.owner.length fun v => decide (g.owner.getD v 0 = who))) := by
  have hm' := waysG_may hm (followP g who [])
  obtain ⟨h1, h2, h3⟩ := may_ok hm
  have e1 : (waysG g (followP g who [])).owner = g.owner := by rw [waysG_eq hm]
  rw [deadA, if_pos hm']
  generalize hG : waysG g (followP g who []) = G' at e1
  rw [e1]
  congr 2
  refine tab_congr fun v hv => ?_
  have hv' : v < g.next.length := by omega
  rw [deadP, e1, ← hG, waysG_row hm _ hv']
  by_cases ho : g.owner.getD v 0 = who
  · have : g.next[v].filter (followP g who [] v) = [] := by
      rw [List.filter_eq_nil_iff]
      intro w _
      rw [followP, decide_eq_true ho]
      simp
    rw [this, decide_eq_true ho, ho]; simp
  · rw [decide_eq_false ho, Bool.and_eq_false_iff]
    exact .inl (by simpa using ho)
end Go.Par
