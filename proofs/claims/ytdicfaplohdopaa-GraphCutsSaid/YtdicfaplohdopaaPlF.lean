/- Some of a game's ways, and what is reached: plain laws. -/
import Derived.Test.YtdicfaplohdopaaFnN
namespace Go.Par

theorem waysG_eq {g : G} (hm : mayE g = 0) (p : Nat → Int → Bool) : waysG g p = ⟨g.owner, waysL g p⟩ := if_pos hm

theorem waysG_row {g : G} (hm : mayE g = 0) (p : Nat → Int → Bool) {v : Nat} (hv : v < g.next.length) : (waysG g p).next.getD v [] = g.next[v].filter (p v) := by
  rw [waysG_eq hm, waysL, getD_tab, if_pos hv, waysRow, List.getD_eq_getElem?_getD, List.getElem?_eq_getElem hv, Option.getD_some]

theorem ways_reaches {g : G} (hm : mayE g = 0) (from_ : List Bool) (p : Nat → Int → Bool) {v : Nat} (h : Reaches (waysG g p) from_ v) : Reaches g from_ v := by
  have e1 : (waysG g p).owner = g.owner := by rw [waysG_eq hm]
  induction h with
  | start v hv hf => exact .start v (by rw [e1] at hv; exact hv) hf
  | step v w _ hw ih =>
    have hv := ih.lt hm
    have hv' : v < g.next.length := by have := (may_ok hm).2.1; omega
    rw [waysG_row hm p hv'] at hw
    exact .step v w ih (by rw [List.getD_eq_getElem?_getD, List.getElem?_eq_getElem hv', Option.getD_some]; exact (List.mem_filter.1 hw).1)

open Classical in
/-- Cut to what is reached the reach is the same. -/
theorem reach_cut {g : G} (hm : mayE g = 0) (from_ : List Bool) : reachL (waysG g (onlyP (reachL g from_))) from_ = reachL g from_ := by
  have e1 : (waysG g (onlyP (reachL g from_))).owner = g.owner := by rw [waysG_eq hm]
  generalize hG : waysG g (onlyP (reachL g from_)) = G' at e1
  have key : ∀ v, Reaches G' from_ v ↔ Reaches g from_ v := by
    subst hG
    intro v
    constructor
    · exact ways_reaches hm _ _
    · intro h
      induction h with
      | start v hv hf => exact .start v (by rw [e1]; exact hv) hf
      | step v w hr hw ih =>
        have hv := hr.lt hm
        have hv' : v < g.next.length := by have := (may_ok hm).2.1; omega
        have hw' := (Reaches.step v w hr hw)
        refine .step v w ih ?_
        rw [waysG_row hm _ hv', List.mem_filter]
        rw [List.getD_eq_getElem?_getD, List.getElem?_eq_getElem hv', Option.getD_some] at hw
        refine ⟨hw, ?_⟩
        rw [onlyP, hasI_nat, reachL_has.2 ⟨hv, hr⟩, reachL_has.2 ⟨hw'.lt hm, hw'⟩]
        rfl
  unfold reachL
  rw [e1]
  exact tab_congr fun v _ => by simp only [key]

theorem ways_twice {g : G} (hm : mayE g = 0) (p : Nat → Int → Bool) : waysG (waysG g p) p = waysG g p := by
  have hm' := waysG_may hm p
  have : waysL (waysG g p) p = (waysG g p).next := by
    rw [waysL]
    refine (tab_ext rfl fun i hi => ?_).symm
    have hi' : i < g.next.length := by rw [waysG_eq hm] at hi; simpa [waysL_len] using hi
    rw [waysRow, waysG_row hm p hi', List.filter_filter]
    have := List.getElem?_eq_getElem hi
    rw [this]
    congr 1
    have e := waysG_row hm p hi'
    rw [List.getD_eq_getElem?_getD, this, Option.getD_some] at e
    rw [e]
    congr 1
    funext w
    cases p i w <;> rfl
  rw [waysG_eq hm', this]
end Go.Par
