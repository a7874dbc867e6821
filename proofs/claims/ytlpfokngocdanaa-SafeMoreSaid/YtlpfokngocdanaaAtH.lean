/- Steps by ranks: plain laws. -/
import Derived.Test.YtlpfokngocdanaaAtG
set_option linter.unusedSimpArgs false
set_option linter.unusedVariables false
namespace Go.Par

section
variable {g : G} {who : Int} {a : List Bool} {v k : Nat}

theorem rank_step (h : atR g who a v (k + 1)) : forceP g who (lev g who a k) v = true := by
  have hv := lv_lt h.1
  rcases (lv_succ hv).1 h.1 with q | q
  · exact absurd q (h.2 k (by omega))
  · exact q

/-- What ranks are. -/
structure IsRk (g : G) (who : Int) (a : List Bool) (R : List Int) : Prop where
  len : R.length = g.owner.length
  lo : ∀ v, v < g.owner.length → -1 ≤ R.getD v 0
  hi : ∀ v, v < g.owner.length → R.getD v 0 ≤ g.owner.length
  zero : ∀ v, v < g.owner.length → (R.getD v 0 = 0 ↔ hasN a v = true)
  opp : ∀ v, v < g.owner.length → 1 ≤ R.getD v 0 → ow g v ≠ who → ∀ w ∈ nx g v, 0 ≤ R.getD w.toNat 0 ∧ R.getD w.toNat 0 < R.getD v 0
  max : ∀ v, v < g.owner.length → 1 ≤ R.getD v 0 → ow g v ≠ who → nx g v ≠ [] → ∃ w ∈ nx g v, R.getD w.toNat 0 + 1 = R.getD v 0
  one : ∀ v, v < g.owner.length → 1 ≤ R.getD v 0 → ow g v ≠ who → nx g v = [] → R.getD v 0 = 1
  own : ∀ v, v < g.owner.length → 1 ≤ R.getD v 0 → ow g v = who → ∃ w ∈ nx g v, 0 ≤ R.getD w.toNat 0 ∧ R.getD w.toNat 0 < R.getD v 0
  min : ∀ v, v < g.owner.length → 1 ≤ R.getD v 0 → ow g v = who → ∀ w ∈ nx g v, 0 ≤ R.getD w.toNat 0 → R.getD v 0 ≤ R.getD w.toNat 0 + 1
  out : ∀ v, v < g.owner.length → R.getD v 0 < 0 → ow g v = who → ∀ w ∈ nx g v, R.getD w.toNat 0 < 0

theorem isRk (hm : mayE g = 0) : IsRk g who a (ranksL g who a) := by
  have gd : ∀ v, v < g.owner.length → (ranksL g who a).getD v 0 = rkN g who a v := fun v hv => ranksL_getD hv
  have gw : ∀ v, v < g.owner.length → ∀ w ∈ nx g v, w.toNat < g.owner.length := fun v hv w hw => by have := (nx_ok hm hv).2 w hw; omega
  have at1 : ∀ v, 1 ≤ rkN g who a v → ∃ k : Nat, rkN g who a v = ((k + 1 : Nat) : Int) ∧ atR g who a v (k + 1) := by
    intro v h1
    rcases rk_cases (g := g) (who := who) (s := a) v with ⟨q, _⟩ | ⟨j, q, h⟩
    · omega
    · obtain ⟨k, rfl⟩ : ∃ k, j = k + 1 := ⟨j - 1, by omega⟩
      exact ⟨k, q, h⟩
  refine ⟨ranksL_len _ _ _, fun v hv => by rw [gd v hv]; exact rk_ge, fun v hv => by rw [gd v hv]; exact rk_lt, fun v hv => ?_, fun v hv h1 ho w hw => ?_, fun v hv h1 ho hn => ?_, fun v hv h1 ho hn => ?_, fun v hv h1 ho => ?_, fun v hv h1 ho w hw h0 => ?_, fun v hv h1 ho w hw => ?_⟩
  · rw [gd v hv]
    constructor
    · intro h
      rcases rk_cases (g := g) (who := who) (s := a) v with ⟨q, _⟩ | ⟨j, q, hj⟩
      · omega
      · obtain rfl : j = 0 := by omega
        exact (lv_zero hv).1 hj.1
    · intro h; exact rk_all h hv
  · rw [gd v hv] at h1 ⊢
    rw [gd _ (gw v hv w hw)]
    obtain ⟨k, e, h⟩ := at1 v h1
    rcases force_iff.1 (rank_step h) with ⟨q, _⟩ | ⟨_, q⟩
    · exact absurd q ho
    · obtain ⟨q1, q2⟩ := rk_le_iff.2 (q w hw)
      exact ⟨q1, by omega⟩
  · rw [gd v hv] at h1
    obtain ⟨k, e, h⟩ := at1 v h1
    have hall : ∀ w ∈ nx g v, lv g who a k w.toNat := by
      rcases force_iff.1 (rank_step h) with ⟨q, _⟩ | ⟨_, q⟩
      · exact absurd q ho
      · exact q
    by_cases c : ∃ w ∈ nx g v, rkN g who a w.toNat = k
    · obtain ⟨w, hw, q⟩ := c
      exact ⟨w, hw, by rw [gd _ (gw v hv w hw), gd v hv]; omega⟩
    · exfalso
      cases hk : k with
      | zero =>
        cases hn' : nx g v with
        | nil => exact hn hn'
        | cons w l =>
          have hw : w ∈ nx g v := by rw [hn']; simp
          obtain ⟨q1, q2⟩ := rk_le_iff.2 (hall w hw)
          exact c ⟨w, hw, by omega⟩
      | succ j =>
        refine h.2 (j + 1) (by omega) ((lv_succ hv).2 (.inr (force_iff.2 (.inr ⟨ho, fun w hw => ?_⟩))))
        obtain ⟨q1, q2⟩ := rk_le_iff.2 (hall w hw)
        have : rkN g who a w.toNat ≠ k := fun q => c ⟨w, hw, q⟩
        exact rk_le_iff.1 ⟨q1, by omega⟩
  · rw [gd v hv] at h1 ⊢
    obtain ⟨k, e, h⟩ := at1 v h1
    have h2 : lv g who a 1 v := (lv_succ hv).2 (.inr (force_iff.2 (.inr ⟨ho, fun w hw => by rw [hn] at hw; cases hw⟩)))
    have := atR_le h h2
    omega
  · rw [gd v hv] at h1 ⊢
    obtain ⟨k, e, h⟩ := at1 v h1
    rcases force_iff.1 (rank_step h) with ⟨_, w, hw, q⟩ | ⟨q, _⟩
    · obtain ⟨q1, q2⟩ := rk_le_iff.2 q
      exact ⟨w, hw, by rw [gd _ (gw v hv w hw)]; exact q1, by rw [gd _ (gw v hv w hw)]; omega⟩
    · exact absurd ho q
  · rw [gd v hv] at h1 ⊢
    rw [gd _ (gw v hv w hw)] at h0 ⊢
    obtain ⟨j, hj⟩ : ∃ j : Nat, rkN g who a w.toNat = j := ⟨(rkN g who a w.toNat).toNat, by omega⟩
    have hl := rk_le_iff.1 ⟨h0, Int.le_of_eq hj⟩
    have h2 : lv g who a (j + 1) v := (lv_succ hv).2 (.inr (force_iff.2 (.inl ⟨ho, w, hw, hl⟩)))
    have := (rk_le_iff.2 h2).2
    omega
  · rw [gd v hv] at h1
    rw [gd _ (gw v hv w hw)]
    rcases Int.lt_or_le (rkN g who a w.toNat) 0 with q | q
    · exact q
    · exfalso
      obtain ⟨j, hj⟩ := rk_pos_iff.1 q
      have h2 : lv g who a (j + 1) v := (lv_succ hv).2 (.inr (force_iff.2 (.inl ⟨ho, w, hw, hj⟩)))
      have := (rk_le_iff.2 h2).1
      omega

/-- Where one goes. -/
theorem way_some {R : List Int} (hm : mayE g = 0) (I : IsRk g who a R) (hv : v < g.owner.length) (h1 : 1 ≤ R.getD v 0) (ho : ow g v = who) :
    ∃ u : Nat, (awaysR g who R).getD v 0 = u ∧ u < g.owner.length ∧ (u : Int) ∈ nx g v ∧ 0 ≤ R.getD u 0 ∧ R.getD u 0 + 1 = R.getD v 0 := by
  obtain ⟨w, hw, q1, q2⟩ := I.own v hv h1 ho
  have e : (awaysR g who R).getD v 0 = awayR g who R v := by rw [awaysR, getD_tab, if_pos hv]
  rw [e]
  unfold awayR
  rw [if_neg (by rintro (h | h); exact h ho; omega)]
  cases hf : (nx g v).find? (wpred R (R.getD v 0)) with
  | none =>
    rw [List.find?_eq_none] at hf
    exact absurd (by simp only [wpred, Bool.and_eq_true, decide_eq_true_eq]; exact ⟨q1, q2⟩) (hf w hw)
  | some x =>
    have hx := List.mem_of_find?_eq_some hf
    have hp := List.find?_some hf
    simp only [wpred, Bool.and_eq_true, decide_eq_true_eq] at hp
    obtain ⟨x0, x1⟩ := (nx_ok hm hv).2 x hx
    have := I.min v hv h1 ho x hx hp.1
    refine ⟨x.toNat, by simp only [Option.getD_some]; omega, by omega, by rwa [Int.toNat_of_nonneg x0], hp.1, by omega⟩
theorem way_none {R : List Int} (hv : v < g.owner.length) (h : ow g v ≠ who ∨ R.getD v 0 < 1) : (awaysR g who R).getD v 0 = -1 := by
  have e : (awaysR g who R).getD v 0 = awayR g who R v := by rw [awaysR, getD_tab, if_pos hv]
  rw [e, awayR, if_pos h]
end
end Go.Par
