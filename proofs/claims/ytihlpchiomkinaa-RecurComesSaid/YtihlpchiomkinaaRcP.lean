/- What comes again and again: plain laws. -/
import Derived.Test.YtihlpchiomkinaaAgB
import Derived.Test.YtihlpchiomkinaaFgB
set_option linter.unusedSimpArgs false
set_option linter.unusedVariables false
namespace Go.Par

noncomputable def agF (g : G) (who : Int) (s y : List Bool) : List Bool := regL g who (andL g s (forceL g who y))
noncomputable def agL (g : G) (who : Int) (s : List Bool) : List Bool := fixG (agF g who s) (g.owner.length + 1) (notL g [])
noncomputable def stL (g : G) (who : Int) (s : List Bool) : List Bool := notL g (agL g (1 - who) (notL g s))

section
variable {g : G} {who : Int} {a b s x y : List Bool} {v : Nat}

theorem reg_mono (hm : mayE g = 0) (h : leS g.owner.length a b) : leS g.owner.length (regL g who a) (regL g who b) := by
  rw [reg_lev, reg_lev]; exact lev_sub hm h _
theorem andL_mono (h : leS g.owner.length x y) (h2 : leS g.owner.length a b) : leS g.owner.length (andL g a x) (andL g b y) := by
  intro v hv q
  rw [has_and hv, Bool.and_eq_true] at q ⊢
  exact ⟨h2 v hv q.1, h v hv q.2⟩
theorem ag_mon (hm : mayE g = 0) (s : List Bool) : Mon g.owner.length (agF g who s) :=
  ⟨fun y => regL_len _ _ _, fun x y h => reg_mono hm (andL_mono (force_mono hm h) (leS.refl _))⟩
theorem has_top (hv : v < g.owner.length) : hasN (notL g []) v = true := by rw [has_not hv]; simp [hasN]
theorem le_top' (x : List Bool) : leS g.owner.length x (notL g []) := fun v hv _ => has_top hv
theorem top_cnt : cntS (notL g []) < g.owner.length + 1 := by have := cntS_le (notL g []); rw [len_not] at this; omega

/-- Again and again: the greatest of what comes to itself. -/
theorem ag_spec (hm : mayE g = 0) (s : List Bool) : agF g who s (agL g who s) = agL g who s ∧ (agL g who s).length = g.owner.length ∧ ∀ y, leS g.owner.length y (agF g who s y) → leS g.owner.length y (agL g who s) := by
  obtain ⟨h1, _, h3, h4⟩ := fix_down (ag_mon (who := who) hm s) (g.owner.length + 1) (notL g []) (len_not _ _) (le_top' _) top_cnt
  exact ⟨h1, h3, fun y h => h4 y h (le_top' y)⟩
theorem ag_len (hm : mayE g = 0) (s : List Bool) : (agL g who s).length = g.owner.length := (ag_spec hm s).2.1
theorem ag_eq (hm : mayE g = 0) (h1 : leS g.owner.length (agL g who a) (agF g who b (agL g who a))) (h2 : leS g.owner.length (agL g who b) (agF g who a (agL g who b))) : agL g who a = agL g who b :=
  leS.antisymm (ag_len hm a) (ag_len hm b) ((ag_spec hm b).2.2 _ h1) ((ag_spec hm a).2.2 _ h2)
theorem ag_mono (hm : mayE g = 0) (h : leS g.owner.length a b) : leS g.owner.length (agL g who a) (agL g who b) := by
  refine (ag_spec hm b).2.2 _ ?_
  have e := (ag_spec (who := who) hm a).1
  intro v hv q
  rw [← e] at q
  exact reg_mono hm (andL_mono (leS.refl _) h) v hv q

theorem reg_sub (h : hasN a v = true) (hv : v < g.owner.length) : hasN (regL g who a) v = true := reg_in hv h

/-- What comes again can be forced of itself. -/
theorem ag_force (hm : mayE g = 0) : forceL g who (agL g who s) = agL g who s := by
  have e := (ag_spec (who := who) hm s).1
  refine leS.antisymm (len_force _ _ _) (ag_len hm s) (fun v hv q => ?_) (fun v hv q => ?_)
  · rw [has_force hv] at q
    rw [← e] at q ⊢
    exact reg_force hv q
  · rw [has_force hv]
    have q2 := q
    rw [← e, agF, has_reg hv, decide_eq_true_eq] at q2
    rcases rk_cases (g := g) (who := who) (s := andL g s (forceL g who (agL g who s))) v with ⟨h1, _⟩ | ⟨k, h1, hk⟩
    · omega
    · cases k with
      | zero =>
        have := (lv_zero hv).1 hk.1
        rw [has_and hv, Bool.and_eq_true, has_force hv] at this
        exact this.2
      | succ k =>
        rcases (lv_succ hv).1 hk.1 with q3 | q3
        · exact absurd q3 (hk.2 k (by omega))
        · have hle : leS g.owner.length (lev g who (andL g s (forceL g who (agL g who s))) k) (agL g who s) := by
            intro u hu q4
            rw [← e, agF, has_reg hu, decide_eq_true_eq]
            exact rk_pos_iff.2 ⟨k, q4⟩
          have := force_mono (who := who) hm hle v hv
          rw [has_force hv, has_force hv] at this
          exact this q3

theorem ag_and (hm : mayE g = 0) : agL g who (andL g s (agL g who s)) = agL g who s := by
  refine ag_eq hm ?_ ?_
  · have e := (ag_spec (who := who) hm (andL g s (agL g who s))).1
    intro v hv q
    rw [← e] at q
    exact reg_mono hm (andL_mono (leS.refl _) fun u hu c => by rw [has_and hu, Bool.and_eq_true] at c; exact c.1) v hv q
  · have e := (ag_spec (who := who) hm s).1
    intro v hv q
    rw [← e] at q
    refine reg_mono hm (fun u hu c => ?_) v hv q
    have c' := c
    rw [has_and hu, Bool.and_eq_true] at c'
    rw [has_and hu, Bool.and_eq_true, has_and hu, Bool.and_eq_true]
    refine ⟨⟨c'.1, ?_⟩, c'.2⟩
    rw [← e]
    exact reg_in hu c

theorem force_not (hm : mayE g = 0) (hw : who = 0 ∨ who = 1) (x : List Bool) : forceL g who (notL g x) = notL g (forceL g (1 - who) x) := by
  refine tab_congr fun v hv => ?_
  rw [has_force hv]
  have := either hm x (who := 1 - who) (by omega) hv
  rw [show 1 - (1 - who) = who by omega] at this
  exact this

theorem st_len (g : G) (who : Int) (s : List Bool) : (stL g who s).length = g.owner.length := len_not _ _
theorem st_force (hm : mayE g = 0) (hw : who = 0 ∨ who = 1) : forceL g who (stL g who s) = stL g who s := by
  rw [stL, force_not hm hw, ag_force hm]

theorem ag_same (h : ∀ v, v < g.owner.length → hasN a v = hasN b v) : agL g who a = agL g who b := by
  have : agF g who a = agF g who b := by
    funext y
    have e : andL g a (forceL g who y) = andL g b (forceL g who y) := tab_congr fun v hv => by rw [h v hv]
    rw [agF, agF, e]
  rw [agL, agL, this]
theorem st_either (hm : mayE g = 0) (hw : who = 0 ∨ who = 1) : stL g (1 - who) (notL g s) = notL g (agL g who s) := by
  unfold stL
  rw [show 1 - (1 - who) = who by omega]
  rw [ag_same (a := notL g (notL g s)) (b := s) fun v hv => by rw [has_not hv, has_not hv, Bool.not_not]]

theorem has_st (hv : v < g.owner.length) : hasN (stL g who s) v = !hasN (agL g (1 - who) (notL g s)) v := has_not hv
theorem keep_stays (hm : mayE g = 0) (hv : v < g.owner.length) (h : hasN (keepL g who s) v = true) : hasN (stL g who s) v = true := by
  rw [has_keep hv, Bool.not_eq_true'] at h
  rw [has_st hv, Bool.not_eq_true']
  cases q : hasN (agL g (1 - who) (notL g s)) v with
  | false => rfl
  | true =>
    have e := (ag_spec (who := 1 - who) hm (notL g s)).1
    rw [← e] at q
    have := reg_mono (who := 1 - who) hm (b := notL g s) (fun u hu c => by rw [has_and hu, Bool.and_eq_true] at c; exact c.1) v hv q
    rw [h] at this; cases this

/-- Who can stay comes again and again. -/
theorem stay_comes (hm : mayE g = 0) (hw : who = 0 ∨ who = 1) : leS g.owner.length (stL g who s) (agL g who s) := by
  obtain ⟨A', hA'⟩ : ∃ A', A' = agL g (1 - who) (notL g s) := ⟨_, rfl⟩
  have eA := (ag_spec (who := 1 - who) hm (notL g s)).1
  have gA := (ag_spec (who := 1 - who) hm (notL g s)).2.2
  have hT : ∀ u, u < g.owner.length → hasN (stL g who s) u = !hasN A' u := fun u hu => by rw [has_st hu, hA']
  refine (ag_spec hm s).2.2 _ ?_
  rw [agF, st_force hm hw]
  obtain ⟨R, hR⟩ : ∃ R, R = regL g who (andL g s (stL g who s)) := ⟨_, rfl⟩
  rw [← hR]
  obtain ⟨Z, hZ⟩ : ∃ Z, Z = orL g A' (andL g (stL g who s) (notL g R)) := ⟨_, rfl⟩
  have hZh : ∀ u, u < g.owner.length → hasN Z u = (hasN A' u || (hasN (stL g who s) u && !hasN R u)) := fun u hu => by rw [hZ, has_or hu, has_and hu, has_not hu]
  have hnot : ∀ u, u < g.owner.length → hasN R u = false → hasN Z u = true := fun u hu q => by
    rw [hZh u hu, q, hT u hu]; cases hasN A' u <;> rfl
  have hAZ : leS g.owner.length A' Z := fun u hu q => by rw [hZh u hu, q]; rfl
  have hpost : leS g.owner.length Z (agF g (1 - who) (notL g s) Z) := by
    intro u hu q
    rw [hZh u hu, Bool.or_eq_true, Bool.and_eq_true, Bool.not_eq_true'] at q
    rcases q with q | ⟨q1, q2⟩
    · have q' : hasN (agF g (1 - who) (notL g s) A') u = true := by rw [hA', eA, ← hA']; exact q
      exact (ag_mon (who := 1 - who) hm (notL g s)).mono _ _ hAZ u hu q'
    · rw [hR] at q2
      obtain ⟨k1, k2, k3⟩ := keep_who hu q2
      rw [← hR] at k2 k3
      rw [has_and hu, q1, Bool.and_true] at k1
      refine reg_in hu ?_
      rw [has_and hu, has_not hu, k1, has_force hu]
      simp only [Bool.not_false, Bool.true_and]
      have ho := ow_ok hm hu
      rw [force_iff]
      by_cases e : ow g u = who
      · right
        refine ⟨by omega, fun w hwm => ?_⟩
        have := k2 e
        rw [List.countP_eq_length] at this
        obtain ⟨w0, w1⟩ := (nx_ok hm hu).2 w hwm
        exact hnot _ (by omega) (by simpa using this w hwm)
      · left
        obtain ⟨w, hwm, q⟩ := List.countP_pos_iff.1 (Nat.pos_of_ne_zero (k3 e))
        obtain ⟨w0, w1⟩ := (nx_ok hm hu).2 w hwm
        exact ⟨by omega, w, hwm, hnot _ (by omega) (by simpa using q)⟩
  have hZA := gA Z hpost
  rw [← hA'] at hZA
  intro v hv q
  cases c : hasN R v with
  | true => rfl
  | false =>
    have := hZA v hv (hnot v hv c)
    rw [hT v hv, this] at q; cases q

/-- Of all it is what goes on. -/
theorem ag_all (hm : mayE g = 0) (hw : who = 0 ∨ who = 1) : agL g who (notL g []) = keepL g who (notL g []) := by
  refine leS.antisymm (ag_len hm _) (keepL_len _ _ _) (fun v hv q => ?_) ?_
  · rw [has_keep hv, Bool.not_eq_true']
    obtain ⟨A, hA⟩ : ∃ A, A = agL g who (notL g []) := ⟨_, rfl⟩
    have hF := ag_force (who := who) hm (s := notL g [])
    rw [← hA] at hF q
    have key : ∀ k u, u < g.owner.length → lv g (1 - who) (notL g (notL g [])) k u → hasN A u = false := by
      intro k
      induction k with
      | zero =>
        intro u hu h
        have := (lv_zero hu).1 h
        rw [has_not hu, has_top hu] at this; cases this
      | succ k ih =>
        intro u hu h
        rcases (lv_succ hu).1 h with h | h
        · exact ih u hu h
        · have h2 : hasN (forceL g (1 - who) (notL g A)) u = true := by
            have := force_mono (who := 1 - who) hm (a := lev g (1 - who) (notL g (notL g [])) k) (b := notL g A) (fun w hw' c => by rw [has_not hw', ih w hw' c]; rfl) u hu
            rw [has_force hu] at this
            exact this h
          rw [force_not hm (by omega), show 1 - (1 - who) = who by omega, hF, has_not hu] at h2
          simpa using h2
    cases c : hasN (regL g (1 - who) (notL g (notL g []))) v with
    | false => rfl
    | true =>
      rw [has_reg hv, decide_eq_true_eq] at c
      obtain ⟨k, hk⟩ := rk_pos_iff.1 c
      rw [key k v hv hk] at q; cases q
  · refine (ag_spec hm _).2.2 _ ?_
    intro v hv q
    refine reg_in hv ?_
    rw [has_and hv, has_top hv, Bool.true_and, has_force hv, force_iff]
    obtain ⟨q1, q2⟩ := keep_next hm hw hv q
    by_cases e : ow g v = who
    · obtain ⟨w, hwm, c⟩ := q2 e
      exact .inl ⟨e, w, hwm, c⟩
    · exact .inr ⟨e, q1 e⟩
theorem st_all (hm : mayE g = 0) (hw : who = 0 ∨ who = 1) : stL g who (notL g []) = keepL g who (notL g []) := by
  unfold stL keepL
  congr 1
  have hempty : ∀ y, andL g (notL g (notL g [])) (forceL g (1 - who) y) = notL g (notL g []) := fun y => tab_congr fun v hv => by
    rw [has_not hv, has_top hv]; rfl
  have e := (ag_spec (who := 1 - who) hm (notL g (notL g []))).1
  rw [agF, hempty] at e
  exact e.symm
end
end Go.Par
