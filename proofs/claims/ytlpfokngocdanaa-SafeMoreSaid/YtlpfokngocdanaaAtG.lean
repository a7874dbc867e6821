/- Ranks and regions: plain laws. -/
import Derived.Test.YtlpfokngocdanaaAtE
set_option linter.unusedSimpArgs false
set_option linter.unusedVariables false
namespace Go.Par

section
variable {g : G} {who : Int} {a b : List Bool} {v k : Nat}

theorem lev_sub (hm : mayE g = 0) (h : ∀ v, v < g.owner.length → hasN a v = true → hasN b v = true) : ∀ k, leS g.owner.length (lev g who a k) (lev g who b k)
  | 0 => fun v hv q => (lv_zero hv).2 (h v hv ((lv_zero hv).1 q))
  | k + 1 => fun v hv q => by
    rcases (lv_succ hv).1 q with q | q
    · exact (lv_succ hv).2 (.inl (lev_sub hm h k v hv q))
    · refine (lv_succ hv).2 (.inr ?_)
      have := force_mono (who := who) hm (lev_sub hm h k) v hv
      rw [has_force hv, has_force hv] at this
      exact this q
theorem rk_le_iff : (0 ≤ rkN g who a v ∧ rkN g who a v ≤ k) ↔ lv g who a k v := by
  rcases rk_cases (g := g) (who := who) (s := a) v with ⟨h1, h2⟩ | ⟨j, h1, h2⟩
  · rw [h1]
    constructor
    · rintro ⟨h, _⟩; omega
    · intro h; exact absurd h (h2 k)
  · rw [h1]
    constructor
    · rintro ⟨_, h⟩; exact lv_mono h2.1 (by omega)
    · intro h; have := atR_le h2 h; omega
theorem rk_pos_iff : 0 ≤ rkN g who a v ↔ ∃ k, lv g who a k v := by
  rcases rk_cases (g := g) (who := who) (s := a) v with ⟨h1, h2⟩ | ⟨j, h1, h2⟩
  · rw [h1]
    constructor
    · intro h; omega
    · rintro ⟨k, h⟩; exact absurd h (h2 k)
  · rw [h1]; exact ⟨fun _ => ⟨j, h2.1⟩, fun _ => by omega⟩
theorem rk_lt : rkN g who a v ≤ g.owner.length := by
  rcases rk_cases (g := g) (who := who) (s := a) v with ⟨h1, h2⟩ | ⟨j, h1, h2⟩
  · omega
  · have := rank_le h2; omega
theorem rk_ge : -1 ≤ rkN g who a v := by
  rcases rk_cases (g := g) (who := who) (s := a) v with ⟨h1, h2⟩ | ⟨j, h1, h2⟩ <;> omega
theorem ranksL_get (h : v < (ranksL g who a).length) : (ranksL g who a)[v] = rkN g who a v := by simp [ranksL]
theorem ranksL_getD (h : v < g.owner.length) : (ranksL g who a).getD v 0 = rkN g who a v := by rw [ranksL, getD_tab, if_pos h]
theorem has_reg (h : v < g.owner.length) : hasN (regL g who a) v = decide (0 ≤ rkN g who a v) := by
  have e : hasN (regL g who a) v = decide (0 ≤ (ranksL g who a).getD v 0) := by
    unfold regL regR hasN
    rw [getD_tab, if_pos (by rw [ranksL_len]; exact h)]
  rw [e, ranksL_getD h]

theorem grows (hm : mayE g = 0) (h : ∀ v, v < g.owner.length → hasN a v = true → hasN b v = true) (hv : v < g.owner.length) (h0 : 0 ≤ rkN g who a v) : 0 ≤ rkN g who b v ∧ rkN g who b v ≤ rkN g who a v := by
  obtain ⟨k, hk⟩ : ∃ k : Nat, rkN g who a v = k := ⟨(rkN g who a v).toNat, by omega⟩
  have h1 := rk_le_iff.1 ⟨h0, Int.le_of_eq hk⟩
  rw [hk]
  exact rk_le_iff.2 (lev_sub hm h k v hv h1)

theorem lev_tab (g : G) (who : Int) (a : List Bool) (k : Nat) : lev g who a k = tab g.owner.length fun v => decide (0 ≤ rkN g who a v) && decide (rkN g who a v ≤ k) := by
  refine tab_ext (lev_len k) fun v hv => ?_
  have hl : v < (lev g who a k).length := by rw [lev_len]; exact hv
  rw [List.getElem?_eq_getElem hl]
  congr 1
  have e : (lev g who a k)[v] = hasN (lev g who a k) v := by simp [hasN, hl]
  rw [e]
  have h := rk_le_iff (g := g) (who := who) (a := a) (v := v) (k := k)
  unfold lv at h
  cases hb : hasN (lev g who a k) v with
  | true => obtain ⟨h1, h2⟩ := h.2 hb; simp [h1, h2]
  | false =>
    by_cases c : 0 ≤ rkN g who a v
    · by_cases c2 : rkN g who a v ≤ k
      · rw [h.1 ⟨c, c2⟩] at hb; cases hb
      · simp [c2]
    · simp [c]
theorem regL_tab (g : G) (who : Int) (a : List Bool) : regL g who a = tab g.owner.length fun v => decide (0 ≤ rkN g who a v) := by
  unfold regL regR
  rw [ranksL_len]
  exact tab_congr fun v hv => by rw [ranksL_getD hv]
theorem reg_lev (g : G) (who : Int) (a : List Bool) : regL g who a = lev g who a g.owner.length := by
  rw [regL_tab, lev_tab]
  exact tab_congr fun v _ => by
    have := rk_lt (g := g) (who := who) (a := a) (v := v)
    simp [this]
theorem lev_stop (g : G) (who : Int) (a : List Bool) : lev g who a (g.owner.length + 1) = lev g who a g.owner.length := by
  rw [lev_tab, lev_tab]
  exact tab_congr fun v _ => by
    have := rk_lt (g := g) (who := who) (a := a) (v := v)
    have h2 : rkN g who a v ≤ (g.owner.length : Int) + 1 := by omega
    simp [this, h2]
theorem reg_closed (g : G) (who : Int) (a : List Bool) : orL g (regL g who a) (forceL g who (regL g who a)) = regL g who a := by
  rw [reg_lev]; exact lev_stop g who a
theorem reg_reg (g : G) (who : Int) (a : List Bool) : regL g who (regL g who a) = regL g who a := by
  have h : ∀ k, lev g who (regL g who a) k = regL g who a := by
    intro k
    induction k with
    | zero =>
      have e : lev g who (regL g who a) 0 = tab g.owner.length (hasN (regL g who a)) := rfl
      rw [e]
      exact (tab_ext (regL_len g who a) fun v hv => by
        have hl : v < (regL g who a).length := by rw [regL_len]; exact hv
        simp [hasN, hl]).symm
    | succ k ih => rw [lev, ih, reg_closed]
  rw [reg_lev g who (regL g who a), h]
theorem reg_in (hv : v < g.owner.length) (h : hasN a v = true) : hasN (regL g who a) v = true := by
  rw [has_reg hv, decide_eq_true_eq]
  exact rk_pos_iff.2 ⟨0, (lv_zero hv).2 h⟩
theorem reg_force (hv : v < g.owner.length) (h : forceP g who (regL g who a) v = true) : hasN (regL g who a) v = true := by
  have := congrArg (fun l => hasN l v) (reg_closed g who a)
  simp only [has_or hv, has_force hv, h, Bool.or_true] at this
  exact this.symm

theorem lev_dead (hm : mayE g = 0) (hw : who = 0 ∨ who = 1) : ∀ k, lev g who (tab g.owner.length (deadP g (1 - who))) k = lev g who [] (k + 1)
  | 0 => by
    have e : lev g who (tab g.owner.length (deadP g (1 - who))) 0 = tab g.owner.length (hasN (tab g.owner.length (deadP g (1 - who)))) := rfl
    rw [e, lev]
    unfold orL
    refine tab_congr fun v hv => ?_
    rw [has_force hv]
    have e1 : hasN (tab g.owner.length (deadP g (1 - who))) v = deadP g (1 - who) v := by simp [hasN, hv]
    have e2 : hasN (lev g who [] 0) v = false := by
      cases h : hasN (lev g who [] 0) v with
      | false => rfl
      | true => have := (lv_zero hv).1 h; simp [hasN] at this
    rw [e1, e2, Bool.false_or]
    have h0 : ∀ w : Int, w ∈ nx g v → hasN (lev g who [] 0) w.toNat = false := by
      intro w hw
      obtain ⟨w0, w1⟩ := (nx_ok hm hv).2 w hw
      cases h : hasN (lev g who [] 0) w.toNat with
      | false => rfl
      | true => have := (lv_zero (show w.toNat < g.owner.length by omega)).1 h; simp [hasN] at this
    cases hd : deadP g (1 - who) v with
    | true =>
      symm
      rw [force_iff]
      right
      simp only [deadP, Bool.and_eq_true, beq_iff_eq] at hd
      obtain ⟨d1, d2⟩ := hd
      refine ⟨fun e => ?_, fun w hw => ?_⟩
      · have d1' : ow g v = 1 - who := d1
        omega
      · have : nx g v = [] := List.eq_nil_of_length_eq_zero d2
        rw [this] at hw; cases hw
    | false =>
      symm
      rw [← Bool.not_eq_true, force_iff]
      rintro (⟨h1, w, hw, q⟩ | ⟨h1, h2⟩)
      · rw [h0 w hw] at q; cases q
      · have ho := ow_ok hm hv
        have e3 : ow g v = 1 - who := by omega
        have e4 : nx g v = [] := by
          cases hn : nx g v with
          | nil => rfl
          | cons w l =>
            have q := h2 w (by rw [hn]; simp)
            rw [h0 w (by rw [hn]; simp)] at q; cases q
        have : deadP g (1 - who) v = true := by
          have e5 : g.owner.getD v 0 = 1 - who := e3
          have e6 : (g.next.getD v []).length = 0 := by
            have := congrArg List.length e4
            simpa using this
          simp only [deadP, e5, e6]; simp
        rw [hd] at this; cases this
  | k + 1 => by
    rw [lev, lev_dead hm hw k]; rfl
theorem reg_dead (hm : mayE g = 0) (hw : who = 0 ∨ who = 1) : regL g who (tab g.owner.length (deadP g (1 - who))) = regL g who [] := by
  rw [reg_lev, reg_lev, lev_dead hm hw, lev_stop]
theorem rk_all (h : hasN a v = true) (hv : v < g.owner.length) : rkN g who a v = 0 := rk_at (k := 0) ⟨(lv_zero hv).2 h, fun j hj => by omega⟩
end

/-! ### Rows that are filled -/
def stB (n x : Nat) (P : Nat → Bool) : List AV := tab n fun i => .bool (decide (i < x) && P i)
@[simp] theorem stB_len (n x : Nat) (P : Nat → Bool) : (stB n x P).length = n := length_tab _ _
theorem stB_zero (n : Nat) (P : Nat → Bool) : (tab n fun _ => AV.bool false) = stB n 0 P := tab_congr fun i _ => by simp
theorem stB_set (n x : Nat) (P : Nat → Bool) : (stB n x P).set x (.bool (P x)) = stB n (x + 1) P := by
  unfold stB
  rw [set_tab]
  refine tab_congr fun i hi => ?_
  by_cases e : i = x
  · subst e; simp
  · by_cases h1 : i < x
    · simp [e, h1, show i < x + 1 by omega]
    · simp [e, h1, show ¬ i < x + 1 by omega]
theorem stB_full (n : Nat) (P : Nat → Bool) : stB n n P = bools (tab n P) := by
  simp only [stB, bools, map_tab]
  exact tab_congr fun i hi => by simp [hi]
theorem stB_ones (n x : Nat) (P : Nat → Bool) : ∀ u ∈ stB n x P, u.flat = [u] := ones_bools _ _
theorem upd_two {h : Heap} {o1 o2 : Nat} (hne : o1 ≠ o2) : (∀ X Y, upd (upd h o1 X) o2 Y o1 = X) ∧ ∀ X Y X', upd (upd (upd h o1 X) o2 Y) o1 X' = upd (upd h o1 X') o2 Y := by
  refine ⟨fun X Y => by rw [upd_ne _ _ hne, upd_same], fun X Y X' => ?_⟩
  rw [upd_comm _ _ _ (Ne.symm hne), upd_upd]

theorem keep_who {g : G} {who : Int} {a : List Bool} {v : Nat} (hv : v < g.owner.length) (h : hasN (regL g who a) v = false) :
    hasN a v = false ∧ (ow g v = who → (nx g v).countP (fun w => !hasN (regL g who a) w.toNat) = (nx g v).length) ∧ (ow g v ≠ who → (nx g v).countP (fun w => !hasN (regL g who a) w.toNat) ≠ 0) := by
  refine ⟨?_, fun ho => ?_, fun ho hc => ?_⟩
  · cases q : hasN a v with
    | false => rfl
    | true => rw [reg_in hv q] at h; cases h
  · rw [List.countP_eq_length]
    intro w hw
    cases q : hasN (regL g who a) w.toNat with
    | false => rfl
    | true => rw [reg_force hv (force_iff.2 (.inl ⟨ho, w, hw, q⟩))] at h; cases h
  · rw [List.countP_eq_zero] at hc
    have := reg_force hv (force_iff.2 (.inr ⟨ho, fun w hw => by simpa using hc w hw⟩))
    rw [this] at h; cases h

end Go.Par
