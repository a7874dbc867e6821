/- Games of one priority, and of two: plain laws. -/
import Derived.Test.YtmmfdmhjkcbobaaPyC
import Derived.Test.YtmmfdmhjkcbobaaRcP
set_option linter.unusedSimpArgs false
set_option linter.unusedVariables false
namespace Go.Par

section
variable {g : G} {who : Int} {s : List Bool} {v : Nat}

theorem pr_tab {n : Nat} {f : Nat → Int} (hv : v < n) : fI (tab n f) v = f v := by rw [fI, getD_tab, if_pos hv]
theorem pr_tab' {n : Nat} {f : Nat → Int} (hv : ¬ v < n) : fI (tab n f) v = 0 := by rw [fI, getD_tab, if_neg hv]

theorem tab_ok (hm : mayE g = 0) {f : Nat → Int} (hf : ∀ v, v < g.owner.length → 0 ≤ f v ∧ f v ≤ 5) : POk g (tab g.owner.length f) := by
  refine ⟨hm, length_tab _ _, fun v => ?_, fun v => ?_⟩ <;> by_cases hv : v < g.owner.length
  · rw [pr_tab hv]; exact (hf v hv).1
  · rw [pr_tab' hv]; exact Int.le_refl _
  · rw [pr_tab hv]; exact (hf v hv).2
  · rw [pr_tab' hv]; omega

theorem tab_mayP (hm : mayE g = 0) {f : Nat → Int} (hf : ∀ v, v < g.owner.length → 0 ≤ f v ∧ f v ≤ 5) : mayP g (tab g.owner.length f) = true := by
  simp only [mayP, Bool.and_eq_true, decide_eq_true_eq, List.all_eq_true, length_tab]
  refine ⟨⟨hm, trivial⟩, fun p hp => ?_⟩
  obtain ⟨v, hv, rfl⟩ := mem_tab.1 hp
  have := hf v hv
  omega

/-- Of one priority: all but what the other one attracts of none. -/
theorem one_sol (hm : mayE g = 0) {c : Int} (h0 : 0 ≤ c) (h5 : c ≤ 5) (hw : (who = 0 ∧ c % 2 = 1) ∨ (who = 1 ∧ c % 2 = 0)) (hv : v < g.owner.length) :
    fI (winL g (tab g.owner.length fun _ => c)) v = if hasN (regL g (1 - who) []) v then 1 - who else who := by
  have ok : POk g (tab g.owner.length fun _ => c) := tab_ok hm fun _ _ => ⟨h0, h5⟩
  have hw1 : who = 0 ∨ who = 1 := by rcases hw with h | h <;> simp [h.1]
  have a := att_none (g := g) (who := 1 - who) hm (by omega)
  by_cases q : hasN (regL g (1 - who) []) v = true
  · rw [if_pos q]
    obtain ⟨rk, r1, r2⟩ := a.rank
    refine win_uniq ok (who := 1 - who) (by omega) (T := fI (AL g (1 - who))) (D := inP g (RL g (1 - who))) (fun v h => h.1) ⟨fun v h e => ?_, fun v h e w k => ?_, fun v h e k => ?_⟩ (v := v) ⟨hv, q⟩
    · obtain ⟨w, q1, q2, q3, _⟩ := r1 v h id e
      exact ⟨w, q1, q2, q3⟩
    · exact (r2 v h id e w k (gE_lt hm k h.1)).1
    · have := Way.lt rk (fun x y hx hy k => by
        by_cases e : ow g x = 1 - who
        · obtain ⟨w, q1, q2, q3, q4⟩ := r1 x hx.1 id e
          have := k.2 e
          have : w = y := by omega
          rw [← this]; exact q4
        · exact (r2 x hx.1 id e y k.1 hy.1.1).2) k
      omega
  · rw [if_neg q]
    have ex : ∀ v, (v < g.owner.length ∧ ¬ inP g (RL g (1 - who)) v) → ow g v = who → ∃ w, gE g v w ∧ w < g.owner.length ∧ ¬ inP g (RL g (1 - who)) w := fun v h e => a.oopp v h.1 h.2 (by omega)
    obtain ⟨T, hT⟩ : ∃ T : Nat → Int, ∀ v, (v < g.owner.length ∧ ¬ inP g (RL g (1 - who)) v) → ow g v = who → ∃ w : Nat, T v = w ∧ gE g v w ∧ w < g.owner.length ∧ ¬ inP g (RL g (1 - who)) w :=
      ⟨fun v => open Classical in if h : (v < g.owner.length ∧ ¬ inP g (RL g (1 - who)) v) ∧ ow g v = who then (Classical.choose (ex v h.1 h.2) : Nat) else 0, fun v h e => ⟨Classical.choose (ex v h e), by simp only; rw [dif_pos ⟨h, e⟩], Classical.choose_spec (ex v h e)⟩⟩
    refine win_uniq ok (who := who) hw1 (T := T) (D := fun v => v < g.owner.length ∧ ¬ inP g (RL g (1 - who)) v) (fun v h => h.1) ⟨fun v h e => hT v h e, fun v h e w k => ?_, fun v h e k => ?_⟩ (v := v) ⟨hv, fun z => q z.2⟩
    · have := ow_all hm v
      have hwn := gE_lt hm k h.1
      exact ⟨hwn, a.oown v h.1 h.2 (by omega) w k hwn⟩
    · rw [prN, pr_tab h.1] at e
      omega

def twoP (who : Int) (s : List Bool) (v : Nat) : Int := if hasN s v then who + 1 else who

/-- Of two priorities: what comes again and again. -/
theorem two_sol (hm : mayE g = 0) (hw : who = 0 ∨ who = 1) (hv : v < g.owner.length) :
    fI (winL g (tab g.owner.length (twoP who s))) v = who ↔ hasN (agL g who s) v = true := by
  have ok : POk g (tab g.owner.length (twoP who s)) := tab_ok hm fun v _ => by unfold twoP; split <;> omega
  have prT : ∀ u, u < g.owner.length → hasN s u = true → prN (tab g.owner.length (twoP who s)) u = who.toNat + 1 := fun u hu h => by
    rw [prN, pr_tab hu, twoP, if_pos h]; omega
  have prF : ∀ u, u < g.owner.length → hasN s u = false → prN (tab g.owner.length (twoP who s)) u = who.toNat := fun u hu h => by
    rw [prN, pr_tab hu, twoP, if_neg (by rw [h]; decide)]
  constructor
  · intro q
    have wn := solve_wn ok hw
    obtain ⟨U, hU⟩ : ∃ U, U = tab g.owner.length fun v => decide (fI (winL g (tab g.owner.length (twoP who s))) v = who) := ⟨_, rfl⟩
    have hin : ∀ u, u < g.owner.length → (hasN U u = true ↔ fI (winL g (tab g.owner.length (twoP who s))) u = who) := fun u hu => by
      rw [hU, hasN, getD_tab, if_pos hu, decide_eq_true_eq]
    refine (ag_spec hm s).2.2 U ?_ v hv ((hin v hv).2 q)
    intro u hu hq
    rw [agF]
    have a := att_reg hm hw (andL g s (forceL g who U))
    cases c : hasN (regL g who (andL g s (forceL g who U))) u with
    | true => rfl
    | false =>
      have hs : ∀ x, x < g.owner.length → hasN U x = true → hasN s x = true → hasN (andL g s (forceL g who U)) x = true := by
        intro x hx h1 h2
        rw [has_and hx, h2, has_force hx, Bool.true_and, force_iff]
        have d := (hin x hx).1 h1
        by_cases e : ow g x = who
        · obtain ⟨w, _, q2, q3⟩ := wn.own x ⟨hx, d⟩ e
          exact .inl ⟨e, (w : Int), q2, by simpa using (hin w q3.1).2 q3.2⟩
        · refine .inr ⟨e, fun w k => ?_⟩
          obtain ⟨w0, w1⟩ := (nx_ok hm hx).2 w k
          have k' : gE g x w.toNat := by unfold gE; rw [show ((w.toNat : Nat) : Int) = w by omega]; exact k
          have := wn.opp x ⟨hx, d⟩ e w.toNat k'
          exact (hin _ this.1).2 this.2
      obtain ⟨z, hz, _⟩ := has_circle (E := stE (gE g) (ow g) who (fI (toL g (tab g.owner.length (twoP who s))))) (D := fun x => (x < g.owner.length ∧ hasN U x = true) ∧ ¬ (x < g.owner.length ∧ hasN (regL g who (andL g s (forceL g who U))) x = true)) (n := g.owner.length) (fun x h => h.1.1) (fun x ⟨⟨h1, h2⟩, h3⟩ => by
        have d := (hin x h1).1 h2
        by_cases e : ow g x = who
        · obtain ⟨w, q1, q2, q3⟩ := wn.own x ⟨h1, d⟩ e
          exact ⟨w, ⟨⟨q3.1, (hin w q3.1).2 q3.2⟩, a.oown x h1 h3 e w q2 q3.1⟩, q2, fun _ => q1⟩
        · obtain ⟨w, q1, q2, q3⟩ := a.oopp x h1 h3 e
          have := wn.opp x ⟨h1, d⟩ e w q1
          exact ⟨w, ⟨⟨q2, (hin w q2).2 this.2⟩, q3⟩, q1, fun o => absurd o e⟩) (v := u) ⟨⟨hu, hq⟩, fun h => by rw [c] at h; exact absurd h.2 (by decide)⟩
      have no : ∀ x, ((x < g.owner.length ∧ hasN U x = true) ∧ ¬ (x < g.owner.length ∧ hasN (regL g who (andL g s (forceL g who U))) x = true)) → hasN s x = false := fun x ⟨⟨h1, h2⟩, h3⟩ => by
        cases e : hasN s x with
        | false => rfl
        | true => exact absurd ⟨h1, reg_in h1 (hs x h1 h2 e)⟩ h3
      have zf := hz.fst
      refine (wn.circ z ⟨zf.1.1, (hin z zf.1.1).1 zf.1.2⟩ ?_ (hz.sub fun x h => ⟨⟨h.1.1, (hin x h.1.1).1 h.1.2⟩, ?_⟩)).elim
      · rw [prF z zf.1.1 (no z zf)]; omega
      · rw [prF z zf.1.1 (no z zf), prF x h.1.1 (no x h)]; exact Nat.le_refl _
  · intro q
    obtain ⟨A, hA⟩ : ∃ A, A = agL g who s := ⟨_, rfl⟩
    have e := (ag_spec (who := who) hm s).1
    rw [← hA] at e q
    have a := att_reg hm hw (andL g s (forceL g who A))
    rw [show regL g who (andL g s (forceL g who A)) = A from e] at a
    obtain ⟨rk, r1, r2⟩ := a.rank
    have fo : ∀ x, x < g.owner.length → hasN (andL g s (forceL g who A)) x = true → hasN s x = true ∧ ((ow g x = who ∧ ∃ w ∈ nx g x, hasN A w.toNat = true) ∨ (ow g x ≠ who ∧ ∀ w ∈ nx g x, hasN A w.toNat = true)) := fun x hx h => by
      rw [has_and hx, Bool.and_eq_true, has_force hx, force_iff] at h
      exact h
    have ex : ∀ x, (x < g.owner.length ∧ hasN (andL g s (forceL g who A)) x = true) → ow g x = who → ∃ w : Nat, gE g x w ∧ w < g.owner.length ∧ hasN A w = true := fun x h e => by
      rcases (fo x h.1 h.2).2 with ⟨_, w, k, kA⟩ | ⟨k, _⟩
      · obtain ⟨w0, w1⟩ := (nx_ok hm h.1).2 w k
        exact ⟨w.toNat, by unfold gE; rw [show ((w.toNat : Nat) : Int) = w by omega]; exact k, by omega, kA⟩
      · exact absurd e k
    obtain ⟨T, hT1, hT2⟩ : ∃ T : Nat → Int, (∀ x, (x < g.owner.length ∧ hasN (andL g s (forceL g who A)) x = true) → ow g x = who → ∃ w : Nat, T x = w ∧ gE g x w ∧ w < g.owner.length ∧ hasN A w = true) ∧ (∀ x, ¬ (x < g.owner.length ∧ hasN (andL g s (forceL g who A)) x = true) → T x = fI (awayL g who (andL g s (forceL g who A))) x) :=
      ⟨fun x => open Classical in if h : (x < g.owner.length ∧ hasN (andL g s (forceL g who A)) x = true) ∧ ow g x = who then (Classical.choose (ex x h.1 h.2) : Nat) else fI (awayL g who (andL g s (forceL g who A))) x, fun x h e => ⟨Classical.choose (ex x h e), by simp only; rw [dif_pos ⟨h, e⟩], Classical.choose_spec (ex x h e)⟩, fun x h => by simp only; rw [dif_neg (fun z => h z.1)]⟩
    refine win_uniq ok hw (T := T) (D := fun v => v < g.owner.length ∧ hasN A v = true) (fun v h => h.1) ⟨fun x h e => ?_, fun x h e w k => ?_, fun x h e k => ?_⟩ (v := v) ⟨hv, q⟩
    · by_cases c : x < g.owner.length ∧ hasN (andL g s (forceL g who A)) x = true
      · obtain ⟨w, q1, q2, q3, q4⟩ := hT1 x c e
        exact ⟨w, q1, q2, q3, q4⟩
      · obtain ⟨w, q1, q2, q3, _⟩ := r1 x h c e
        exact ⟨w, by rw [hT2 x c]; exact q1, q2, q3⟩
    · have hwn := gE_lt hm k h.1
      by_cases c : x < g.owner.length ∧ hasN (andL g s (forceL g who A)) x = true
      · rcases (fo x c.1 c.2).2 with ⟨z, _⟩ | ⟨_, z⟩
        · exact absurd z e
        · exact ⟨hwn, by simpa using z _ k⟩
      · exact (r2 x h c e w k hwn).1
    · have nS : hasN s x = false := by
        cases c : hasN s x with
        | false => rfl
        | true => rw [prT x h.1 c] at e; omega
      have no : ∀ y, ((y < g.owner.length ∧ hasN A y = true) ∧ prN (tab g.owner.length (twoP who s)) y ≤ prN (tab g.owner.length (twoP who s)) x) → ¬ (y < g.owner.length ∧ hasN (andL g s (forceL g who A)) y = true) := fun y hy c => by
        have := (fo y c.1 c.2).1
        have h2 := hy.2
        rw [prT y hy.1.1 this, prF x h.1 nS] at h2
        omega
      have := Way.lt rk (fun y z hy hz k => by
        by_cases e : ow g y = who
        · obtain ⟨w, q1, q2, q3, q4⟩ := r1 y hy.1 (no y hy) e
          have h1 := k.2 e
          rw [hT2 y (no y hy)] at h1
          have : w = z := by omega
          rw [← this]; exact q4
        · exact (r2 y hy.1 (no y hy) e z k.1 hz.1.1).2) k
      omega
end
end Go.Par
