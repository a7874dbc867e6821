/- The system's plan, plain: where it is told to go, and that it comes nearer or misses a row of assume. -/
import Derived.Test.YtaipmknajpbpkaaGcA
set_option linter.unusedSimpArgs false
set_option linter.unusedVariables false
set_option maxRecDepth 8000
namespace Go.Par

def lowL (l : List Int) (in_ : List Bool) : Int := (l.find? (hasI in_)).getD (-1)
def goesL (g : G) (from_ in_ : List Bool) (to : List Int) : List Int := tab to.length fun v => if hasN from_ v = true ∧ ow g v = 1 ∧ to.getD v 0 < 0 then lowL (nx g v) in_ else to.getD v 0
def planK (g : G) (A : List (List Bool)) (s : List Bool) (to : List Int) : Nat → List Int
  | 0 => to
  | k + 1 => goesL g (great g (stepL g s (A.getD k []))) (great g (stepL g s (A.getD k []))) (planK g A s to k)
def planR (g : G) (A : List (List Bool)) (goal y : List Bool) (to : List Int) : List Int := planK g A (sureL g goal y) (goesL g (forceL g 1 y) y to) A.length
def planG (g : G) (A : List (List Bool)) (goal : List Bool) : Nat → List Bool → List Int → List Int
  | 0, _, to => to
  | f + 1, y, to => if levelL g A goal y = y then planR g A goal y to else planG g A goal f (levelL g A goal y) (planR g A goal y to)
def planB (g : G) (row z : List Bool) : List Int := goesL g (andL g (goalL g row z) z) z (List.replicate g.owner.length (-1))
def planL (g : G) (A : List (List Bool)) (row z : List Bool) : List Int := planG g A (goalL g row z) (g.owner.length + 1) (botL g) (planB g row z)

@[simp] theorem goesL_len (g : G) (a b : List Bool) (to : List Int) : (goesL g a b to).length = to.length := length_tab _ _
@[simp] theorem planK_len (g : G) (A : List (List Bool)) (s : List Bool) (to : List Int) : ∀ k, (planK g A s to k).length = to.length
  | 0 => rfl
  | k + 1 => by rw [planK, goesL_len, planK_len g A s to k]
@[simp] theorem planR_len (g : G) (A : List (List Bool)) (goal y : List Bool) (to : List Int) : (planR g A goal y to).length = to.length := by simp [planR]
@[simp] theorem planG_len (g : G) (A : List (List Bool)) (goal : List Bool) : ∀ (f : Nat) (y : List Bool) (to : List Int), (planG g A goal f y to).length = to.length
  | 0, _, _ => rfl
  | f + 1, y, to => by
    rw [planG]; split
    · exact planR_len ..
    · rw [planG_len g A goal f]; exact planR_len ..
@[simp] theorem planB_len (g : G) (row z : List Bool) : (planB g row z).length = g.owner.length := by simp [planB]
@[simp] theorem planL_len (g : G) (A : List (List Bool)) (row z : List Bool) : (planL g A row z).length = g.owner.length := by simp [planL]

theorem lowL_some {l : List Int} {in_ : List Bool} (h : ∃ w ∈ l, hasI in_ w = true) : lowL l in_ ∈ l ∧ hasI in_ (lowL l in_) = true := by
  unfold lowL
  cases q : l.find? (hasI in_) with
  | none =>
    obtain ⟨w, hw, e⟩ := h
    exact absurd e (by simpa using List.find?_eq_none.1 q w hw)
  | some w => exact ⟨List.mem_of_find?_eq_some q, List.find?_some q⟩
theorem lowL_none {l : List Int} {in_ : List Bool} (h : ¬ ∃ w ∈ l, hasI in_ w = true) : lowL l in_ = -1 := by
  unfold lowL
  cases q : l.find? (hasI in_) with
  | none => rfl
  | some w => exact absurd ⟨w, List.mem_of_find?_eq_some q, List.find?_some q⟩ h
theorem goes_at {g : G} {a b : List Bool} {to : List Int} {v : Nat} (h : v < to.length) : (goesL g a b to).getD v 0 = if hasN a v = true ∧ ow g v = 1 ∧ to.getD v 0 < 0 then lowL (nx g v) b else to.getD v 0 := by
  unfold goesL; rw [getD_tab, if_pos h]

/-- How far a plan has come: for 'D' it is told, and ranks do not grow. -/
structure PJ (g : G) (A : List (List Bool)) (row z : List Bool) (D : Nat → Prop) (to : List Int) (ρ : Nat → Nat) (b : Nat) : Prop where
  len : to.length = g.owner.length
  inz : ∀ v, v < g.owner.length → D v → hasN z v = true
  lt : ∀ v, v < g.owner.length → D v → ρ v < b
  goal : ∀ v, v < g.owner.length → hasN row v = true → hasN z v = true → ow g v = 1 → ∃ w : Nat, to.getD v 0 = w ∧ gE g v w ∧ hasN z w = true
  no : ∀ v, v < g.owner.length → ¬ D v → ow g v = 1 → ¬ (hasN row v = true ∧ hasN z v = true) → to.getD v 0 = -1
  own : ∀ v, v < g.owner.length → D v → hasN row v = false → ow g v = 1 → ∃ w : Nat, to.getD v 0 = w ∧ gE g v w
  good : ∀ v, v < g.owner.length → D v → hasN row v = false → ∀ w : Nat, gE g v w → (ow g v = 1 → to.getD v 0 = w) → D w ∧ ρ w ≤ ρ v ∧ (ρ w < ρ v ∨ hasN (A.getD (ρ v % A.length) []) v = false)

section
variable {g : G} {A : List (List Bool)} {row z : List Bool} {D : Nat → Prop} {to : List Int} {ρ : Nat → Nat} {b : Nat}
theorem gE_ltP (hm : mayE g = 0) {v w : Nat} (hv : v < g.owner.length) (e : gE g v w) : w < g.owner.length := by
  have := ((nx_ok hm hv).2 _ e).2; omega
theorem PJ.mono (J : PJ g A row z D to ρ b) {b' : Nat} (h : b ≤ b') : PJ g A row z D to ρ b' :=
  ⟨J.len, J.inz, fun v h1 h2 => Nat.lt_of_lt_of_le (J.lt v h1 h2) h, J.goal, J.no, J.own, J.good⟩
theorem PJ.congr (J : PJ g A row z D to ρ b) (hm : mayE g = 0) {D' : Nat → Prop} (h : ∀ v, v < g.owner.length → (D v ↔ D' v)) : PJ g A row z D' to ρ b :=
  ⟨J.len, fun v hv d => J.inz v hv ((h v hv).2 d), fun v hv d => J.lt v hv ((h v hv).2 d), J.goal, fun v hv d => J.no v hv (fun q => d ((h v hv).1 q)), fun v hv d => J.own v hv ((h v hv).2 d),
   fun v hv d r w e s => by
    obtain ⟨h1, h2⟩ := J.good v hv ((h v hv).2 d) r w e s
    exact ⟨(h w (gE_ltP hm hv e)).1 h1, h2⟩⟩

theorem PJ.step (hm : mayE g = 0) (J : PJ g A row z D to ρ b) {X T : List Bool} {l : Nat} (hb : b ≤ l + 1) (hXz : ∀ v, v < g.owner.length → hasN X v = true → hasN z v = true)
    (hT : ∀ w, w < g.owner.length → hasN T w = true → D w ∨ hasN X w = true)
    (hf : ∀ v, v < g.owner.length → hasN X v = true → ¬ D v → hasN row v = false → hasN (forceL g 1 T) v = true ∧ (hasN (A.getD (l % A.length) []) v = false ∨ (b ≤ l ∧ ∀ w, w < g.owner.length → hasN T w = true → D w))) :
    ∃ ρ', PJ g A row z (fun v => D v ∨ hasN X v = true) (goesL g X T to) ρ' (l + 1) := by
  classical
  have hto : ∀ v, v < g.owner.length → (goesL g X T to).getD v 0 = if hasN X v = true ∧ ow g v = 1 ∧ to.getD v 0 < 0 then lowL (nx g v) T else to.getD v 0 := fun v hv => goes_at (by rw [J.len]; exact hv)
  have low : ∀ v, v < g.owner.length → ow g v = 1 → hasN (forceL g 1 T) v = true → ∃ w : Nat, lowL (nx g v) T = w ∧ gE g v w ∧ hasN T w = true := fun v hv o f => by
    rw [has_force hv, force_iff] at f
    rcases f with ⟨_, w, hw, q⟩ | ⟨q, _⟩
    · obtain ⟨h1, h2⟩ := lowL_some (l := nx g v) (in_ := T) ⟨w, hw, q⟩
      have h0 := ((nx_ok hm hv).2 _ h1).1
      obtain ⟨u, hu⟩ := Int.eq_ofNat_of_zero_le h0
      refine ⟨u, hu, ?_, ?_⟩
      · rw [hu] at h1; exact h1
      · rw [hu] at h2; exact h2
    · exact absurd o q
  -- what is told of old stays
  have old : ∀ v, v < g.owner.length → ow g v = 1 → (D v ∨ hasN row v = true ∧ hasN z v = true) → (goesL g X T to).getD v 0 = to.getD v 0 := fun v hv o d => by
    rw [hto v hv, if_neg]
    rintro ⟨_, _, q⟩
    have : ∃ w : Nat, to.getD v 0 = w := by
      rcases d with d | ⟨d1, d2⟩
      · by_cases r : hasN row v = true
        · obtain ⟨w, h, _⟩ := J.goal v hv r (J.inz v hv d) o; exact ⟨w, h⟩
        · obtain ⟨w, h, _⟩ := J.own v hv d (by simpa using r) o; exact ⟨w, h⟩
      · obtain ⟨w, h, _⟩ := J.goal v hv d1 d2 o; exact ⟨w, h⟩
    obtain ⟨w, h⟩ := this
    rw [h] at q; omega
  refine ⟨fun v => if D v then ρ v else l, ⟨by rw [goesL_len]; exact J.len, ?_, ?_, ?_, ?_, ?_, ?_⟩⟩
  · rintro v hv (d | d)
    · exact J.inz v hv d
    · exact hXz v hv d
  · intro v hv _
    show (if D v then ρ v else l) < l + 1
    split
    · rename_i d; have := J.lt v hv d; omega
    · omega
  · intro v hv r q o
    rw [old v hv o (.inr ⟨r, q⟩)]
    exact J.goal v hv r q o
  · intro v hv d o r
    rw [hto v hv, if_neg (fun q => d (.inr q.1))]
    exact J.no v hv (fun q => d (.inl q)) o r
  · rintro v hv d r o
    by_cases dv : D v
    · rw [old v hv o (.inl dv)]; exact J.own v hv dv r o
    · have x := d.resolve_left dv
      have n := J.no v hv dv o (fun q => by rw [r] at q; exact absurd q.1 (by decide))
      obtain ⟨w, h1, h2, _⟩ := low v hv o (hf v hv x dv r).1
      exact ⟨w, by rw [hto v hv, if_pos ⟨x, o, by rw [n]; decide⟩]; exact h1, h2⟩
  · intro v hv d r w e s
    have hw := gE_ltP hm hv e
    show (D w ∨ hasN X w = true) ∧ (if D w then ρ w else l) ≤ (if D v then ρ v else l) ∧ ((if D w then ρ w else l) < (if D v then ρ v else l) ∨ hasN (A.getD ((if D v then ρ v else l) % A.length) []) v = false)
    by_cases dv : D v
    · obtain ⟨h1, h2, h3⟩ := J.good v hv dv r w e (fun o => by rw [← s o, old v hv o (.inl dv)])
      rw [if_pos h1, if_pos dv]
      exact ⟨.inl h1, h2, h3⟩
    · have x := d.resolve_left dv
      obtain ⟨f1, f2⟩ := hf v hv x dv r
      have tw : hasN T w = true := by
        by_cases o : ow g v = 1
        · obtain ⟨u, h1, h2, h3⟩ := low v hv o f1
          have n := J.no v hv dv o (fun q => by rw [r] at q; exact absurd q.1 (by decide))
          have := s o
          rw [hto v hv, if_pos ⟨x, o, by rw [n]; decide⟩, h1] at this
          have : u = w := by omega
          rw [← this]; exact h3
        · rw [has_force hv, force_iff] at f1
          rcases f1 with ⟨q, _⟩ | ⟨_, q⟩
          · exact absurd q o
          · exact q _ e
      rw [if_neg dv]
      refine ⟨hT w hw tw, ?_, ?_⟩
      · split
        · rename_i dw; have := J.lt w hw dw; omega
        · omega
      · rcases f2 with f2 | ⟨f2, f3⟩
        · exact .inr f2
        · left
          have dw := f3 w hw tw
          rw [if_pos dw]
          have := J.lt w hw dw
          omega

/-- One round. -/
theorem PJ.round (hm : mayE g = 0) (hA : 0 < A.length) (hz : forceL g 1 z = z) (hL : levelL g A (goalL g row z) z = z) {y : List Bool} {k : Nat} (yz : leS g.owner.length y z) (up : leS g.owner.length y (levelL g A (goalL g row z) y))
    (J : PJ g A row z (fun v => hasN y v = true) to ρ (A.length * k)) : ∃ ρ', PJ g A row z (fun v => hasN (levelL g A (goalL g row z) y) v = true) (planR g A (goalL g row z) y to) ρ' (A.length * (k + 1)) := by
  obtain ⟨s, hs⟩ : ∃ s, s = sureL g (goalL g row z) y := ⟨_, rfl⟩
  have lz : leS g.owner.length (levelL g A (goalL g row z) y) z := by
    have := (level_mon hm hA (goalL g row z)).mono _ _ yz
    rw [hL] at this; exact this
  have nz : leS g.owner.length (forceL g 1 y) z := by
    have := force_mono hm (who := 1) yz
    rw [hz] at this; exact this
  have xz : ∀ a, a < A.length → leS g.owner.length (great g (stepL g s (A.getD a []))) z := fun a ha v hv q => by
    refine lz v hv ?_
    rw [levelL, levelK_has hv, ← hs]
    exact ⟨a, ha, q⟩
  -- near
  obtain ⟨ρ1, J1⟩ := J.step hm (X := forceL g 1 y) (T := y) (l := A.length * k) (by omega) nz (fun w _ h => .inl h) (fun v hv x _ _ => ⟨x, .inr ⟨Nat.le_refl _, fun w _ h => h⟩⟩)
  have key : ∀ a, a ≤ A.length → ∃ ρ', PJ g A row z (fun v => (hasN y v = true ∨ hasN (forceL g 1 y) v = true) ∨ hasN (levelK g A s a) v = true) (planK g A s (goesL g (forceL g 1 y) y to) a) ρ' (A.length * k + max a 1) := by
    intro a
    induction a with
    | zero => intro _; exact ⟨ρ1, (J1.congr hm fun v hv => ⟨fun h => .inl h, fun h => by rcases h with h | h; exact h; simp [levelK, hasN] at h⟩).mono (by omega)⟩
    | succ a ih =>
      intro ha
      obtain ⟨ρ2, J2⟩ := ih (by omega)
      obtain ⟨x, hx⟩ : ∃ x, x = great g (stepL g s (A.getD a [])) := ⟨_, rfl⟩
      have ex := (great_spec (step_mon hm s (A.getD a []))).1
      rw [← hx] at ex
      have hmod : (A.length * k + a) % A.length = a := by rw [Nat.mul_add_mod]; exact Nat.mod_eq_of_lt (by omega)
      have zx := xz a (by omega)
      rw [← hx] at zx
      obtain ⟨ρ3, J3⟩ := J2.step hm (X := x) (T := x) (l := A.length * k + a) (by omega) zx (fun w _ h => .inr h) (fun v hv q d r => by
        rw [← ex, stepL, has_or hv, Bool.or_eq_true] at q
        rcases q with q | q
        · exfalso
          rw [hs, sureL, has_or hv, Bool.or_eq_true] at q
          rcases q with q | q
          · rw [goalL, has_and hv, r, Bool.false_and] at q; cases q
          · exact d (.inl (.inr q))
        · rw [has_and hv, Bool.and_eq_true, has_not hv] at q
          exact ⟨q.2, .inl (by rw [hmod]; simpa using q.1)⟩)
      refine ⟨ρ3, ?_⟩
      have e : planK g A s (goesL g (forceL g 1 y) y to) (a + 1) = goesL g x x (planK g A s (goesL g (forceL g 1 y) y to) a) := by rw [planK, ← hx]
      rw [e]
      refine (J3.congr hm fun v hv => ?_).mono (by omega)
      rw [levelK, has_or hv, Bool.or_eq_true, ← hx, or_assoc]
  obtain ⟨ρ2, J2⟩ := key A.length (Nat.le_refl _)
  refine ⟨ρ2, ?_⟩
  rw [planR, ← hs]
  refine (J2.congr hm fun v hv => ?_).mono (by rw [Nat.mul_add, Nat.mul_one]; omega)
  rw [levelL, ← hs]
  rw [levelL, ← hs] at up
  refine ⟨?_, fun h => .inr h⟩
  rintro ((h | h) | h)
  · exact up v hv h
  · have : hasN s v = true := by rw [hs, sureL, has_or hv, h, Bool.or_true]
    exact level_sure hm s A.length hA v hv this
  · exact h

theorem PJ.all (hm : mayE g = 0) (hA : 0 < A.length) (hz : forceL g 1 z = z) (hL : levelL g A (goalL g row z) z = z) : ∀ (f : Nat) (y : List Bool) (to : List Int) (ρ : Nat → Nat) (k : Nat), y.length = g.owner.length → leS g.owner.length y z → leS g.owner.length y (levelL g A (goalL g row z) y) →
    fixG (levelL g A (goalL g row z)) f y = z → g.owner.length < f + cntS y → PJ g A row z (fun v => hasN y v = true) to ρ (A.length * k) → ∃ ρ' b, PJ g A row z (fun v => hasN z v = true) (planG g A (goalL g row z) f y to) ρ' b
  | 0, y, to, ρ, k, hl, _, _, _, hc, _ => by have := cntS_le y; omega
  | f + 1, y, to, ρ, k, hl, yz, up, hF, hc, J => by
    obtain ⟨ρ1, J1⟩ := J.round hm hA hz hL yz up
    have M := level_mon hm hA (goalL g row z)
    rw [planG]
    by_cases e : levelL g A (goalL g row z) y = y
    · rw [if_pos e]
      rw [fixG_at e] at hF
      subst hF
      rw [e] at J1
      exact ⟨ρ1, _, J1⟩
    · rw [if_neg e]
      rw [fixG_step e] at hF
      have hc' := (cnt_mono hl (M.len y) up).2 (fun h => e h.symm)
      refine PJ.all hm hA hz hL f _ _ ρ1 (k + 1) (M.len y) ?_ (M.mono _ _ up) hF (by omega) J1
      have := M.mono _ _ yz
      rw [hL] at this; exact this

/-- The plan for one row of ensure. -/
structure PlanOk (g : G) (A : List (List Bool)) (row z : List Bool) (to : List Int) : Prop where
  own : ∀ v, v < g.owner.length → hasN z v = true → ow g v = 1 → ∃ w : Nat, to.getD v 0 = w ∧ gE g v w ∧ hasN z w = true
  rank : ∃ ρ : Nat → Nat, ∀ v, v < g.owner.length → hasN z v = true → hasN row v = false → ∀ w : Nat, gE g v w → (ow g v = 1 → to.getD v 0 = w) → ρ w ≤ ρ v ∧ (ρ w < ρ v ∨ hasN (A.getD (ρ v % A.length) []) v = false)

theorem plan_ok (hm : mayE g = 0) (hA : 0 < A.length) (hz : leastL g A row z = z) : PlanOk g A row z (planL g A row z) := by
  have fz := forced hm hA hz
  obtain ⟨h1, _, h3⟩ := least_spec hm hA row z
  rw [hz] at h1
  have J0 : PJ g A row z (fun v => hasN (botL g) v = true) (planB g row z) (fun _ => 0) (A.length * 0) := by
    have at_ : ∀ v, v < g.owner.length → (planB g row z).getD v 0 = if hasN (andL g (goalL g row z) z) v = true ∧ ow g v = 1 then lowL (nx g v) z else -1 := fun v hv => by
      unfold planB
      rw [goes_at (by simpa using hv)]
      have : (List.replicate g.owner.length (-1 : Int)).getD v 0 = -1 := by simp [hv]
      rw [this]
      by_cases q : hasN (andL g (goalL g row z) z) v = true ∧ ow g v = 1
      · rw [if_pos ⟨q.1, q.2, by decide⟩, if_pos q]
      · rw [if_neg (fun z => q ⟨z.1, z.2.1⟩), if_neg q]
    refine ⟨planB_len .., fun v hv d => ?_, fun v hv d => ?_, fun v hv r q o => ?_, fun v hv d o r => ?_, fun v hv d => ?_, fun v hv d => ?_⟩
    · rw [bot_has hv] at d; cases d
    · rw [bot_has hv] at d; cases d
    · have f : hasN (forceL g 1 z) v = true := by rw [fz]; exact q
      rw [at_ v hv, if_pos ⟨by rw [has_and hv, goalL, has_and hv, r, f, q]; rfl, o⟩]
      rw [has_force hv, force_iff] at f
      rcases f with ⟨_, w, hw, q⟩ | ⟨q, _⟩
      · obtain ⟨h1, h2⟩ := lowL_some (l := nx g v) (in_ := z) ⟨w, hw, q⟩
        obtain ⟨u, hu⟩ := Int.eq_ofNat_of_zero_le ((nx_ok hm hv).2 _ h1).1
        refine ⟨u, hu, ?_, ?_⟩
        · rw [hu] at h1; exact h1
        · rw [hu] at h2; exact h2
      · exact absurd o q
    · rw [at_ v hv, if_neg]
      rintro ⟨q, _⟩
      rw [has_and hv, goalL, has_and hv, Bool.and_eq_true, Bool.and_eq_true] at q
      exact r ⟨q.1.1, q.2⟩
    · rw [bot_has hv] at d; cases d
    · rw [bot_has hv] at d; cases d
  obtain ⟨ρ, b, J⟩ := PJ.all hm hA fz h1 (g.owner.length + 1) (botL g) (planB g row z) _ 0 (len_and _ _ _) (bot_le _) (bot_le _) hz (by omega) J0
  refine ⟨fun v hv q o => ?_, ρ, fun v hv q r w e s => (J.good v hv q r w e s).2⟩
  by_cases r : hasN row v = true
  · exact J.goal v hv r q o
  · have r' : hasN row v = false := by simpa using r
    obtain ⟨w, h1, h2⟩ := J.own v hv q r' o
    exact ⟨w, h1, h2, (J.good v hv q r' w h2 (fun _ => h1)).1⟩
end
end Go.Par
