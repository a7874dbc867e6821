/- Texts PnA PnB PnC PnD PnE PnF PnG PnH, one behind another. -/
import Derived.Test.YtaipmknajpbpkaaGgA
import Derived.Test.YtaipmknajpbpkaaRgA
import Derived.Test.YtaipmknajpbpkaaKgA
import Derived.Test.YtaipmknajpbpkaaCgA
import Derived.Test.YtaipmknajpbpkaaS4A
set_option linter.unusedSimpArgs false
set_option linter.unusedVariables false
set_option maxRecDepth 8000
namespace Go.Par

def lowL (l : List Int) (in_ : List Bool) : Int := (l.find? (hasI in_)).getD (-1)
def goesL (g : G) (from_ in_ : List Bool) (to : List Int) : List Int := tab to.length fun v => if hasN from_ v = true ∧ ow g v = 1 ∧ to.getD v 0 < 0 then lowL (nx g v) in_ else to.getD v 0
def planK (g : G) (A : List (List Bool)) (s : List Bool) (to : List Int) : Nat → List Int
  | 0 => to
  | k + 1 => goesL g (great g (stepL g s (A.getD k []))) (great g (stepL g s (A.getD k []))) (planK g A s to k)
def planR (g : G) (A : List (List Bool)) (goal y : List Bool) (to : List Int) : List Int := planK g A (sureL g goal y) (goesL g (forceL g 1 y) y to) A.length
def planG (g : G) (A : List (List Bool)) (goal : List Bool) : Nat → List Bool → List Int → List Int
  | 0, _, to => to
  | f + 1, y, to => if levelL g A goal y = y then planR g A goal y to else planG g A goal f (levelL g A goal y) (planR g A goal y to)
def planB (g : G) (row z : List Bool) : List Int := goesL g (andL g (goalL g row z) z) z (List.replicate g.owner.length (-1))
def planL (g : G) (A : List (List Bool)) (row z : List Bool) : List Int := planG g A (goalL g row z) (g.owner.length + 1) (botL g) (planB g row z)

@[simp] theorem goesL_len (g : G) (a b : List Bool) (to : List Int) : (goesL g a b to).length = to.length := length_tab _ _
@[simp] theorem planK_len (g : G) (A : List (List Bool)) (s : List Bool) (to : List Int) : ∀ k, (planK g A s to k).length = to.length
  | 0 => rfl
  | k + 1 => by rw [planK, goesL_len, planK_len g A s to k]
@[simp] theorem planR_len (g : G) (A : List (List Bool)) (goal y : List Bool) (to : List Int) : (planR g A goal y to).length = to.length := by simp [planR]
@[simp] theorem planG_len (g : G) (A : List (List Bool)) (goal : List Bool) : ∀ (f : Nat) (y : List Bool) (to : List Int), (planG g A goal f y to).length = to.length
  | 0, _, _ => rfl
  | f + 1, y, to => by
    rw [planG]; split
    · exact planR_len ..
    · rw [planG_len g A goal f]; exact planR_len ..
@[simp] theorem planB_len (g : G) (row z : List Bool) : (planB g row z).length = g.owner.length := by simp [planB]
@[simp] theorem planL_len (g : G) (A : List (List Bool)) (row z : List Bool) : (planL g A row z).length = g.owner.length := by simp [planL]

theorem lowL_some {l : List Int} {in_ : List Bool} (h : ∃ w ∈ l, hasI in_ w = true) : lowL l in_ ∈ l ∧ hasI in_ (lowL l in_) = true := by
  unfold lowL
  cases q : l.find? (hasI in_) with
  | none =>
    obtain ⟨w, hw, e⟩ := h
    exact absurd e (by simpa using List.find?_eq_none.1 q w hw)
  | some w => exact ⟨List.mem_of_find?_eq_some q, List.find?_some q⟩
theorem lowL_none {l : List Int} {in_ : List Bool} (h : ¬ ∃ w ∈ l, hasI in_ w = true) : lowL l in_ = -1 := by
  unfold lowL
  cases q : l.find? (hasI in_) with
  | none => rfl
  | some w => exact absurd ⟨w, List.mem_of_find?_eq_some q, List.find?_some q⟩ h
theorem goes_at {g : G} {a b : List Bool} {to : List Int} {v : Nat} (h : v < to.length) : (goesL g a b to).getD v 0 = if hasN a v = true ∧ ow g v = 1 ∧ to.getD v 0 < 0 then lowL (nx g v) b else to.getD v 0 := by
  unfold goesL; rw [getD_tab, if_pos h]

/-- How far a plan has come: for 'D' it is told, and ranks do not grow. -/
structure PJ (g : G) (A : List (List Bool)) (row z : List Bool) (D : Nat → Prop) (to : List Int) (ρ : Nat → Nat) (b : Nat) : Prop where
  len : to.length = g.owner.length
  inz : ∀ v, v < g.owner.length → D v → hasN z v = true
  lt : ∀ v, v < g.owner.length → D v → ρ v < b
  goal : ∀ v, v < g.owner.length → hasN row v = true → hasN z v = true → ow g v = 1 → ∃ w : Nat, to.getD v 0 = w ∧ gE g v w ∧ hasN z w = true
  no : ∀ v, v < g.owner.length → ¬ D v → ow g v = 1 → ¬ (hasN row v = true ∧ hasN z v = true) → to.getD v 0 = -1
  own : ∀ v, v < g.owner.length → D v → hasN row v = false → ow g v = 1 → ∃ w : Nat, to.getD v 0 = w ∧ gE g v w
  good : ∀ v, v < g.owner.length → D v → hasN row v = false → ∀ w : Nat, gE g v w → (ow g v = 1 → to.getD v 0 = w) → D w ∧ ρ w ≤ ρ v ∧ (ρ w < ρ v ∨ hasN (A.getD (ρ v % A.length) []) v = false)

section
variable {g : G} {A : List (List Bool)} {row z : List Bool} {D : Nat → Prop} {to : List Int} {ρ : Nat → Nat} {b : Nat}
theorem gE_ltP (hm : mayE g = 0) {v w : Nat} (hv : v < g.owner.length) (e : gE g v w) : w < g.owner.length := by
  have := ((nx_ok hm hv).2 _ e).2; omega
theorem PJ.mono (J : PJ g A row z D to ρ b) {b' : Nat} (h : b ≤ b') : PJ g A row z D to ρ b' :=
  ⟨J.len, J.inz, fun v h1 h2 => Nat.lt_of_lt_of_le (J.lt v h1 h2) h, J.goal, J.no, J.own, J.good⟩
theorem PJ.congr (J : PJ g A row z D to ρ b) (hm : mayE g = 0) {D' : Nat → Prop} (h : ∀ v, v < g.owner.length → (D v ↔ D' v)) : PJ g A row z D' to ρ b :=
  ⟨J.len, fun v hv d => J.inz v hv ((h v hv).2 d), fun v hv d => J.lt v hv ((h v hv).2 d), J.goal, fun v hv d => J.no v hv (fun q => d ((h v hv).1 q)), fun v hv d => J.own v hv ((h v hv).2 d),
   fun v hv d r w e s => by
    obtain ⟨h1, h2⟩ := J.good v hv ((h v hv).2 d) r w e s
    exact ⟨(h w (gE_ltP hm hv e)).1 h1, h2⟩⟩

theorem PJ.step (hm : mayE g = 0) (J : PJ g A row z D to ρ b) {X T : List Bool} {l : Nat} (hb : b ≤ l + 1) (hXz : ∀ v, v < g.owner.length → hasN X v = true → hasN z v = true)
    (hT : ∀ w, w < g.owner.length → hasN T w = true → D w ∨ hasN X w = true)
    (hf : ∀ v, v < g.owner.length → hasN X v = true → ¬ D v → hasN row v = false → hasN (forceL g 1 T) v = true ∧ (hasN (A.getD (l % A.length) []) v = false ∨ (b ≤ l ∧ ∀ w, w < g.owner.length → hasN T w = true → D w))) :
    ∃ ρ', PJ g A row z (fun v => D v ∨ hasN X v = true) (goesL g X T to) ρ' (l + 1) := by
  classical
  have hto : ∀ v, v < g.owner.length → (goesL g X T to).getD v 0 = if hasN X v = true ∧ ow g v = 1 ∧ to.getD v 0 < 0 then lowL (nx g v) T else to.getD v 0 := fun v hv => goes_at (by rw [J.len]; exact hv)
  have low : ∀ v, v < g.owner.length → ow g v = 1 → hasN (forceL g 1 T) v = true → ∃ w : Nat, lowL (nx g v) T = w ∧ gE g v w ∧ hasN T w = true := fun v hv o f => by
    rw [has_force hv, force_iff] at f
    rcases f with ⟨_, w, hw, q⟩ | ⟨q, _⟩
    · obtain ⟨h1, h2⟩ := lowL_some (l := nx g v) (in_ := T) ⟨w, hw, q⟩
      have h0 := ((nx_ok hm hv).2 _ h1).1
      obtain ⟨u, hu⟩ := Int.eq_ofNat_of_zero_le h0
      refine ⟨u, hu, ?_, ?_⟩
      · rw [hu] at h1; exact h1
      · rw [hu] at h2; exact h2
    · exact absurd o q
  -- what is told of old stays
  have old : ∀ v, v < g.owner.length → ow g v = 1 → (D v ∨ hasN row v = true ∧ hasN z v = true) → (goesL g X T to).getD v 0 = to.getD v 0 := fun v hv o d => by
    rw [hto v hv, if_neg]
    rintro ⟨_, _, q⟩
    have : ∃ w : Nat, to.getD v 0 = w := by
      rcases d with d | ⟨d1, d2⟩
      · by_cases r : hasN row v = true
        · obtain ⟨w, h, _⟩ := J.goal v hv r (J.inz v hv d) o; exact ⟨w, h⟩
        · obtain ⟨w, h, _⟩ := J.own v hv d (by simpa using r) o; exact ⟨w, h⟩
      · obtain ⟨w, h, _⟩ := J.goal v hv d1 d2 o; exact ⟨w, h⟩
    obtain ⟨w, h⟩ := this
    rw [h] at q; omega
  refine ⟨fun v => if D v then ρ v else l, ⟨by rw [goesL_len]; exact J.len, ?_, ?_, ?_, ?_, ?_, ?_⟩⟩
  · rintro v hv (d | d)
    · exact J.inz v hv d
    · exact hXz v hv d
  · intro v hv _
    show (if D v then ρ v else l) < l + 1
    split
    · rename_i d; have := J.lt v hv d; omega
    · omega
  · intro v hv r q o
    rw [old v hv o (.inr ⟨r, q⟩)]
    exact J.goal v hv r q o
  · intro v hv d o r
    rw [hto v hv, if_neg (fun q => d (.inr q.1))]
    exact J.no v hv (fun q => d (.inl q)) o r
  · rintro v hv d r o
    by_cases dv : D v
    · rw [old v hv o (.inl dv)]; exact J.own v hv dv r o
    · have x := d.resolve_left dv
      have n := J.no v hv dv o (fun q => by rw [r] at q; exact absurd q.1 (by decide))
      obtain ⟨w, h1, h2, _⟩ := low v hv o (hf v hv x dv r).1
      exact ⟨w, by rw [hto v hv, if_pos ⟨x, o, by rw [n]; decide⟩]; exact h1, h2⟩
  · intro v hv d r w e s
    have hw := gE_ltP hm hv e
    show (D w ∨ hasN X w = true) ∧ (if D w then ρ w else l) ≤ (if D v then ρ v else l) ∧ ((if D w then ρ w else l) < (if D v then ρ v else l) ∨ hasN (A.getD ((if D v then ρ v else l) % A.length) []) v = false)
    by_cases dv : D v
    · obtain ⟨h1, h2, h3⟩ := J.good v hv dv r w e (fun o => by rw [← s o, old v hv o (.inl dv)])
      rw [if_pos h1, if_pos dv]
      exact ⟨.inl h1, h2, h3⟩
    · have x := d.resolve_left dv
      obtain ⟨f1, f2⟩ := hf v hv x dv r
      have tw : hasN T w = true := by
        by_cases o : ow g v = 1
        · obtain ⟨u, h1, h2, h3⟩ := low v hv o f1
          have n := J.no v hv dv o (fun q => by rw [r] at q; exact absurd q.1 (by decide))
          have := s o
          rw [hto v hv, if_pos ⟨x, o, by rw [n]; decide⟩, h1] at this
          have : u = w := by omega
          rw [← this]; exact h3
        · rw [has_force hv, force_iff] at f1
          rcases f1 with ⟨q, _⟩ | ⟨_, q⟩
          · exact absurd q o
          · exact q _ e
      rw [if_neg dv]
      refine ⟨hT w hw tw, ?_, ?_⟩
      · split
        · rename_i dw; have := J.lt w hw dw; omega
        · omega
      · rcases f2 with f2 | ⟨f2, f3⟩
        · exact .inr f2
        · left
          have dw := f3 w hw tw
          rw [if_pos dw]
          have := J.lt w hw dw
          omega

/-- One round. -/
theorem PJ.round (hm : mayE g = 0) (hA : 0 < A.length) (hz : forceL g 1 z = z) (hL : levelL g A (goalL g row z) z = z) {y : List Bool} {k : Nat} (yz : leS g.owner.length y z) (up : leS g.owner.length y (levelL g A (goalL g row z) y))
    (J : PJ g A row z (fun v => hasN y v = true) to ρ (A.length * k)) : ∃ ρ', PJ g A row z (fun v => hasN (levelL g A (goalL g row z) y) v = true) (planR g A (goalL g row z) y to) ρ' (A.length * (k + 1)) := by
  obtain ⟨s, hs⟩ : ∃ s, s = sureL g (goalL g row z) y := ⟨_, rfl⟩
  have lz : leS g.owner.length (levelL g A (goalL g row z) y) z := by
    have := (level_mon hm hA (goalL g row z)).mono _ _ yz
    rw [hL] at this; exact this
  have nz : leS g.owner.length (forceL g 1 y) z := by
    have := force_mono hm (who := 1) yz
    rw [hz] at this; exact this
  have xz : ∀ a, a < A.length → leS g.owner.length (great g (stepL g s (A.getD a []))) z := fun a ha v hv q => by
    refine lz v hv ?_
    rw [levelL, levelK_has hv, ← hs]
    exact ⟨a, ha, q⟩
  -- near
  obtain ⟨ρ1, J1⟩ := J.step hm (X := forceL g 1 y) (T := y) (l := A.length * k) (by omega) nz (fun w _ h => .inl h) (fun v hv x _ _ => ⟨x, .inr ⟨Nat.le_refl _, fun w _ h => h⟩⟩)
  have key : ∀ a, a ≤ A.length → ∃ ρ', PJ g A row z (fun v => (hasN y v = true ∨ hasN (forceL g 1 y) v = true) ∨ hasN (levelK g A s a) v = true) (planK g A s (goesL g (forceL g 1 y) y to) a) ρ' (A.length * k + max a 1) := by
    intro a
    induction a with
    | zero => intro _; exact ⟨ρ1, (J1.congr hm fun v hv => ⟨fun h => .inl h, fun h => by rcases h with h | h; exact h; simp [levelK, hasN] at h⟩).mono (by omega)⟩
    | succ a ih =>
      intro ha
      obtain ⟨ρ2, J2⟩ := ih (by omega)
      obtain ⟨x, hx⟩ : ∃ x, x = great g (stepL g s (A.getD a [])) := ⟨_, rfl⟩
      have ex := (great_spec (step_mon hm s (A.getD a []))).1
      rw [← hx] at ex
      have hmod : (A.length * k + a) % A.length = a := by rw [Nat.mul_add_mod]; exact Nat.mod_eq_of_lt (by omega)
      have zx := xz a (by omega)
      rw [← hx] at zx
      obtain ⟨ρ3, J3⟩ := J2.step hm (X := x) (T := x) (l := A.length * k + a) (by omega) zx (fun w _ h => .inr h) (fun v hv q d r => by
        rw [← ex, stepL, has_or hv, Bool.or_eq_true] at q
        rcases q with q | q
        · exfalso
          rw [hs, sureL, has_or hv, Bool.or_eq_true] at q
          rcases q with q | q
          · rw [goalL, has_and hv, r, Bool.false_and] at q; cases q
          · exact d (.inl (.inr q))
        · rw [has_and hv, Bool.and_eq_true, has_not hv] at q
          exact ⟨q.2, .inl (by rw [hmod]; simpa using q.1)⟩)
      refine ⟨ρ3, ?_⟩
      have e : planK g A s (goesL g (forceL g 1 y) y to) (a + 1) = goesL g x x (planK g A s (goesL g (forceL g 1 y) y to) a) := by rw [planK, ← hx]
      rw [e]
      refine (J3.congr hm fun v hv => ?_).mono (by omega)
      rw [levelK, has_or hv, Bool.or_eq_true, ← hx, or_assoc]
  obtain ⟨ρ2, J2⟩ := key A.length (Nat.le_refl _)
  refine ⟨ρ2, ?_⟩
  rw [planR, ← hs]
  refine (J2.congr hm fun v hv => ?_).mono (by rw [Nat.mul_add, Nat.mul_one]; omega)
  rw [levelL, ← hs]
  rw [levelL, ← hs] at up
  refine ⟨?_, fun h => .inr h⟩
  rintro ((h | h) | h)
  · exact up v hv h
  · have : hasN s v = true := by rw [hs, sureL, has_or hv, h, Bool.or_true]
    exact level_sure hm s A.length hA v hv this
  · exact h

theorem PJ.all (hm : mayE g = 0) (hA : 0 < A.length) (hz : forceL g 1 z = z) (hL : levelL g A (goalL g row z) z = z) : ∀ (f : Nat) (y : List Bool) (to : List Int) (ρ : Nat → Nat) (k : Nat), y.length = g.owner.length → leS g.owner.length y z → leS g.owner.length y (levelL g A (goalL g row z) y) →
    fixG (levelL g A (goalL g row z)) f y = z → g.owner.length < f + cntS y → PJ g A row z (fun v => hasN y v = true) to ρ (A.length * k) → ∃ ρ' b, PJ g A row z (fun v => hasN z v = true) (planG g A (goalL g row z) f y to) ρ' b
  | 0, y, to, ρ, k, hl, _, _, _, hc, _ => by have := cntS_le y; omega
  | f + 1, y, to, ρ, k, hl, yz, up, hF, hc, J => by
    obtain ⟨ρ1, J1⟩ := J.round hm hA hz hL yz up
    have M := level_mon hm hA (goalL g row z)
    rw [planG]
    by_cases e : levelL g A (goalL g row z) y = y
    · rw [if_pos e]
      rw [fixG_at e] at hF
      subst hF
      rw [e] at J1
      exact ⟨ρ1, _, J1⟩
    · rw [if_neg e]
      rw [fixG_step e] at hF
      have hc' := (cnt_mono hl (M.len y) up).2 (fun h => e h.symm)
      refine PJ.all hm hA hz hL f _ _ ρ1 (k + 1) (M.len y) ?_ (M.mono _ _ up) hF (by omega) J1
      have := M.mono _ _ yz
      rw [hL] at this; exact this

/-- The plan for one row of ensure. -/
structure PlanOk (g : G) (A : List (List Bool)) (row z : List Bool) (to : List Int) : Prop where
  own : ∀ v, v < g.owner.length → hasN z v = true → ow g v = 1 → ∃ w : Nat, to.getD v 0 = w ∧ gE g v w ∧ hasN z w = true
  rank : ∃ ρ : Nat → Nat, ∀ v, v < g.owner.length → hasN z v = true → hasN row v = false → ∀ w : Nat, gE g v w → (ow g v = 1 → to.getD v 0 = w) → ρ w ≤ ρ v ∧ (ρ w < ρ v ∨ hasN (A.getD (ρ v % A.length) []) v = false)

theorem plan_ok (hm : mayE g = 0) (hA : 0 < A.length) (hz : leastL g A row z = z) : PlanOk g A row z (planL g A row z) := by
  have fz := forced hm hA hz
  obtain ⟨h1, _, h3⟩ := least_spec hm hA row z
  rw [hz] at h1
  have J0 : PJ g A row z (fun v => hasN (botL g) v = true) (planB g row z) (fun _ => 0) (A.length * 0) := by
    have at_ : ∀ v, v < g.owner.length → (planB g row z).getD v 0 = if hasN (andL g (goalL g row z) z) v = true ∧ ow g v = 1 then lowL (nx g v) z else -1 := fun v hv => by
      unfold planB
      rw [goes_at (by simpa using hv)]
      have : (List.replicate g.owner.length (-1 : Int)).getD v 0 = -1 := by simp [hv]
      rw [this]
      by_cases q : hasN (andL g (goalL g row z) z) v = true ∧ ow g v = 1
      · rw [if_pos ⟨q.1, q.2, by decide⟩, if_pos q]
      · rw [if_neg (fun z => q ⟨z.1, z.2.1⟩), if_neg q]
    refine ⟨planB_len .., fun v hv d => ?_, fun v hv d => ?_, fun v hv r q o => ?_, fun v hv d o r => ?_, fun v hv d => ?_, fun v hv d => ?_⟩
    · rw [bot_has hv] at d; cases d
    · rw [bot_has hv] at d; cases d
    · have f : hasN (forceL g 1 z) v = true := by rw [fz]; exact q
      rw [at_ v hv, if_pos ⟨by rw [has_and hv, goalL, has_and hv, r, f, q]; rfl, o⟩]
      rw [has_force hv, force_iff] at f
      rcases f with ⟨_, w, hw, q⟩ | ⟨q, _⟩
      · obtain ⟨h1, h2⟩ := lowL_some (l := nx g v) (in_ := z) ⟨w, hw, q⟩
        obtain ⟨u, hu⟩ := Int.eq_ofNat_of_zero_le ((nx_ok hm hv).2 _ h1).1
        refine ⟨u, hu, ?_, ?_⟩
        · rw [hu] at h1; exact h1
        · rw [hu] at h2; exact h2
      · exact absurd o q
    · rw [at_ v hv, if_neg]
      rintro ⟨q, _⟩
      rw [has_and hv, goalL, has_and hv, Bool.and_eq_true, Bool.and_eq_true] at q
      exact r ⟨q.1.1, q.2⟩
    · rw [bot_has hv] at d; cases d
    · rw [bot_has hv] at d; cases d
  obtain ⟨ρ, b, J⟩ := PJ.all hm hA fz h1 (g.owner.length + 1) (botL g) (planB g row z) _ 0 (len_and _ _ _) (bot_le _) (bot_le _) hz (by omega) J0
  refine ⟨fun v hv q o => ?_, ρ, fun v hv q r w e s => (J.good v hv q r w e s).2⟩
  by_cases r : hasN row v = true
  · exact J.goal v hv r q o
  · have r' : hasN row v = false := by simpa using r
    obtain ⟨w, h1, h2⟩ := J.own v hv q r' o
    exact ⟨w, h1, h2, (J.good v hv q r' w h2 (fun _ => h1)).1⟩
end
end Go.Par

set_option linter.unusedSimpArgs false
set_option linter.unusedVariables false
set_option maxRecDepth 8000
set_option maxHeartbeats 2000000
namespace Go.Par
open Go.Proofs

theorem wrapU {n : Nat} (h : n < 18446744073709551616) : IntKind.u64.wrap (n : Int) = n := by
  unfold IntKind.wrap
  simp [IntKind.bits, IntKind.signed]
  omega
theorem andI_mask {n : Nat} (h : n < 4294967296) : andI .u64 n 4294967295 = n := by
  unfold andI
  have e : (BitVec.ofInt IntKind.u64.bits (n : Int) &&& BitVec.ofInt IntKind.u64.bits 4294967295).toNat = n := by
    rw [BitVec.toNat_and]
    have a : (BitVec.ofInt IntKind.u64.bits (n : Int)).toNat = n := by
      show (BitVec.ofInt 64 (n : Int)).toNat = n
      rw [BitVec.toNat_ofInt]; omega
    have b : (BitVec.ofInt IntKind.u64.bits 4294967295).toNat = 2 ^ 32 - 1 := by decide
    rw [a, b, Nat.and_two_pow_sub_one_eq_mod]; omega
  rw [e]; exact wrapU (by omega)
theorem shrI_32 {n : Nat} (h : n < 4294967296) : shrI .u64 n 32 = 0 := by
  unfold shrI
  have e : min (32 : Int).toNat IntKind.u64.bits = 32 := by decide
  rw [e, Int.fdiv_eq_ediv_of_nonneg _ (by decide)]
  exact Int.ediv_eq_zero_of_lt (by omega) (by omega)

theorem bits_Mul64 (n : Nat) (hn : n ≤ 100000) : Pure Try.prog 113 [.int .u64 1, .int .u64 n] (.tup [.int .u64 0, .int .u64 n]) := by
  have a1 := andI_mask (n := 1) (by omega)
  have a2 := andI_mask (n := n) (by omega)
  have a0 := andI_mask (n := 0) (by omega)
  have s1 := shrI_32 (n := 1) (by omega)
  have s2 := shrI_32 (n := n) (by omega)
  have s0 := shrI_32 (n := 0) (by omega)
  have w := wrapU (n := n) (by omega)
  have w0 := wrapU (n := 0) (by omega)
  simp only [Int.natCast_zero, Int.natCast_one] at a1 a0 s1 s0 w0
  intro h
  refine AC.body Θ_ok Try.func113 rfl rfl (Nat.le_of_ble_eq_true rfl) ?_
  refine AW.seq fun _ k1 => AW.region [] Θ_ok ?_
  simp
  refine k1 _ ?_
  refine AW.seq fun _ k1 => AW.region [] Θ_ok ?_
  simp [a1]
  refine k1 _ ?_
  refine AW.seq fun _ k1 => AW.region [] Θ_ok ?_
  simp [s1]
  refine k1 _ ?_
  refine AW.seq fun _ k1 => AW.region [] Θ_ok ?_
  simp [a2]
  refine k1 _ ?_
  refine AW.seq fun _ k1 => AW.region [] Θ_ok ?_
  simp [s2]
  refine k1 _ ?_
  refine AW.seq fun _ k1 => AW.region [] Θ_ok ?_
  simp [w]
  refine k1 _ ?_
  refine AW.seq fun _ k1 => AW.region [] Θ_ok ?_
  simp [s2, w0]
  refine k1 _ ?_
  refine AW.seq fun _ k1 => AW.region [] Θ_ok ?_
  simp [a0]
  refine k1 _ ?_
  refine AW.seq fun _ k1 => AW.region [] Θ_ok ?_
  simp [s0]
  refine k1 _ ?_
  refine AW.seq fun _ k1 => AW.region [] Θ_ok ?_
  simp [w0]
  refine k1 _ ?_
  refine AW.seq fun _ k1 => AW.region [] Θ_ok ?_
  simp [w0, s0]
  refine k1 _ ?_
  refine AW.seq fun _ kr => AW.region [] Θ_ok ?_
  simp [w]
  refine kr _ (AW.ret ?_)
  simp [Try.f113]
  exact Fin.refl ⟨rfl, rfl⟩

theorem bits_Mul (n : Nat) (hn : n ≤ 100000) : Pure Try.prog 96 [.int .u64 1, .int .u64 n] (.tup [.int .u64 0, .int .u64 n]) := by
  intro h
  refine AC.body Θ_ok Try.func96 rfl rfl (Nat.le_of_ble_eq_true rfl) ?_
  refine AW.seq fun _ k1 => AW.region [] Θ_ok ?_
  simp
  refine k1 _ ?_
  refine AW.seq fun _ k1 => ?_
  refine AW.cond false (by simp [Int.natCast_inj]) (fun h => by cases h) (fun _ => ?_)
  refine AW.skip ?_
  simp
  refine k1 _ ?_
  refine AW.seq fun _ k1 => AW.regionAt 3 [] Θ_ok fun B hB => ?_
  simp
  refine (bits_Mul64 n hn).use (by simp) ?_
  refine hB _ ?_
  clear hB B
  simp
  refine k1 _ ?_
  refine AW.seq fun _ kr => AW.region [] Θ_ok ?_
  simp
  refine kr _ (AW.ret ?_)
  simp [Try.f96]
  exact Fin.refl ⟨rfl, rfl⟩

def repL (n k : Nat) : List Int := List.replicate k (-1) ++ List.replicate (n - k) 0
theorem slices_Repeat (n : Nat) (hn : n ≤ 100000) (h : Heap) : AC Try.prog 71 [.ro true [.int .i64 (-1)], .int .i64 n] h fun r h' => ∃ o, h o = none ∧ r = .mu o n ∧ h' = upd h o (some (obTd (List.replicate n (-1)) true)) := by
  refine AC.body Θ_ok Try.func71 rfl rfl (Nat.le_of_ble_eq_true rfl) ?_
  have n0 : ¬ (n : Int) < 0 := by omega
  have w := wrapU (n := n) (by omega)
  have wi := wrap_nat (n := n) (by omega)
  have n9 : ¬ (9223372036854775807 : Int) < (n : Int) := by omega
  refine AW.seq fun _ k1 => AW.region [] Θ_ok ?_
  simp
  refine k1 _ ?_
  refine AW.seq fun _ k1 => ?_
  refine AW.seq fun _ k2 => AW.region [] Θ_ok ?_
  simp [n0]
  refine k2 _ ?_
  refine AW.cond false (by simp [Int.natCast_inj, n0]) (fun h => by cases h) (fun _ => ?_)
  refine AW.skip ?_
  simp
  refine k1 _ ?_
  have w1 : IntKind.u64.wrap 1 = 1 := wrapU (n := 1) (by omega)
  refine AW.seq fun _ k1 => AW.regionAt 6 [] Θ_ok fun B hB => ?_
  simp [w, w1]
  refine (bits_Mul n hn).use (by simp) ?_
  refine hB _ ?_
  clear hB B
  simp
  refine k1 _ ?_
  refine AW.seq fun _ k1 => ?_
  refine AW.seq fun _ k2 => AW.region [] Θ_ok ?_
  simp [n9]
  refine k2 _ ?_
  refine AW.cond false (by simp [Int.natCast_inj, n9]) (fun h => by cases h) (fun _ => ?_)
  refine AW.skip ?_
  simp
  refine k1 _ ?_
  refine AW.seq fun _ k1 => AW.region [30] Θ_ok ?_
  simp [wi]
  refine ⟨⟨by omega, by omega⟩, fun o ho => k1 _ ?_⟩
  rw [show List.replicate n (AV.int .i64 0) = ints (repL n 0) by simp [ints, repL], flat_ints]
  have rl : ∀ k, k ≤ n → (repL n k).length = n := fun k hk => by unfold repL; simp; omega
  have hO : ∀ L : List Int, upd h o (some (⟨ints L, 3, 1, true⟩ : Ob)) o = some (obTd L true) := fun L => upd_same _ _ _
  have step : ∀ k m, k + m ≤ n → m ≤ k ∨ (k = 0 ∧ m ≤ 1) → (ints (repL n k)).take k ++ List.replicate m (.int .i64 (-1)) ++ (ints (repL n k)).drop (k + m) = ints (repL n (k + m)) := fun k m h1 h2 => by
    unfold repL ints
    simp only [List.map_append, List.map_replicate]
    have e1 : List.take k (List.replicate k (AV.int .i64 (-1)) ++ List.replicate (n - k) (AV.int .i64 0)) = List.replicate k (AV.int .i64 (-1)) := by
      rw [List.take_append_of_le_length (by simp)]; simp
    have e2 : List.drop (k + m) (List.replicate k (AV.int .i64 (-1)) ++ List.replicate (n - k) (AV.int .i64 0)) = List.replicate (n - (k + m)) (AV.int .i64 0) := by
      rw [List.drop_append]; simp
      omega
    rw [e1, e2, List.replicate_append_replicate]
  obtain ⟨m1, hm1⟩ : ∃ m1, m1 = min 1 n := ⟨_, rfl⟩
  have st0 := step 0 m1 (by omega) (.inr ⟨rfl, by omega⟩)
  simp only [List.take_zero, List.nil_append, Nat.zero_add] at st0
  have lr0 : (ints (repL n 0)).length = n := by rw [List.length_map, rl 0 (by omega)]
  refine AW.seqTo ⟨48, [(7, .mu o n), (8, .int .i64 m1)], upd h o (some (obTd (repL n m1) true))⟩ (fun _ k1 => ?_) ?_
  · refine AW.region [] Θ_ok ?_
    simp [hO, lr0]
    refine k1 _ (GStep.eq (by simp [hm1]) (subH_of_eq ?_))
    have e : List.take (min 1 n) [AV.int .i64 (-1)] = List.replicate m1 (.int .i64 (-1)) := by
      rw [hm1]
      rcases Nat.eq_zero_or_pos n with q | q
      · subst q; rfl
      · rw [Nat.min_eq_left q]; rfl
    rw [e, ← hm1, st0]; rfl
  refine AW.seqTo ⟨48, [(7, .mu o n)], upd h o (some (obTd (repL n n) true))⟩ (fun _ k1 => ?_) ?_
  · refine AW.block ?_
    refine AW.loopI (X := Nat) (fun k => k ≤ n ∧ (0 < n → 0 < k)) (fun k => ⟨48, [(7, .mu o n), (8, .int .i64 k)], upd h o (some (obTd (repL n k) true))⟩) (fun k => n - k) m1 ⟨by omega, fun q => by omega⟩ (GStep.eq (by simp) (subH.refl _)) fun k hk => ?_
    obtain ⟨hk, hp⟩ := hk
    refine AW.seq fun _ k2 => ?_
    refine AW.seq fun _ k3 => AW.region [] Θ_ok ?_
    simp
    refine k3 _ ?_
    by_cases hlt : k < n
    · have hk0 : 0 < k := hp (by omega)
      obtain ⟨m, hm⟩ : ∃ m, m = min k (n - k) := ⟨_, rfl⟩
      have st := step k m (by omega) (.inl (by omega))
      have lrk : (repL n k).length = n := rl k hk
      have wk := wrap_nat (n := k + m) (by omega)
      have tk : List.take k (ints (repL n k)) = List.replicate k (.int .i64 (-1)) := by
        unfold repL ints
        simp only [List.map_append, List.map_replicate]
        rw [List.take_append_of_le_length (by simp)]; simp
      have hO : upd h o (some (obTd (repL n k) true)) o = some (obTd (repL n k) true) := upd_same _ _ _
      generalize repL n k = R at *
      refine AW.cond true (by simp [Int.natCast_inj, hlt]) (fun _ => ?_) (fun h => by cases h)
      refine AW.skip ?_
      simp
      refine k2 _ ?_
      refine AW.block ?_
      have hn0 : 0 < n := by omega
      have hmm : m = min k (n - k) := hm
      have kn : k + (n - k) ≤ n := by omega
      refine AW.draw [] 7 [] Θ_ok mixed (by kernel_rfl) (by kernel_rfl) ?_
      simp [vcDraw, vcPre, vcTail, callA, isAlloc, isLoad, effOp, obl, obA, mkOK, valA, hO, hlt, hk0, lrk, hk, tk, hn0, kn, ← hm]
      have mk : min m k = m := by omega
      rw [tk] at st
      refine ⟨k + m, ⟨by omega, by omega⟩, by omega, GStep.eq (by simp; rw [← Int.natCast_add]; exact wk) (subH_of_eq ?_)⟩
      rw [mk, ← List.append_assoc, st]; rfl
    · obtain rfl : k = n := by omega
      refine AW.cond false (by simp [Int.natCast_inj]) (fun h => by cases h) (fun _ => ?_)
      refine AW.exit ?_
      simp
      exact k1 _ (GStep.eq (by simp) (subH.refl _))
  refine AW.seq fun _ kr => AW.region [] Θ_ok ?_
  simp
  refine kr _ (AW.ret ?_)
  simp [Try.f71]
  exact Fin.refl ⟨o, ho, rfl, by simp [repL]⟩

theorem plan_has (r : List Bool) (v : Nat) : Pure Try.prog 78 [.ro false (bools r), .int .i64 v] (.bool (hasN r v)) := by
  intro h
  refine AC.body Θ_ok Try.func78 rfl rfl (Nat.le_of_ble_eq_true rfl) ?_
  refine AW.seq fun _ k1 => AW.region [] Θ_ok ?_
  simp
  refine k1 _ ?_
  by_cases h1 : v < r.length
  · have e : hasN r v = r[v] := by simp [hasN, h1]
    refine AW.seq fun _ kr => AW.region [] Θ_ok ?_
    simp [h1]
    refine kr _ (AW.ret ?_)
    simp [Try.f78]
    exact Fin.refl ⟨by simp [e], rfl⟩
  · have e : hasN r v = false := by simp [hasN, Nat.le_of_not_lt h1]
    refine AW.seq fun _ kr => AW.region [] Θ_ok ?_
    simp [h1]
    refine kr _ (AW.ret ?_)
    simp [Try.f78]
    exact Fin.refl ⟨by simp [e], rfl⟩

def thenN (l : List (List Bool)) (v mem : Nat) : Nat := if hasN (l.getD mem []) v = true then (mem + 1) % l.length else mem
theorem thenN_lt {l : List (List Bool)} {v mem : Nat} (h : mem < l.length) : thenN l v mem < l.length := by
  unfold thenN; split
  · exact Nat.mod_lt _ (by omega)
  · exact h
theorem plan_then (l : List (List Bool)) (v mem : Nat) (hq : mem < l.length) (hl : l.length ≤ 100) : Pure Try.prog 41 [.ro false (bools2 l), .int .i64 v, .int .i64 mem] (.int .i64 (thenN l v mem : Nat)) := by
  have sh := plan_has l[mem] v
  have w := wrap_succ (n := mem) (by omega)
  have l0 : ¬ (l.length : Int) = 0 := by omega
  have l0' : ¬ l = [] := fun e => by rw [e] at hq; simp at hq
  have em : ((mem + 1 : Nat) : Int).tmod (l.length : Int) = ((mem + 1) % l.length : Nat) := by rw [Int.tmod_eq_emod_of_nonneg (by omega)]; rfl
  have gm : l.getD mem [] = l[mem] := by simp [hq]
  unfold thenN
  rw [gm]
  intro h
  refine AC.body Θ_ok Try.func41 rfl rfl (Nat.le_of_ble_eq_true rfl) ?_
  refine AW.seq fun _ k1 => AW.region [] Θ_ok ?_
  simp
  refine k1 _ ?_
  refine AW.seq fun _ k1 => ?_
  refine AW.seq fun _ k2 => AW.regionAt 6 [] Θ_ok fun B hB => ?_
  simp [hq]
  refine sh.use (by simp) ?_
  refine hB _ ?_
  clear hB B
  simp
  refine k2 _ ?_
  by_cases c : hasN l[mem] v = true
  · rw [c]
    refine AW.cond true (by simp [Int.natCast_inj, c]) (fun _ => ?_) (fun h => by cases h)
    refine AW.seq fun _ kr => AW.region [] Θ_ok ?_
    simp [w, l0, l0', em]
    refine kr _ (AW.ret ?_)
    simp [Try.f41]
    exact Fin.refl ⟨by simp [c, Int.tmod_eq_emod_of_nonneg (show (0 : Int) ≤ (mem : Int) + 1 by omega)], rfl⟩
  · have c : hasN l[mem] v = false := by simpa using c
    rw [c]
    refine AW.cond false (by simp [Int.natCast_inj, c]) (fun h => by cases h) (fun _ => ?_)
    refine AW.skip ?_
    simp
    refine k1 _ ?_
    refine AW.seq fun _ kr => AW.region [] Θ_ok ?_
    simp
    refine kr _ (AW.ret ?_)
    simp [Try.f41]
    exact Fin.refl ⟨by simp [c], rfl⟩

theorem pure_weak {P : Program} {f : FuncId} {us : List AV} {r r' : AV} (H : Pure P f us r) (hw : weak r = r') : Pure P f us r' := fun h => (H h).fin fun _ _ ⟨e1, e2⟩ => by
  subst e1 e2; exact Fin.gv (GV.weaken (.inr hw)) (Fin.refl ⟨rfl, rfl⟩)
theorem plan_rows (g : G) (hf : g.fits) (l : List (List Bool)) : Pure Try.prog 39 [g.av, .ro false (bools2 l)] (.ro false (bools2 (rowsL g l))) := by
  refine pure_weak (r := rowsA g l) ?_ (rowsA_weak g l)
  intro h
  refine AC.body Θ_ok Try.func39 rfl rfl (Nat.le_of_ble_eq_true rfl) ?_
  refine AW.seq fun _ k1 => AW.region [] Θ_ok ?_
  simp
  refine k1 _ ?_
  refine AW.seq fun _ k1 => ?_
  refine AW.seq fun _ k2 => AW.region [] Θ_ok ?_
  simp
  refine k2 _ ?_
  by_cases hl : l = []
  · refine AW.cond true (by simp [Int.natCast_inj, hl]) (fun _ => ?_) (fun h => by cases h)
    refine AW.seq fun _ kr => AW.region [] Θ_ok ?_
    simp
    refine (pre_Not g [] hf.owner).use (by simp [G.av]) ?_
    simp
    refine kr _ (AW.ret ?_)
    simp [Try.f39]
    exact Fin.refl ⟨by simp [rowsA, hl, topL], rfl⟩
  · refine AW.cond false (by simp [Int.natCast_inj, hl]) (fun h => by cases h) (fun _ => ?_)
    refine AW.skip ?_
    simp
    refine k1 _ ?_
    refine AW.seq fun _ kr => AW.region [] Θ_ok ?_
    simp
    refine kr _ (AW.ret ?_)
    simp [Try.f39]
    exact Fin.refl ⟨by simp [rowsA, hl], rfl⟩

def planTh (g : G) (E : List (List Bool)) (v mem : Int) : Int := if mayE g = 0 ∧ E.length ≤ 4 ∧ 0 ≤ v ∧ v < g.owner.length ∧ 0 ≤ mem ∧ mem < (rowsL g E).length then (thenN (rowsL g E) v.toNat mem.toNat : Nat) else -1
theorem plan_Then (g : G) (hf : g.fits) (E : List (List Bool)) (v mem : Int) : Pure Try.prog 18 [g.av, .ro false (bools2 E), .int .i64 v, .int .i64 mem] (.int .i64 (planTh g E v mem)) := by
  have sM := graph_May g hf
  have sR := plan_rows g hf E
  obtain ⟨r, hr⟩ : ∃ r, r = planTh g E v mem := ⟨_, rfl⟩
  rw [← hr]
  unfold planTh at hr
  intro h
  refine AC.body Θ_ok Try.func18 rfl rfl (Nat.le_of_ble_eq_true rfl) ?_
  refine AW.seq fun _ k1 => AW.region [] Θ_ok ?_
  simp
  refine k1 _ ?_
  refine AW.seq fun _ k1 => ?_
  by_cases hm : mayE g = 0
  rotate_left
  · rw [if_neg (by rintro ⟨a1, a2, a3, a4, a5, a6⟩; exact hm a1)] at hr
    refine AW.seq fun _ k2 => AW.regionAt 2 [] Θ_ok fun B hB => ?_
    simp
    refine sM.use (by simp [G.av]) ?_
    refine hB _ ?_
    clear hB B
    simp [hm]
    refine k2 _ ?_
    refine AW.cond true (by simp [Int.natCast_inj, hm]) (fun _ => ?_) (fun h => by cases h)
    refine AW.seq fun _ kr => AW.region [] Θ_ok ?_
    simp
    refine kr _ (AW.ret ?_)
    simp [Try.f18]
    exact Fin.refl ⟨by rw [hr], rfl⟩
  by_cases h4 : E.length ≤ 4
  rotate_left
  · rw [if_neg (by rintro ⟨a1, a2, a3, a4, a5, a6⟩; exact h4 a2)] at hr
    have h4i : (4 : Int) < (E.length : Int) := by omega
    rw [hm] at sM
    refine AW.seq fun _ k2 => AW.regionAt 2 [] Θ_ok fun B hB => ?_
    simp
    refine sM.use (by simp [G.av]) ?_
    refine hB _ ?_
    clear hB B
    simp [h4, h4i]
    refine k2 _ ?_
    refine AW.cond true (by simp [Int.natCast_inj, h4, h4i]) (fun _ => ?_) (fun h => by cases h)
    refine AW.seq fun _ kr => AW.region [] Θ_ok ?_
    simp
    refine kr _ (AW.ret ?_)
    simp [Try.f18]
    exact Fin.refl ⟨by rw [hr], rfl⟩
  have h4j : ¬ (4 : Int) < (E.length : Int) := by omega
  have h4k : ¬ 4 < E.length := by omega
  by_cases h0 : 0 ≤ v
  rotate_left
  · rw [if_neg (by rintro ⟨a1, a2, a3, a4, a5, a6⟩; exact h0 a3)] at hr
    have h0i : v < 0 := by omega
    rw [hm] at sM
    refine AW.seq fun _ k2 => AW.regionAt 2 [] Θ_ok fun B hB => ?_
    simp
    refine sM.use (by simp [G.av]) ?_
    refine hB _ ?_
    clear hB B
    simp [h4j, h4k, h0, h0i]
    refine k2 _ ?_
    refine AW.cond true (by simp [Int.natCast_inj, h4j, h4k, h0, h0i]) (fun _ => ?_) (fun h => by cases h)
    refine AW.seq fun _ kr => AW.region [] Θ_ok ?_
    simp
    refine kr _ (AW.ret ?_)
    simp [Try.f18]
    exact Fin.refl ⟨by rw [hr], rfl⟩
  have h0j : ¬ v < 0 := by omega
  by_cases hn : v < g.owner.length
  rotate_left
  · rw [if_neg (by rintro ⟨a1, a2, a3, a4, a5, a6⟩; exact hn a4)] at hr
    have hni : (g.owner.length : Int) ≤ v := by omega
    rw [hm] at sM
    refine AW.seq fun _ k2 => AW.regionAt 2 [] Θ_ok fun B hB => ?_
    simp
    refine sM.use (by simp [G.av]) ?_
    refine hB _ ?_
    clear hB B
    simp [h4j, h4k, h0j, hn, hni]
    refine k2 _ ?_
    refine AW.cond true (by simp [Int.natCast_inj, h4j, h4k, h0j, hn, hni]) (fun _ => ?_) (fun h => by cases h)
    refine AW.seq fun _ kr => AW.region [] Θ_ok ?_
    simp
    refine kr _ (AW.ret ?_)
    simp [Try.f18]
    exact Fin.refl ⟨by rw [hr], rfl⟩
  have hnj : ¬ (g.owner.length : Int) ≤ v := by omega
  rw [hm] at sM
  refine AW.seq fun _ k2 => AW.regionAt 2 [] Θ_ok fun B hB => ?_
  simp
  refine sM.use (by simp [G.av]) ?_
  refine hB _ ?_
  clear hB B
  simp [h4j, h4k, h0j, hnj]
  refine k2 _ ?_
  refine AW.cond false (by simp [Int.natCast_inj, h4j, h4k, h0j, hnj]) (fun h => by cases h) (fun _ => ?_)
  refine AW.skip ?_
  simp
  refine k1 _ ?_
  refine AW.seq fun _ k1 => AW.regionAt 3 [] Θ_ok fun B hB => ?_
  simp
  refine sR.use (by simp [G.av]) ?_
  refine hB _ ?_
  clear hB B
  simp
  refine k1 _ ?_
  obtain ⟨a, rfl⟩ := Int.eq_ofNat_of_zero_le h0
  have rl : (rowsL g E).length ≤ 4 := rowsL_le g E h4
  generalize rowsL g E = l at *
  refine AW.seq fun _ k1 => ?_
  by_cases hb : 0 ≤ mem
  rotate_left
  · rw [if_neg (by rintro ⟨a1, a2, a3, a4, a5, a6⟩; exact hb a5)] at hr
    have hbi : mem < 0 := by omega
    refine AW.seq fun _ k2 => AW.region [] Θ_ok ?_
    simp [hbi]
    refine k2 _ ?_
    refine AW.cond true (by simp [Int.natCast_inj, hbi]) (fun _ => ?_) (fun h => by cases h)
    refine AW.seq fun _ kr => AW.region [] Θ_ok ?_
    simp
    refine kr _ (AW.ret ?_)
    simp [Try.f18]
    exact Fin.refl ⟨by rw [hr], rfl⟩
  have hbj : ¬ mem < 0 := by omega
  by_cases hc : mem < l.length
  rotate_left
  · rw [if_neg (by rintro ⟨a1, a2, a3, a4, a5, a6⟩; exact hc a6)] at hr
    have hci : (l.length : Int) ≤ mem := by omega
    refine AW.seq fun _ k2 => AW.region [] Θ_ok ?_
    simp [hbj, hci]
    refine k2 _ ?_
    refine AW.cond true (by simp [Int.natCast_inj, hbj, hci]) (fun _ => ?_) (fun h => by cases h)
    refine AW.seq fun _ kr => AW.region [] Θ_ok ?_
    simp
    refine kr _ (AW.ret ?_)
    simp [Try.f18]
    exact Fin.refl ⟨by rw [hr], rfl⟩
  have hcj : ¬ (l.length : Int) ≤ mem := by omega
  rw [if_pos ⟨hm, h4, h0, hn, hb, hc⟩] at hr
  obtain ⟨b, rfl⟩ := Int.eq_ofNat_of_zero_le hb
  have hcn : ¬ l.length ≤ b := by omega
  have sT := plan_then l a b (by omega) (by omega)
  refine AW.seq fun _ k2 => AW.region [] Θ_ok ?_
  simp [hbj, hcj, hcn]
  refine k2 _ ?_
  refine AW.cond false (by simp [Int.natCast_inj, hbj, hcj, hcn]) (fun h => by cases h) (fun _ => ?_)
  refine AW.skip ?_
  simp
  refine k1 _ ?_
  refine AW.seq fun _ kr => AW.regionAt 4 [] Θ_ok fun B hB => ?_
  simp
  refine sT.use (by simp) ?_
  refine hB _ ?_
  clear hB B
  simp
  refine kr _ (AW.ret ?_)
  simp [Try.f18]
  exact Fin.refl ⟨by rw [hr]; rfl, rfl⟩
end Go.Par

set_option linter.unusedSimpArgs false
set_option linter.unusedVariables false
set_option maxRecDepth 8000
set_option maxHeartbeats 2000000
namespace Go.Par
open Go.Proofs

theorem r9_PlanThen (g : G) (hf : g.fits) (E : List (List Bool)) (v mem : Int) : Pure Try.prog 17 [g.av, .ro false (bools2 E), .int .i64 v, .int .i64 mem] (.int .i64 (planTh g E v mem)) := by
  have sM := r9_May g hf
  obtain ⟨r, hr⟩ : ∃ r, r = planTh g E v mem := ⟨_, rfl⟩
  rw [← hr]
  unfold planTh at hr
  have rl := rows_len g E
  obtain ⟨N, eN⟩ : ∃ N, N = max 1 E.length := ⟨_, rfl⟩
  have im1 : (if (1 : Int) < (E.length : Int) then (E.length : Int) else 1) = (N : Int) := by rw [imax1, eN]
  have im2 : (if 1 < E.length then (E.length : Int) else 1) = (N : Int) := by rw [imax1', eN]
  rw [rl, ← eN] at hr
  intro h
  refine AC.body Θ_ok Try.func17 rfl rfl (Nat.le_of_ble_eq_true rfl) ?_
  refine AW.seq fun _ k1 => AW.region [] Θ_ok ?_
  simp
  refine k1 _ ?_
  refine AW.seq fun _ k1 => AW.region [] Θ_ok ?_
  simp [im1, im2]
  refine k1 _ ?_
  refine AW.seq fun _ k1 => ?_
  by_cases hm : mayE g = 0
  rotate_left
  · rw [if_neg (by rintro ⟨a1, a2, a3, a4, a5, a6⟩; exact hm a1)] at hr
    refine AW.seq fun _ k2 => AW.regionAt 2 [] Θ_ok fun B hB => ?_
    simp
    refine sM.use (by simp [G.av]) ?_
    refine hB _ ?_
    clear hB B
    simp [hm]
    refine k2 _ ?_
    refine AW.cond true (by simp [Int.natCast_inj, hm]) (fun _ => ?_) (fun h => by cases h)
    refine AW.seq fun _ kr => AW.region [] Θ_ok ?_
    simp
    refine kr _ (AW.ret ?_)
    simp [Try.f17]
    exact Fin.refl ⟨by rw [hr], rfl⟩
  by_cases h4 : E.length ≤ 4
  rotate_left
  · rw [if_neg (by rintro ⟨a1, a2, a3, a4, a5, a6⟩; exact h4 a2)] at hr
    have h4i : (4 : Int) < (E.length : Int) := by omega
    rw [hm] at sM
    refine AW.seq fun _ k2 => AW.regionAt 2 [] Θ_ok fun B hB => ?_
    simp
    refine sM.use (by simp [G.av]) ?_
    refine hB _ ?_
    clear hB B
    simp [h4, h4i]
    refine k2 _ ?_
    refine AW.cond true (by simp [Int.natCast_inj, h4, h4i]) (fun _ => ?_) (fun h => by cases h)
    refine AW.seq fun _ kr => AW.region [] Θ_ok ?_
    simp
    refine kr _ (AW.ret ?_)
    simp [Try.f17]
    exact Fin.refl ⟨by rw [hr], rfl⟩
  have h4j : ¬ (4 : Int) < (E.length : Int) := by omega
  have h4k : ¬ 4 < E.length := by omega
  by_cases h0 : 0 ≤ v
  rotate_left
  · rw [if_neg (by rintro ⟨a1, a2, a3, a4, a5, a6⟩; exact h0 a3)] at hr
    have h0i : v < 0 := by omega
    rw [hm] at sM
    refine AW.seq fun _ k2 => AW.regionAt 2 [] Θ_ok fun B hB => ?_
    simp
    refine sM.use (by simp [G.av]) ?_
    refine hB _ ?_
    clear hB B
    simp [h4j, h4k, h0, h0i]
    refine k2 _ ?_
    refine AW.cond true (by simp [Int.natCast_inj, h4j, h4k, h0, h0i]) (fun _ => ?_) (fun h => by cases h)
    refine AW.seq fun _ kr => AW.region [] Θ_ok ?_
    simp
    refine kr _ (AW.ret ?_)
    simp [Try.f17]
    exact Fin.refl ⟨by rw [hr], rfl⟩
  have h0j : ¬ v < 0 := by omega
  by_cases hn : v < g.owner.length
  rotate_left
  · rw [if_neg (by rintro ⟨a1, a2, a3, a4, a5, a6⟩; exact hn a4)] at hr
    have hni : (g.owner.length : Int) ≤ v := by omega
    rw [hm] at sM
    refine AW.seq fun _ k2 => AW.regionAt 2 [] Θ_ok fun B hB => ?_
    simp
    refine sM.use (by simp [G.av]) ?_
    refine hB _ ?_
    clear hB B
    simp [h4j, h4k, h0j, hn, hni]
    refine k2 _ ?_
    refine AW.cond true (by simp [Int.natCast_inj, h4j, h4k, h0j, hn, hni]) (fun _ => ?_) (fun h => by cases h)
    refine AW.seq fun _ kr => AW.region [] Θ_ok ?_
    simp
    refine kr _ (AW.ret ?_)
    simp [Try.f17]
    exact Fin.refl ⟨by rw [hr], rfl⟩
  have hnj : ¬ (g.owner.length : Int) ≤ v := by omega
  by_cases hb : 0 ≤ mem
  rotate_left
  · rw [if_neg (by rintro ⟨a1, a2, a3, a4, a5, a6⟩; exact hb a5)] at hr
    have hbi : mem < 0 := by omega
    rw [hm] at sM
    refine AW.seq fun _ k2 => AW.regionAt 2 [] Θ_ok fun B hB => ?_
    simp
    refine sM.use (by simp [G.av]) ?_
    refine hB _ ?_
    clear hB B
    simp [h4j, h4k, h0j, hnj, hb, hbi]
    refine k2 _ ?_
    refine AW.cond true (by simp [Int.natCast_inj, h4j, h4k, h0j, hnj, hb, hbi]) (fun _ => ?_) (fun h => by cases h)
    refine AW.seq fun _ kr => AW.region [] Θ_ok ?_
    simp
    refine kr _ (AW.ret ?_)
    simp [Try.f17]
    exact Fin.refl ⟨by rw [hr], rfl⟩
  have hbj : ¬ mem < 0 := by omega
  by_cases hc : mem < N
  rotate_left
  · rw [if_neg (by rintro ⟨a1, a2, a3, a4, a5, a6⟩; exact hc a6)] at hr
    have hci : (N : Int) ≤ mem := by omega
    rw [hm] at sM
    refine AW.seq fun _ k2 => AW.regionAt 2 [] Θ_ok fun B hB => ?_
    simp
    refine sM.use (by simp [G.av]) ?_
    refine hB _ ?_
    clear hB B
    simp [h4j, h4k, h0j, hnj, hbj, hc, hci]
    refine k2 _ ?_
    refine AW.cond true (by simp [Int.natCast_inj, h4j, h4k, h0j, hnj, hbj, hc, hci]) (fun _ => ?_) (fun h => by cases h)
    refine AW.seq fun _ kr => AW.region [] Θ_ok ?_
    simp
    refine kr _ (AW.ret ?_)
    simp [Try.f17]
    exact Fin.refl ⟨by rw [hr], rfl⟩
  have hcj : ¬ (N : Int) ≤ mem := by omega
  rw [hm] at sM
  rw [if_pos ⟨hm, h4, h0, hn, hb, hc⟩] at hr
  obtain ⟨a, rfl⟩ := Int.eq_ofNat_of_zero_le h0
  obtain ⟨b, rfl⟩ := Int.eq_ofNat_of_zero_le hb
  simp only [Int.toNat_natCast] at hr
  refine AW.seq fun _ k2 => AW.regionAt 2 [] Θ_ok fun B hB => ?_
  simp
  refine sM.use (by simp [G.av]) ?_
  refine hB _ ?_
  clear hB B
  simp [h4j, h4k, h0j, hnj, hbj, hcj]
  refine k2 _ ?_
  refine AW.cond false (by simp [Int.natCast_inj, h4j, h4k, h0j, hnj, hbj, hcj]) (fun h => by cases h) (fun _ => ?_)
  refine AW.skip ?_
  simp
  refine k1 _ ?_
  have w := wrap_succ (n := b) (by omega)
  have N0 : ¬ (N : Int) = 0 := by omega
  have N0' : ¬ N = 0 := by omega
  have em : ((b + 1 : Nat) : Int).tmod (N : Int) = ((b + 1) % N : Nat) := by rw [Int.tmod_eq_emod_of_nonneg (by omega)]; rfl
  have em2 : ((b : Int) + 1).tmod (N : Int) = ((b + 1) % N : Nat) := em
  unfold thenN at hr
  rw [rl, ← eN] at hr
  refine AW.seq fun _ k1 => ?_
  by_cases hE : E = []
  · subst hE
    have b0 : b = 0 := by simp at eN; omega
    subst b0
    rw [show ((rowsL g []).getD 0 []) = topL g from rfl, top_has (by omega), if_pos rfl] at hr
    refine AW.seq fun _ k2 => AW.region [] Θ_ok ?_
    simp
    refine k2 _ ?_
    refine AW.cond true (by simp [Int.natCast_inj]) (fun _ => ?_) (fun h => by cases h)
    refine AW.seq fun _ kr => AW.region [] Θ_ok ?_
    simp [w, N0, N0', em, em2, show IntKind.i64.wrap 1 = 1 from rfl]
    refine kr _ (AW.ret ?_)
    simp [Try.f17]
    exact Fin.refl ⟨by rw [hr]; simp [Int.tmod_eq_emod_of_nonneg (show (0 : Int) ≤ 1 by decide)], rfl⟩
  have hE0 : ¬ (E.length : Int) = 0 := by have := List.length_pos_iff.2 hE; omega
  have hbE : b < E.length := by have := List.length_pos_iff.2 hE; omega
  have sH := has_r9 E[b] a
  rw [show (rowsL g E).getD b [] = E[b] by rw [rowsL, if_neg hE]; simp [hbE]] at hr
  refine AW.seq fun _ k2 => AW.regionAt 10 [] Θ_ok fun B hB => ?_
  simp [hE, hE0, hbE]
  refine sH.use (by simp) ?_
  refine hB _ ?_
  clear hB B
  simp
  refine k2 _ ?_
  by_cases c : hasN E[b] a = true
  · rw [if_pos c] at hr
    refine AW.cond true (by simp [Int.natCast_inj, c]) (fun _ => ?_) (fun h => by cases h)
    refine AW.seq fun _ kr => AW.region [] Θ_ok ?_
    simp [w, N0, N0', em, em2]
    refine kr _ (AW.ret ?_)
    simp [Try.f17]
    exact Fin.refl ⟨by rw [hr]; simp, rfl⟩
  · rw [if_neg c] at hr
    have c : hasN E[b] a = false := by simpa using c
    refine AW.cond false (by simp [Int.natCast_inj, c, hE]) (fun h => by cases h) (fun _ => ?_)
    refine AW.skip ?_
    simp
    refine k1 _ ?_
    refine AW.seq fun _ kr => AW.region [] Θ_ok ?_
    simp
    refine kr _ (AW.ret ?_)
    simp [Try.f17]
    exact Fin.refl ⟨by rw [hr], rfl⟩
end Go.Par

set_option linter.unusedSimpArgs false
set_option linter.unusedVariables false
set_option maxRecDepth 8000
set_option maxHeartbeats 2000000
namespace Go.Par
open Go.Proofs

/-- The planner. -/
def obPl (g : G) (A : List (List Bool)) (Z : List Bool) (T : AV) : Ob := ⟨[.ro false (ints g.owner), .ro false (rows g.next), .ro false (bools2 A), .ro false (bools Z), T], 67, 5, true⟩
@[simp] theorem obPl_cells (g : G) (A : List (List Bool)) (Z : List Bool) (T : AV) : (obPl g A Z T).cells = [.ro false (ints g.owner), .ro false (rows g.next), .ro false (bools2 A), .ro false (bools Z), T] := rfl
@[simp] theorem obPl_ty (g : G) (A : List (List Bool)) (Z : List Bool) (T : AV) : (obPl g A Z T).ty = 67 := rfl
@[simp] theorem obPl_sz (g : G) (A : List (List Bool)) (Z : List Bool) (T : AV) : (obPl g A Z T).sz = 5 := rfl
@[simp] theorem obPl_nn (g : G) (A : List (List Bool)) (Z : List Bool) (T : AV) : (obPl g A Z T).nn = true := rfl

section
variable {g : G} (hf : g.fits) (hm : mayE g = 0) {A : List (List Bool)} {Z : List Bool} {T : AV} {a : Nat} {H : Heap} (ha : H a = some (obPl g A Z T))

theorem plan_low1 (in_ : List Bool) (w : Nat) (hw : w < in_.length) : Pure Try.prog 116 [.int .i64 w, .rop [.ro false (bools in_)]] (.bool (hasN in_ w)) := by
  have e : hasN in_ w = in_[w] := by simp [hasN, hw]
  rw [e]
  intro h
  refine AC.body Θ_ok Try.func116 rfl rfl (Nat.le_of_ble_eq_true rfl) ?_
  refine AW.seq fun _ k1 => AW.region [] Θ_ok ?_
  simp
  refine k1 _ ?_
  refine AW.seq fun _ kr => AW.region [] Θ_ok ?_
  simp [hw]
  refine kr _ (AW.ret ?_)
  simp [Try.f116]
  exact Fin.refl ⟨rfl, rfl⟩

/-- The place of the first that is so. -/
def idxL (l : List Int) (p : Int → Bool) : Int := match l.findIdx? p with | some i => (i : Nat) | none => -1
theorem idx_IndexFunc (l : List Int) (hl : l.length ≤ 17592186044416) (Fid : FuncId) (cap : List AV) (p : Int → Bool) (hp : ∀ w ∈ l, Pure Try.prog Fid ([.int .i64 w] ++ cap) (.bool (p w))) :
    Pure Try.prog 115 [.ro false (ints l), .clo Fid cap] (.int .i64 (idxL l p)) := by
  intro h
  refine AC.body Θ_ok Try.func115 rfl rfl (Nat.le_of_ble_eq_true rfl) ?_
  refine AW.seq fun _ k1 => AW.region [] Θ_ok ?_
  simp
  refine k1 _ ?_
  refine AW.seq fun _ k1 => ?_
  refine AW.seq fun _ k2 => AW.region [] Θ_ok ?_
  simp
  refine k2 _ ?_
  refine AW.block ?_
  refine AW.loopI (X := Nat) (fun x => x ≤ l.length ∧ ∀ i (h : i < l.length), i < x → p l[i] = false) (fun x => ⟨19, [(0, .ro false (ints l)), (1, .clo Fid cap), (7, .int .i64 l.length), (8, .int .i64 x)], h⟩) (fun x => l.length - x) 0 ⟨Nat.zero_le _, fun i _ q => absurd q (Nat.not_lt_zero _)⟩ (GStep.eq (by simp) (subH.refl _)) fun x hx => ?_
  obtain ⟨hx, hno⟩ := hx
  refine AW.seq fun _ k2 => AW.region [] Θ_ok ?_
  simp
  refine k2 _ ?_
  by_cases hlt : x < l.length
  · have inc := wrap_succ (show x < 9223372036854775807 by omega)
    have sp := hp l[x] (List.getElem_mem hlt)
    refine AW.seq fun _ k2 => AW.cond true (by simp [Int.natCast_inj, hlt]) (fun _ => ?_) (fun h => by cases h)
    refine AW.skip ?_
    simp
    refine k2 _ ?_
    refine AW.seq fun _ k2 => ?_
    refine AW.block ?_
    refine AW.seq fun _ k3 => AW.region [] Θ_ok ?_
    simp
    refine k3 _ ?_
    refine AW.seq fun _ k4 => AW.regionAt 6 [] Θ_ok fun B hB => ?_
    simp [hlt]
    refine sp.use (by simp [wks_refl]) ?_
    refine hB _ ?_
    clear hB B
    simp
    refine k4 _ ?_
    cases hb : p l[x] with
    | true =>
      refine AW.cond true (by simp [Int.natCast_inj, hb]) (fun _ => ?_) (fun h => by cases h)
      refine AW.seq fun _ kr => AW.region [] Θ_ok ?_
      simp
      refine kr _ (AW.ret ?_)
      simp [Try.f115]
      refine Fin.refl ⟨?_, rfl⟩
      have : l.findIdx? p = some x := by
        rw [List.findIdx?_eq_some_iff_getElem]
        exact ⟨hlt, hb, fun j hj => by rw [hno j (by omega) hj]; decide⟩
      unfold idxL; rw [this]
    | false =>
      refine AW.cond false (by simp [Int.natCast_inj, hb]) (fun h => by cases h) (fun _ => ?_)
      refine AW.skip ?_
      simp
      refine k2 _ ?_
      refine AW.region [] Θ_ok ?_
      simp
      refine ⟨x + 1, ⟨by omega, fun i h q => ?_⟩, by omega, GStep.eq (by simp [inc]) (subH.refl _)⟩
      by_cases e : i = x
      · subst e; exact hb
      · exact hno i h (by omega)
  · obtain rfl : x = l.length := by omega
    refine AW.seq fun _ k2 => AW.cond false (by simp [Int.natCast_inj]) (fun h => by cases h) (fun _ => ?_)
    refine AW.exit ?_
    simp
    refine k1 _ ?_
    refine AW.seq fun _ kr => AW.region [] Θ_ok ?_
    simp
    refine kr _ (AW.ret ?_)
    simp [Try.f115]
    refine Fin.refl ⟨?_, rfl⟩
    have : l.findIdx? p = none := by
      rw [List.findIdx?_eq_none_iff]
      intro w hw
      obtain ⟨i, hi, rfl⟩ := List.getElem_of_mem hw
      exact hno i hi hi
    unfold idxL; rw [this]

include hf hm ha
theorem plan_force (x : List Bool) : AC Try.prog 73 [.ptr a 0, .ro false (bools x)] H fun r h' => r = .ro true (bools (forceL g 1 x)) ∧ h' = H := by
  have s := pre_Force g hf 1 x
  rw [show forceA g 1 x = .ro true (bools (forceL g 1 x)) from if_pos ⟨hm, .inr rfl⟩] at s
  refine AC.body Θ_ok Try.func73 rfl rfl (Nat.le_of_ble_eq_true rfl) ?_
  refine AW.seq fun _ k1 => AW.region [] Θ_ok ?_
  simp
  refine k1 _ ?_
  refine AW.seq fun _ kr => AW.region [] Θ_ok ?_
  simp [ha]
  refine s.use (by simp [G.av]) ?_
  try simp
  refine kr _ (AW.ret ?_)
  simp [Try.f73]
  exact Fin.refl ⟨rfl, rfl⟩

theorem plan_lowest (v : Nat) (hv : v < g.owner.length) (x : List Bool) (hx : x.length = g.owner.length) : AC Try.prog 99 [.ptr a 0, .int .i64 v, .ro false (bools x)] H fun r h' => r = .int .i64 (lowL (nx g v) x) ∧ h' = H := by
  have hvn : v < g.next.length := by have := (may_ok hm).2.1; omega
  have nxv : nx g v = g.next[v] := by simp [nx, hvn]
  have hrow := (nx_ok hm hv).2
  have sI := idx_IndexFunc g.next[v] (hf.row _ (List.getElem_mem hvn)) 116 [.rop [.ro false (bools x)]] (hasI x) (fun w hw => by
    obtain ⟨b0, b1⟩ := hrow w (by rw [nxv]; exact hw)
    obtain ⟨u, rfl⟩ := Int.eq_ofNat_of_zero_le b0
    exact plan_low1 x u (by omega))
  have hlow : lowL (nx g v) x = match g.next[v].findIdx? (hasI x) with | some i => g.next[v].getD i (-1) | none => -1 := by
    rw [nxv]
    unfold lowL
    cases q : g.next[v].findIdx? (hasI x) with
    | none => rw [List.findIdx?_eq_none_iff] at q; rw [List.find?_eq_none.2 (fun w hw => by rw [q w hw]; decide)]; rfl
    | some i =>
      rw [List.findIdx?_eq_some_iff_getElem] at q
      obtain ⟨h1, h2, h3⟩ := q
      have : g.next[v].find? (hasI x) = some g.next[v][i] := by
        rw [List.find?_eq_some_iff_getElem]
        exact ⟨h2, i, h1, rfl, fun j hj => by have := h3 j hj; simpa using this⟩
      rw [this]; simp [h1]
  rw [hlow]
  refine AC.body Θ_ok Try.func99 rfl rfl (Nat.le_of_ble_eq_true rfl) ?_
  refine AW.seq fun _ k1 => AW.region [] Θ_ok ?_
  simp
  refine k1 _ ?_
  refine AW.seq fun _ k1 => AW.regionAt 10 [] Θ_ok fun B hB => ?_
  simp [ha, hvn]
  refine sI.use (by simp) ?_
  refine hB _ ?_
  clear hB B
  simp
  refine k1 _ ?_
  unfold idxL
  cases q : g.next[v].findIdx? (hasI x) with
  | none =>
    refine AW.seq fun _ k1 => ?_
    refine AW.seq fun _ k2 => AW.region [] Θ_ok ?_
    simp
    refine k2 _ ?_
    refine AW.cond true (by simp [Int.natCast_inj]) (fun _ => ?_) (fun h => by cases h)
    refine AW.seq fun _ kr => AW.region [] Θ_ok ?_
    simp
    refine kr _ (AW.ret ?_)
    simp [Try.f99]
    exact Fin.refl ⟨rfl, rfl⟩
  | some i =>
    rw [List.findIdx?_eq_some_iff_getElem] at q
    obtain ⟨h1, _⟩ := q
    have i0 : ¬ (i : Int) < 0 := by omega
    refine AW.seq fun _ k1 => ?_
    refine AW.seq fun _ k2 => AW.region [] Θ_ok ?_
    simp [i0]
    refine k2 _ ?_
    refine AW.cond false (by simp [Int.natCast_inj, i0]) (fun h => by cases h) (fun _ => ?_)
    refine AW.skip ?_
    simp
    refine k1 _ ?_
    refine AW.seq fun _ kr => AW.region [] Θ_ok ?_
    simp [ha, hvn, h1]
    refine kr _ (AW.ret ?_)
    simp [Try.f99]
    exact Fin.refl ⟨by simp [h1], rfl⟩

theorem plan_waits (sure r : List Bool) : AC Try.prog 75 [.ptr a 0, .ro false (bools sure), .ro false (bools r)] H fun r' h' => r' = .ro true (bools (great g (stepL g sure r))) ∧ h' = H := by
  have hb := hf.owner
  have M := step_mon hm sure r
  have hc : cntS (topL g) < g.owner.length + 1 := by have := cntS_le (topL g); rw [topL, len_not] at this; rw [topL]; omega
  have hG : great g (stepL g sure r) = fixG (stepL g sure r) (g.owner.length + 1) (topL g) := rfl
  generalize great g (stepL g sure r) = R at *
  refine AC.body Θ_ok Try.func75 rfl rfl (Nat.le_of_ble_eq_true rfl) ?_
  refine AW.seq fun _ k1 => AW.region [] Θ_ok ?_
  simp
  refine k1 _ ?_
  refine AW.seq fun _ k1 => AW.regionAt 5 [] Θ_ok fun B hB => ?_
  simp [ha]
  refine (pre_Not g [] hb).use (by simp [G.av]) ?_
  refine hB _ ?_
  clear hB B
  simp
  refine k1 _ ?_
  refine AW.block ?_
  refine AW.loopI (X := FX) (fun s => s.x.length = g.owner.length ∧ leS g.owner.length (stepL g sure r s.x) s.x ∧ cntS s.x < s.f ∧ fixG (stepL g sure r) s.f s.x = R) (fun s => ⟨39, [(0, .ptr a 0), (1, .ro false (bools sure)), (2, .ro false (bools r)), (7, .ro true (bools s.x))], H⟩) (fun s => s.f) ⟨topL g, g.owner.length + 1⟩ ⟨len_not _ _, le_top _, hc, hG.symm⟩ (GStep.eq (by simp [topL]) (subH.refl _)) ?_
  rintro ⟨x, f⟩ ⟨hl, hd, hcn, hR⟩
  simp only at hl hd hcn hR ⊢
  have sF := plan_force hf hm ha x
  have sN := pre_Not g r hb
  have sA := pre_And g (notL g r) (forceL g 1 x) hb
  have sO := pre_Or g sure (andL g (notL g r) (forceL g 1 x)) hb
  rw [show orL g sure (andL g (notL g r) (forceL g 1 x)) = stepL g sure r x from rfl] at sO
  refine AW.block ?_
  refine AW.seq fun _ k2 => AW.draw [] 17 [3, 8, 12] Θ_ok mixed (by kernel_rfl) (by kernel_rfl) ?_
  refine vcDraw_split 13 fun B hB => ?_
  simp [vcPre, vcTail, callA, isAlloc, isLoad, effOp, obl, obA, mkOK, valA, ha]
  refine hB _ _ _ ?_
  clear hB B
  simp [vcPre, vcTail, callA, isAlloc, isLoad, effOp, obl, obA, mkOK, valA, ha]
  refine ⟨_, sN.wk (by simp [G.av]), ?_⟩
  refine (sF.wk (by simp)).mono ?_
  rintro r2 h' ⟨rfl, rfl⟩
  simp [ha]
  refine (sA.use (by simp [G.av]) ?_)
  simp [ha]
  refine (sO.use (by simp [G.av]) ?_)
  simp [ha]
  refine k2 _ ?_
  refine AW.seq fun _ k2 => ?_
  refine AW.seq fun _ k3 => AW.region [] Θ_ok ?_
  simp
  have sE := slices_EqualB x (stepL g sure r x) (by omega)
  generalize hbv : decide (x = stepL g sure r x) = bv at sE
  refine sE.use (by simp) ?_
  refine k3 _ ?_
  cases bv
  · have e := of_decide_eq_false hbv
    clear hbv
    refine AW.cond false (by simp [Int.natCast_inj]) (fun h => by cases h) (fun _ => ?_)
    refine AW.skip ?_
    simp
    refine k2 _ ?_
    refine AW.region [] Θ_ok ?_
    simp
    obtain ⟨f', rfl⟩ : ∃ f', f = f' + 1 := ⟨f - 1, by omega⟩
    have hc' := (cnt_mono (M.len x) hl hd).2 (fun q => e q.symm)
    exact ⟨⟨stepL g sure r x, f'⟩, ⟨M.len x, M.mono _ _ hd, by simp only; omega, by simp only; rw [← hR, fixG_step (fun q => e q.symm)]⟩, by simp only; omega, GStep.eq (by simp) (subH.refl _)⟩
  · have e := of_decide_eq_true hbv
    clear hbv
    refine AW.cond true (by simp [Int.natCast_inj]) (fun _ => ?_) (fun h => by cases h)
    refine AW.seq fun _ kr => AW.region [] Θ_ok ?_
    simp
    refine kr _ (AW.ret ?_)
    simp [Try.f75]
    refine Fin.refl ⟨?_, rfl⟩
    rw [← hR, fixG_at e.symm]
end
end Go.Par

set_option linter.unusedSimpArgs false
set_option linter.unusedVariables false
set_option maxRecDepth 8000
set_option maxHeartbeats 2000000
namespace Go.Par
open Go.Proofs

def PLH (h0 : Heap) (a q : Nat) (g : G) (A : List (List Bool)) (Z : List Bool) (to : List Int) : Heap := HL h0 [(a, obPl g A Z (.mu q g.owner.length)), (q, obTd to true)]
section
variable {h0 : Heap} {a q : Nat} (N : HN h0 [a, q]) (g : G) (A : List (List Bool)) (Z : List Bool) (to : List Int)
include N
theorem PLH.ga : PLH h0 a q g A Z to a = some (obPl g A Z (.mu q g.owner.length)) := HL.at (k := 0) N.nd rfl
theorem PLH.gq : PLH h0 a q g A Z to q = some (obTd to true) := HL.at (k := 1) N.nd rfl
theorem PLH.put (to' : List Int) : upd (PLH h0 a q g A Z to) q (some (obTd to' true)) = PLH h0 a q g A Z to' := HL.put (k := 1) N.nd rfl
end

def pgX (g : G) (F I : List Bool) (to : List Int) (x : Nat) : List Int := tab to.length fun v => if v < x ∧ hasN F v = true ∧ ow g v = 1 ∧ to.getD v 0 < 0 then lowL (nx g v) I else to.getD v 0
@[simp] theorem pgX_len (g : G) (F I : List Bool) (to : List Int) (x : Nat) : (pgX g F I to x).length = to.length := length_tab _ _
theorem pgX_zero (g : G) (F I : List Bool) (to : List Int) : pgX g F I to 0 = to := by
  refine (tab_ext rfl fun i hi => ?_).symm
  rw [if_neg (by omega), List.getElem?_eq_getElem hi]; simp [hi]
theorem pgX_all (g : G) (F I : List Bool) (to : List Int) {n : Nat} (h : to.length ≤ n) : pgX g F I to n = goesL g F I to := by
  unfold pgX goesL
  exact tab_congr fun v hv => by simp [show v < n by omega]
theorem pgX_at (g : G) (F I : List Bool) (to : List Int) {x : Nat} (hx : x < to.length) : (pgX g F I to x)[x]? = some to[x] := by
  unfold pgX
  rw [getElem?_tab, if_pos hx, if_neg (by omega)]; simp [hx]
theorem pgX_skip (g : G) (F I : List Bool) (to : List Int) (x : Nat) (h : ¬ (hasN F x = true ∧ ow g x = 1 ∧ to.getD x 0 < 0)) : pgX g F I to (x + 1) = pgX g F I to x := by
  unfold pgX
  refine tab_congr fun v hv => ?_
  by_cases e : v = x
  · subst e; rw [if_neg (fun q => h q.2), if_neg (by omega)]
  · by_cases q : v < x
    · simp [q, show v < x + 1 by omega]
    · simp [q, show ¬ v < x + 1 by omega]
theorem pgX_set (g : G) (F I : List Bool) (to : List Int) (x : Nat) (h : hasN F x = true ∧ ow g x = 1 ∧ to.getD x 0 < 0) : (pgX g F I to x).set x (lowL (nx g x) I) = pgX g F I to (x + 1) := by
  unfold pgX
  rw [set_tab]
  refine tab_congr fun v hv => ?_
  by_cases e : v = x
  · subst e; rw [if_pos rfl, if_pos ⟨by omega, h⟩]
  · rw [if_neg e]
    by_cases q : v < x
    · simp [q, show v < x + 1 by omega]
    · simp [q, show ¬ v < x + 1 by omega]

section
variable {g : G} (hf : g.fits) (hm : mayE g = 0) {A : List (List Bool)} {Z : List Bool} {h0 : Heap} {a q : Nat} (N : HN h0 [a, q])
include hf hm N
theorem plan_goes (F I : List Bool) (hF : F.length = g.owner.length) (hI : I.length = g.owner.length) (to : List Int) (ht : to.length = g.owner.length) :
    AC Try.prog 74 [.ptr a 0, .ro false (bools F), .ro false (bools I)] (PLH h0 a q g A Z to) fun _ h' => h' = PLH h0 a q g A Z (goesL g F I to) := by
  have hn := (may_ok hm).1
  refine AC.body Θ_ok Try.func74 rfl rfl (Nat.le_of_ble_eq_true rfl) ?_
  refine AW.seq fun _ k1 => AW.region [] Θ_ok ?_
  simp
  refine k1 _ ?_
  refine AW.block ?_
  refine AW.loopI (X := Nat) (fun x => x ≤ F.length) (fun x => ⟨48, [(0, .ptr a 0), (2, .ro false (bools I)), (8, .ro false (bools F)), (9, .int .i64 F.length), (10, .int .i64 x)], PLH h0 a q g A Z (pgX g F I to x)⟩) (fun x => F.length - x) 0 (Nat.zero_le _) (GStep.eq (by simp) (by simp only [pgX_zero]; exact subH.refl _)) fun x hx => ?_
  refine AW.seq fun _ k2 => AW.region [] Θ_ok ?_
  simp
  refine k2 _ ?_
  by_cases hlt : x < F.length
  · have inc := wrap_succ (show x < 9223372036854775807 by omega)
    have hxo : x < g.owner.length := by omega
    have hxt : x < to.length := by omega
    have ha := PLH.ga N g A Z (pgX g F I to x)
    have hq := PLH.gq N g A Z (pgX g F I to x)
    have hg := pgX_at g F I to hxt
    have hgl := pgX_len g F I to x
    have hp := PLH.put N g A Z (pgX g F I to x)
    have hFx : hasN F x = F[x] := by simp [hasN, hlt]
    have hox : ow g x = g.owner[x] := by simp [ow, hxo]
    have htx : to.getD x 0 = to[x] := by simp [hxt]
    refine AW.seq fun _ k2 => AW.cond true (by simp [Int.natCast_inj, hlt]) (fun _ => ?_) (fun h => by cases h)
    refine AW.skip ?_
    simp
    refine k2 _ ?_
    refine AW.seq fun _ k2 => ?_
    refine AW.block ?_
    refine AW.seq fun _ k3 => AW.region [] Θ_ok ?_
    simp [hlt]
    refine k3 _ ?_
    have hdr : (ints (pgX g F I to x)).drop x = .int .i64 to[x] :: (ints (pgX g F I to x)).drop (x + 1) := by
      have hh : x < (ints (pgX g F I to x)).length := by rw [List.length_map, hgl]; exact hxt
      rw [List.drop_eq_getElem_cons hh]
      have : (ints (pgX g F I to x))[x] = .int .i64 to[x] := by
        have e : (ints (pgX g F I to x))[x]? = some (.int .i64 to[x]) := by rw [ints, List.getElem?_map, hg]; rfl
        rw [List.getElem?_eq_getElem hh] at e; exact Option.some.inj e
      rw [this]
    by_cases c : hasN F x = true ∧ ow g x = 1 ∧ to.getD x 0 < 0
    · have sL := plan_lowest hf hm ha x hxo I hI
      have st := pgX_set g F I to x c
      have hs := hp ((pgX g F I to x).set x (lowL (nx g x) I))
      rw [st] at hs
      obtain ⟨c1, c2, c3⟩ := c
      rw [hFx] at c1
      rw [hox] at c2
      rw [htx] at c3
      generalize hL : pgX g F I to x = L at *
      generalize PLH h0 a q g A Z L = H at *
      generalize lowL (nx g x) I = y at *
      have hmap : (ints L).set x (.int .i64 y) = ints (pgX g F I to (x + 1)) := by rw [mapi_set, st]
      refine AW.seq fun _ k3 => AW.region [] Θ_ok ?_
      simp [c1, c2, c3, ha, hq, hxo, hxt, hgl, hdr]
      refine k3 _ ?_
      refine AW.cond true (by simp [Int.natCast_inj]) (fun _ => ?_) (fun h => by cases h)
      refine AW.draw [] 8 [3] Θ_ok mixed (by kernel_rfl) (by kernel_rfl) ?_
      simp [vcDraw, vcPre, vcTail, callA, isAlloc, isLoad, effOp, obl, obA, mkOK, valA, ha]
      refine (sL.wk (by simp)).mono ?_
      rintro r2 h' ⟨rfl, rfl⟩
      have ha2 := PLH.ga N g A Z (pgX g F I to (x + 1))
      simp [ha, hq, hxo, hmap, obTd_mk, hs, ha2]
      refine ⟨by omega, k2 _ ?_⟩
      refine AW.region [] Θ_ok ?_
      simp
      exact ⟨x + 1, by omega, by omega, GStep.eq (by simp [inc]) (subH.refl _)⟩
    · have st := pgX_skip g F I to x c
      have fin : ∀ S' : St, GStep S' ⟨48, [(0, .ptr a 0), (2, .ro false (bools I)), (8, .ro false (bools F)), (9, .int .i64 F.length), (10, .int .i64 x)], PLH h0 a q g A Z (pgX g F I to x)⟩ → True := fun _ _ => trivial
      generalize pgX g F I to x = L at *
      refine AW.seqTo ⟨48, [(0, .ptr a 0), (2, .ro false (bools I)), (8, .ro false (bools F)), (9, .int .i64 F.length), (10, .int .i64 x), (36, .bool false)], PLH h0 a q g A Z L⟩ (fun _ k3 => ?_) ?_
      · by_cases c1 : F[x] = true
        · by_cases c2 : g.owner[x] = 1
          · have c3 : ¬ to[x] < 0 := fun e => c ⟨by rw [hFx]; exact c1, by rw [hox]; exact c2, by rw [htx]; exact e⟩
            have c3' := Int.not_lt.1 c3
            refine AW.region [] Θ_ok ?_
            simp [c1, c2, c3, c3', ha, hq, hxo, hxt, hgl, hdr]
            exact k3 _ (GStep.eq (by simp) (subH.refl _))
          · refine AW.region [] Θ_ok ?_
            simp [c1, c2, ha, hxo]
            exact k3 _ (GStep.eq (by simp) (subH.refl _))
        · refine AW.region [] Θ_ok ?_
          simp [c1]
          exact k3 _ (GStep.eq (by simp) (subH.refl _))
      refine AW.cond false (by simp [Int.natCast_inj]) (fun h => by cases h) (fun _ => ?_)
      refine AW.skip ?_
      simp
      refine k2 _ ?_
      refine AW.region [] Θ_ok ?_
      simp
      exact ⟨x + 1, by omega, by omega, GStep.eq (by simp [inc]) (by simp only [st]; exact subH.refl _)⟩
  · obtain rfl : x = F.length := by omega
    refine AW.seq fun _ k2 => AW.cond false (by simp [Int.natCast_inj]) (fun h => by cases h) (fun _ => ?_)
    refine AW.exit ?_
    simp
    exact Fin.refl (by rw [pgX_all g F I to (by omega)])
end
end Go.Par

set_option linter.unusedSimpArgs false
set_option linter.unusedVariables false
set_option maxRecDepth 8000
set_option maxHeartbeats 4000000
namespace Go.Par
open Go.Proofs

structure PX where
  y : List Bool
  to : List Int
  f : Nat

section
variable {g : G} (hf : g.fits) (hm : mayE g = 0) {A : List (List Bool)} (hA : 0 < A.length) (hA4 : A.length ≤ 100) {Z : List Bool} (hZ : Z.length = g.owner.length) {h0 : Heap} {a : Nat} (h0a : h0 a = none)
include hf hm hA hA4 hZ h0a
theorem plan_plans (row : List Bool) : AC Try.prog 40 [.ptr a 0, .ro false (bools row)] (upd h0 a (some (obPl g A Z .nils))) fun _ h' => ∃ q, HN h0 [a, q] ∧ h' = PLH h0 a q g A Z (planL g A row Z) := by
  have hb := hf.owner
  have hn := (may_ok hm).1
  have sR := slices_Repeat g.owner.length (by omega) (upd h0 a (some (obPl g A Z .nils)))
  have hH : upd h0 a (some (obPl g A Z .nils)) a = some (obPl g A Z .nils) := upd_same _ _ _
  refine AC.body Θ_ok Try.func40 rfl rfl (Nat.le_of_ble_eq_true rfl) ?_
  refine AW.seqEx (X := Nat) (fun q => HN h0 [a, q]) (fun q => ⟨101, [(0, .ptr a 0), (1, .ro false (bools row))], PLH h0 a q g A Z (List.replicate g.owner.length (-1))⟩) (fun _ k1 => ?_) ?_
  · refine AW.regionAt 8 [] Θ_ok fun B hB => ?_
    simp [hZ]
    refine (sR.wk (by simp)).mono ?_
    rintro r h' ⟨q, hq, rfl, rfl⟩
    have hqa : q ≠ a := fun e => by rw [e, upd_same] at hq; cases hq
    have hq0 : h0 q = none := by rwa [upd_ne _ _ hqa] at hq
    refine hB _ ?_
    clear hB B
    have e1 : upd (upd h0 a (some (obPl g A Z .nils))) q (some (obTd (List.replicate g.owner.length (-1)) true)) a = some (obPl g A Z .nils) := by rw [upd_ne _ _ (Ne.symm hqa), upd_same]
    simp [e1]
    refine k1 _ q ⟨by simp [Ne.symm hqa], by simp [h0a, hq0]⟩ (GStep.eq (by simp) (subH_of_eq ?_))
    simp only
    rw [upd_comm h0 _ _ (Ne.symm hqa), upd_upd]; rfl
  intro q N
  have sF := fun (to x : List _) => plan_force hf hm (PLH.ga N g A Z to) x
  have sG := fun (F I : List Bool) (hF : F.length = g.owner.length) (hI : I.length = g.owner.length) (to : List Int) (ht : to.length = g.owner.length) => plan_goes (A := A) (Z := Z) hf hm N F I hF hI to ht
  have sW := fun (to : List Int) (sure r : List Bool) => plan_waits hf hm (PLH.ga N g A Z to) sure r
  have gA := PLH.ga N g A Z
  obtain ⟨goal, hgoal⟩ : ∃ goal, goal = goalL g row Z := ⟨_, rfl⟩
  have eL : planL g A row Z = planG g A goal (g.owner.length + 1) (botL g) (planB g row Z) := by rw [hgoal]; rfl
  have eB : planB g row Z = goesL g (andL g goal Z) Z (List.replicate g.owner.length (-1)) := by rw [hgoal]; rfl
  have lB : (planB g row Z).length = g.owner.length := planB_len ..
  rw [eL]
  obtain ⟨to0, hto0⟩ : ∃ to0 : List Int, to0 = List.replicate g.owner.length (-1) := ⟨_, rfl⟩
  have lt0 : to0.length = g.owner.length := by rw [hto0]; simp
  rw [← hto0] at eB ⊢
  have g0 := gA to0
  have f0 := sF to0 Z
  have sA1 := pre_And g row (forceL g 1 Z) hb
  rw [show andL g row (forceL g 1 Z) = goal by rw [hgoal]; rfl] at sA1
  have sA2 := pre_And g goal Z hb
  have sG0 := sG (andL g goal Z) Z (len_and _ _ _) hZ to0 lt0
  rw [← eB] at sG0
  have sA3 := pre_And g [] [] hb
  rw [show andL g [] [] = botL g from rfl] at sA3
  obtain ⟨H0, hH0⟩ : ∃ H0, H0 = PLH h0 a q g A Z to0 := ⟨_, rfl⟩
  rw [← hH0] at g0 f0 sG0 ⊢
  refine AW.seq fun _ k1 => AW.draw [] 10 [3, 9] Θ_ok mixed (by kernel_rfl) (by kernel_rfl) ?_
  simp [vcDraw, vcPre, vcTail, callA, isAlloc, isLoad, effOp, obl, obA, mkOK, valA, g0]
  refine (f0.wk (by simp)).mono ?_
  rintro r h' ⟨rfl, rfl⟩
  simp [g0]
  refine sA1.use (by simp [G.av]) ?_
  simp [g0]
  refine k1 _ ?_
  refine AW.seq fun _ k1 => AW.draw [] 15 [4, 9] Θ_ok mixed (by kernel_rfl) (by kernel_rfl) ?_
  refine vcDraw_split 10 fun B hB => ?_
  simp [vcPre, vcTail, callA, isAlloc, isLoad, effOp, obl, obA, mkOK, valA, g0]
  refine hB _ _ _ ?_
  clear hB B
  simp [vcPre, vcTail, callA, isAlloc, isLoad, effOp, obl, obA, mkOK, valA, g0]
  refine ⟨_, sA2.wk (by simp [G.av]), ?_⟩
  try simp [g0]
  refine (sG0.wk (by simp)).mono ?_
  rintro r h' rfl
  have g1 := gA (planB g row Z)
  simp [g1]
  refine k1 _ ?_
  clear sG0 f0 g0 sA2 sA1
  refine AW.seq fun _ k1 => AW.regionAt 5 [] Θ_ok fun B hB => ?_
  simp [g1]
  refine sA3.use (by simp [G.av]) ?_
  refine hB _ ?_
  clear hB B
  simp
  refine k1 _ ?_
  refine AW.seq fun _ k1 => AW.region [] Θ_ok ?_
  simp
  refine k1 _ ?_
  refine AW.block ?_
  generalize planB g row Z = to1 at *
  obtain ⟨R, hR⟩ : ∃ R, R = planG g A goal (g.owner.length + 1) (botL g) to1 := ⟨_, rfl⟩
  rw [← hR]
  clear eL eB g1 sA3 lt0
  have M := level_mon hm hA goal
  refine AW.loopI (X := PX) (fun s => s.y.length = g.owner.length ∧ s.to.length = g.owner.length ∧ leS g.owner.length s.y (levelL g A goal s.y) ∧ g.owner.length < s.f + cntS s.y ∧ planG g A goal s.f s.y s.to = R) (fun s => ⟨101, [(0, .ptr a 0), (4, .ro true (bools goal)), (5, .ro false (bools s.y)), (6, .bnd 75 [.ptr a 0])], PLH h0 a q g A Z s.to⟩) (fun s => s.f) ⟨botL g, to1, g.owner.length + 1⟩ ⟨len_and _ _ _, lB, bot_le _, by simp only; omega, hR.symm⟩ ?_ ?_
  · exact GStep.trans (GStep.weaken (t := 5) (.ro false (bools (botL g))) rfl (.inl (by simp))) (GStep.eq (by simp) (subH.refl _))
  clear hR lB
  rintro ⟨y, to, f⟩ ⟨ly, lt, up, hc, hP⟩
  simp only at ly lt up hc hP ⊢
  refine AW.block ?_
  have g1 := gA to
  have f1 := sF to y
  obtain ⟨f', rfl⟩ : ∃ f', f = f' + 1 := ⟨f - 1, by have := cntS_le y; omega⟩
  rw [planG] at hP
  obtain ⟨near, hnear⟩ : ∃ near, near = forceL g 1 y := ⟨_, rfl⟩
  have lnear : near.length = g.owner.length := by rw [hnear]; exact len_force _ _ _
  obtain ⟨sure, hsure⟩ : ∃ sure, sure = sureL g goal y := ⟨_, rfl⟩
  have sO := pre_Or g goal near hb
  rw [show orL g goal near = sure by rw [hsure, hnear]; rfl] at sO
  obtain ⟨to2, hto2⟩ : ∃ to2, to2 = goesL g near y to := ⟨_, rfl⟩
  have lt2 : to2.length = g.owner.length := by rw [hto2, goesL_len]; exact lt
  have sG1 := sG near y lnear ly to lt
  rw [← hto2] at sG1
  have eR : planR g A goal y to = planK g A sure to2 A.length := by rw [hsure, hto2, hnear]; rfl
  have eV : levelL g A goal y = levelK g A sure A.length := by rw [hsure]; rfl
  rw [← hnear] at f1
  rw [eR] at hP
  refine AW.seq fun _ k2 => AW.regionAt 3 [] Θ_ok fun B hB => ?_
  simp [g1]
  refine (f1.wk (by simp)).mono ?_
  rintro r h' ⟨rfl, rfl⟩
  refine hB _ ?_
  clear hB B
  simp
  refine k2 _ ?_
  refine AW.seq fun _ k2 => AW.regionAt 7 [] Θ_ok fun B hB => ?_
  simp [g1]
  refine sO.use (by simp [G.av]) ?_
  refine hB _ ?_
  clear hB B
  simp
  refine k2 _ ?_
  refine AW.seq fun _ k2 => AW.region [] Θ_ok ?_
  simp
  refine (sG1.wk (by simp)).mono ?_
  rintro r h' rfl
  refine k2 _ ?_
  clear sG1 g1 f1 sO
  refine AW.seq fun _ k2 => AW.region [] Θ_ok ?_
  simp
  refine k2 _ ?_
  refine AW.weaken 9 (.ro false (bools (levelK g A sure 0))) rfl (.inl (by simp [levelK])) ?_
  refine AW.seq fun _ k2 => ?_
  have g2 := gA to2
  refine AW.seq fun _ k3 => AW.region [] Θ_ok ?_
  simp [g2]
  refine k3 _ ?_
  refine AW.block ?_
  refine AW.loopI (X := Nat) (fun x => x ≤ A.length) (fun x => ⟨101, [(0, .ptr a 0), (4, .ro true (bools goal)), (5, .ro false (bools y)), (6, .bnd 75 [.ptr a 0]), (8, .ro true (bools sure)), (9, .ro false (bools (levelK g A sure x))), (75, .ro false (bools2 A)), (76, .int .i64 A.length), (77, .int .i64 x)], PLH h0 a q g A Z (planK g A sure to2 x)⟩) (fun x => A.length - x) 0 (Nat.zero_le _) (GStep.eq (by simp) (subH.refl _)) fun x hx => ?_
  refine AW.seq fun _ k3 => AW.region [] Θ_ok ?_
  simp
  refine k3 _ ?_
  by_cases hlt : x < A.length
  · have inc := wrap_succ (show x < 9223372036854775807 by omega)
    have sWx := sW (planK g A sure to2 x) sure A[x]
    obtain ⟨gr, hgr⟩ : ∃ gr, gr = great g (stepL g sure A[x]) := ⟨_, rfl⟩
    have lgr : gr.length = g.owner.length := by rw [hgr]; exact (great_spec (step_mon hm sure A[x])).2.1
    have ltx : (planK g A sure to2 x).length = g.owner.length := by rw [planK_len]; exact lt2
    have sGx := sG gr gr lgr lgr (planK g A sure to2 x) ltx
    have gAx : A.getD x [] = A[x] := by simp [hlt]
    have e1 : goesL g gr gr (planK g A sure to2 x) = planK g A sure to2 (x + 1) := by rw [planK, gAx, ← hgr]
    have so := pre_Or g (levelK g A sure x) gr hb
    have e2 : orL g (levelK g A sure x) gr = levelK g A sure (x + 1) := by rw [levelK, gAx, ← hgr]
    rw [e2] at so
    rw [e1] at sGx
    rw [← hgr] at sWx
    have g3 := gA (planK g A sure to2 (x + 1))
    refine AW.seq fun _ k3 => AW.cond true (by simp [Int.natCast_inj, hlt]) (fun _ => ?_) (fun h => by cases h)
    refine AW.skip ?_
    simp
    refine k3 _ ?_
    refine AW.seq fun _ k3 => ?_
    refine AW.block ?_
    refine AW.seq fun _ k4 => AW.region [] Θ_ok ?_
    simp [hlt]
    refine k4 _ ?_
    refine AW.seq fun _ k4 => AW.regionAt 4 [] Θ_ok fun B hB => ?_
    simp
    refine (sWx.wk (by simp)).mono ?_
    rintro r h' ⟨rfl, rfl⟩
    refine hB _ ?_
    clear hB B
    simp
    refine k4 _ ?_
    refine AW.seq fun _ k4 => AW.region [] Θ_ok ?_
    simp
    refine (sGx.wk (by simp)).mono ?_
    rintro r h' rfl
    refine k4 _ ?_
    refine AW.regionAt 7 [] Θ_ok fun B hB => ?_
    simp [g3]
    refine so.use (by simp [G.av]) ?_
    refine hB _ ?_
    clear hB B
    simp
    refine k3 _ ?_
    refine AW.region [] Θ_ok ?_
    simp
    exact ⟨x + 1, by omega, by omega, GStep.trans (GStep.weaken (t := 9) (.ro false (bools (levelK g A sure (x + 1)))) rfl (.inl (by simp))) (GStep.eq (by simp [inc]) (subH.refl _))⟩
  · obtain rfl : x = A.length := by omega
    refine AW.seq fun _ k3 => AW.cond false (by simp [Int.natCast_inj]) (fun h => by cases h) (fun _ => ?_)
    refine AW.exit ?_
    simp
    refine k2 _ ?_
    rw [← eV]
    obtain ⟨to3, hto3⟩ : ∃ to3, to3 = planK g A sure to2 A.length := ⟨_, rfl⟩
    have lt3 : to3.length = g.owner.length := by rw [hto3, planK_len]; exact lt2
    rw [← hto3] at hP ⊢
    have lV : (levelL g A goal y).length = g.owner.length := M.len y
    have sE := slices_EqualB (levelL g A goal y) y (by omega)
    generalize hbv : decide (levelL g A goal y = y) = bv at sE
    refine AW.seq fun _ k2 => ?_
    refine AW.seq fun _ k3 => AW.region [] Θ_ok ?_
    simp
    refine sE.use (by simp) ?_
    refine k3 _ ?_
    cases bv
    · have e := of_decide_eq_false hbv
      clear hbv
      rw [if_neg e] at hP
      refine AW.cond false (by simp [Int.natCast_inj]) (fun h => by cases h) (fun _ => ?_)
      refine AW.skip ?_
      simp
      refine k2 _ ?_
      refine AW.region [] Θ_ok ?_
      simp
      have hc' := (cnt_mono ly lV up).2 (fun z => e z.symm)
      exact ⟨⟨levelL g A goal y, to3, f'⟩, ⟨lV, lt3, M.mono _ _ up, by simp only; omega, hP⟩, by simp only; omega, GStep.eq (by simp) (subH.refl _)⟩
    · have e := of_decide_eq_true hbv
      clear hbv
      rw [if_pos e] at hP
      refine AW.cond true (by simp [Int.natCast_inj]) (fun _ => ?_) (fun h => by cases h)
      refine AW.ret ?_
      simp [Try.f40]
      exact Fin.refl ⟨q, N, by rw [hP]⟩
end
end Go.Par

set_option linter.unusedSimpArgs false
set_option linter.unusedVariables false
set_option maxRecDepth 8000
set_option maxHeartbeats 4000000
namespace Go.Par
open Go.Proofs

theorem AW.nilCases {P : Program} {c : Code} {Q : Exit → St → Prop} {S : St} (t : Nat) {xs : List AV} (hv : get S.tm t = .ro false xs) (h1 : xs = [] → AW P c Q ⟨S.n, (t, .nils) :: S.tm, S.h⟩) (h2 : AW P c Q ⟨S.n, (t, .ro true xs) :: S.tm, S.h⟩) : AW P c Q S := by
  intro φ w a H T
  have V := T.val t
  rw [hv] at V
  have key : VR φ (own φ S.h) w (.ro true xs) (a.tmps.getD t undef) ∨ xs = [] ∧ VR φ (own φ S.h) w .nils (a.tmps.getD t undef) := by
    generalize a.tmps.getD t undef = v at V
    cases V with
    | roNil _ a c ha hc =>
      cases a with
      | none => exact .inr ⟨rfl, by rw [hc rfl]; exact .nils⟩
      | some a => exact .inl (.roNil true (some a) c (fun _ => rfl) (fun e => by cases e))
    | ro _ xs n b off c s f hn hc hB hb hs hcell hval => exact .inl (.ro true xs n b off c s f hn hc hB hb hs hcell hval)
  have T' : ∀ u, VR φ (own φ S.h) w u (a.tmps.getD t undef) → TR φ (own φ S.h) w S.n ((t, u) :: S.tm) a := fun u hu => by
    refine ⟨T.defers, T.size, fun t' => ?_⟩
    simp only [get]
    by_cases e : t = t'
    · subst e; rw [if_pos rfl]; exact hu
    · rw [if_neg e]; exact T.val t'
  rcases key with k | ⟨e, k⟩
  · exact h2 φ w a H (T' _ k)
  · exact h1 e φ w a H (T' _ k)

def obRw (L : List (List Int)) (nn : Bool) : Ob := ⟨rows L, 22, 1, nn⟩
@[simp] theorem obRw_cells (L : List (List Int)) (nn : Bool) : (obRw L nn).cells = rows L := rfl
@[simp] theorem obRw_ty (L : List (List Int)) (nn : Bool) : (obRw L nn).ty = 22 := rfl
@[simp] theorem obRw_sz (L : List (List Int)) (nn : Bool) : (obRw L nn).sz = 1 := rfl
@[simp] theorem obRw_nn (L : List (List Int)) (nn : Bool) : (obRw L nn).nn = nn := rfl

def pnM (TL : List (List Int)) (goals : List (List Bool)) (v m : Nat) : List S4 := tab m fun mem => ⟨v, mem, (TL.getD mem []).getD v 0, (thenN goals v mem : Nat)⟩
def pnV (g : G) (Z : List Bool) (TL : List (List Int)) (goals : List (List Bool)) : Nat → List S4
  | 0 => []
  | v + 1 => pnV g Z TL goals v ++ if hasN Z v = true ∧ ow g v = 1 then pnM TL goals v goals.length else []
def pnN (g : G) (Z : List Bool) (TL : List (List Int)) (goals : List (List Bool)) (v m : Nat) : List S4 := pnV g Z TL goals v ++ pnM TL goals v m
theorem pnN_zero (g : G) (Z : List Bool) (TL : List (List Int)) (goals : List (List Bool)) (v : Nat) : pnN g Z TL goals v 0 = pnV g Z TL goals v := by simp [pnN, pnM, tab]
theorem pnN_succ (g : G) (Z : List Bool) (TL : List (List Int)) (goals : List (List Bool)) (v m : Nat) : pnN g Z TL goals v (m + 1) = pnN g Z TL goals v m ++ [⟨v, m, (TL.getD m []).getD v 0, (thenN goals v m : Nat)⟩] := by
  unfold pnN pnM; rw [tab_succ, List.append_assoc]
theorem pnM_len (TL : List (List Int)) (goals : List (List Bool)) (v m : Nat) : (pnM TL goals v m).length = m := length_tab _ _
theorem pnV_len (g : G) (Z : List Bool) (TL : List (List Int)) (goals : List (List Bool)) : ∀ v, (pnV g Z TL goals v).length ≤ v * goals.length
  | 0 => by simp [pnV]
  | v + 1 => by
    have := pnV_len g Z TL goals v
    rw [pnV, List.length_append, Nat.succ_mul]
    split
    · rw [pnM_len]; omega
    · simp; omega
def planTL (g : G) (A : List (List Bool)) (goals : List (List Bool)) (Z : List Bool) : List (List Int) := goals.map fun row => planL g A row Z
def pnL (g : G) (A E : List (List Bool)) : List S4 := pnV g (solveL g A E).1 (planTL g (rowsL g A) (rowsL g E) (solveL g A E).1) (rowsL g E) g.owner.length
def pnOk (g : G) (A E : List (List Bool)) : Prop := mayE g = 0 ∧ A.length ≤ 4 ∧ E.length ≤ 4
instance (g : G) (A E : List (List Bool)) : Decidable (pnOk g A E) := by unfold pnOk; exact inferInstance
def pnA (g : G) (A E : List (List Bool)) : AV := if pnOk g A E then .ro false (avS (pnL g A E)) else .nils

theorem GV.wkG {u u' : AV} {h : Heap} (hw : wk u u') : GV u h u' h := fun φ _ _ H V => ⟨φ, Ext.refl φ, H, V.wk hw, fun _ hb => hb⟩
theorem none_ofF2 {h : Heap} {o q : Nat} {x : Ob} (e : upd h o (some x) q = none) : h q = none := by
  unfold upd at e; split at e
  · exact absurd e (by simp)
  · exact e
structure PnX where
  o : Nat
  nn : Bool
  x : Nat

theorem plan_Steps (g : G) (hf : g.fits) (A E : List (List Bool)) : Pure Try.prog 14 [g.av, .ro false (bools2 A), .ro false (bools2 E)] (pnA g A E) := by
  have sR := gr1_Region g hf A E
  have sE := plan_rows g hf E
  have sA := plan_rows g hf A
  intro h
  refine AC.body Θ_ok Try.func14 rfl rfl (Nat.le_of_ble_eq_true rfl) ?_
  refine AW.seq fun _ k1 => AW.region [] Θ_ok ?_
  simp
  refine k1 _ ?_
  by_cases hok : pnOk g A E
  · have hfin : pnA g A E = .ro false (avS (pnL g A E)) := if_pos hok
    obtain ⟨hm, hA4, hE4⟩ := hok
    rw [regionA, if_pos ⟨hm, hA4, hE4⟩] at sR
    obtain ⟨Z, hZ⟩ : ∃ Z, Z = (solveL g A E).1 := ⟨_, rfl⟩
    have lZ : Z.length = g.owner.length := by rw [hZ]; exact (solve_spec hm A E).2.1.1
    rw [← hZ] at sR
    have hn3 := (may_ok hm).1
    have lA := rowsL_le g A hA4
    have lE := rowsL_le g E hE4
    have pA := rowsL_pos g A
    have eL : pnL g A E = pnV g Z (planTL g (rowsL g A) (rowsL g E) Z) (rowsL g E) g.owner.length := by rw [hZ]; rfl
    rw [eL] at hfin
    generalize rowsL g A = A' at *
    generalize rowsL g E = goals at *
    obtain ⟨TL, hTL⟩ : ∃ TL, TL = planTL g A' goals Z := ⟨_, rfl⟩
    have lTL : TL.length = goals.length := by rw [hTL]; simp [planTL]
    have gTL : ∀ i (h : i < goals.length), TL[i]? = some (planL g A' goals[i] Z) := fun i h => by rw [hTL]; simp [planTL, h]
    rw [← hTL] at hfin eL
    have tTL : ∀ l ∈ TL, l.length = g.owner.length := fun l hl => by
      rw [hTL] at hl
      obtain ⟨r, _, rfl⟩ := List.mem_map.1 hl
      exact planL_len ..
    refine AW.seq fun _ k1 => AW.regionAt 4 [] Θ_ok fun B hB => ?_
    simp
    refine sR.use (by simp [G.av]) ?_
    refine hB _ ?_
    clear hB B
    simp
    refine k1 _ ?_
    refine AW.nilCases 7 rfl (fun e0 => ?_) ?_
    · have Z0 : Z = [] := by simpa using e0
      have n0 : g.owner.length = 0 := by rw [← lZ, Z0]; rfl
      rw [n0] at hfin
      refine AW.seq fun _ k1 => ?_
      refine AW.seq fun _ k2 => AW.region [] Θ_ok ?_
      simp
      refine k2 _ ?_
      refine AW.cond true (by simp [Int.natCast_inj]) (fun _ => ?_) (fun h => by cases h)
      refine AW.seq fun _ kr => AW.region [] Θ_ok ?_
      simp
      refine kr _ (AW.ret ?_)
      simp [Try.f14]
      exact Fin.gv (GV.wkG (u := .nils) (u' := .ro false []) (by simp)) (Fin.refl ⟨by rw [hfin]; rfl, rfl⟩)
    refine AW.seq fun _ k1 => ?_
    refine AW.seq fun _ k2 => AW.region [] Θ_ok ?_
    simp
    refine k2 _ ?_
    refine AW.cond false (by simp [Int.natCast_inj]) (fun h => by cases h) (fun _ => ?_)
    refine AW.skip ?_
    simp
    refine k1 _ ?_
    refine AW.weaken 7 (.ro false (bools Z)) rfl (.inl (by simp)) ?_
    refine AW.seq fun _ k1 => AW.regionAt 3 [] Θ_ok fun B hB => ?_
    simp
    refine sE.use (by simp [G.av]) ?_
    refine hB _ ?_
    clear hB B
    simp
    refine k1 _ ?_
    refine AW.seq fun _ k1 => AW.region [] Θ_ok ?_
    simp
    refine k1 _ ?_
    refine AW.mine 9 22 1 rfl fun o ho => ?_
    simp only at ho ⊢
    refine AW.seqTo ⟨92, [(3, .rop [.ro false (ints g.owner), .ro false (rows g.next)]), (7, .ro false (bools Z)), (8, .ro false (bools2 goals)), (9, .ro false (rows TL))], h⟩ (fun _ k1 => ?_) ?_
    · refine AW.seq fun _ k2 => AW.region [] Θ_ok ?_
      simp
      refine k2 _ ?_
      refine AW.block ?_
      refine AW.loopI (X := PnX) (fun s => h s.o = none ∧ s.x ≤ goals.length) (fun s => ⟨92, [(1, .ro false (bools2 A)), (3, .rop [.ro false (ints g.owner), .ro false (rows g.next)]), (7, .ro false (bools Z)), (8, .ro false (bools2 goals)), (9, .mu s.o s.x), (26, .ro false (bools2 goals)), (27, .int .i64 goals.length), (28, .int .i64 s.x)], upd h s.o (some (obRw (TL.take s.x) s.nn))⟩) (fun s => goals.length - s.x) ⟨o, false, 0⟩ ⟨ho, Nat.zero_le _⟩ (GStep.eq (by simp) (subH.refl _)) ?_
      clear ho o
      rintro ⟨o, nn, x⟩ ⟨ho, hx⟩
      simp only at ho hx ⊢
      refine AW.seq fun _ k2 => AW.region [] Θ_ok ?_
      simp
      refine k2 _ ?_
      by_cases hlt : x < goals.length
      · have inc := wrap_succ (show x < 9223372036854775807 by omega)
        have gx := gTL x hlt
        have lx : (TL.take x).length = x := by rw [List.length_take]; omega
        have tk : TL.take (x + 1) = TL.take x ++ [planL g A' goals[x] Z] := by
          rw [List.take_succ_eq_append_getElem (by omega)]
          rw [List.getElem?_eq_getElem (by omega)] at gx
          rw [Option.some.inj gx]
        generalize hLx : TL.take x = L at *
        refine AW.seq fun _ k2 => AW.cond true (by simp [Int.natCast_inj, hlt]) (fun _ => ?_) (fun h => by cases h)
        refine AW.skip ?_
        simp
        refine k2 _ ?_
        refine AW.seq fun _ k2 => ?_
        refine AW.block ?_
        refine AW.seq fun _ k3 => AW.region [] Θ_ok ?_
        simp [hlt]
        refine k3 _ ?_
        obtain ⟨hh, hhh⟩ : ∃ hh, hh = upd h o (some (obRw L nn)) := ⟨_, rfl⟩
        rw [← hhh]
        have hho : hh o = some (obRw L nn) := by rw [hhh, upd_same]
        refine AW.seq fun _ k3 => AW.draw [38] 6 [0, 1] Θ_ok mixed (by kernel_rfl) (by kernel_rfl) ?_
        refine vcDraw_split 3 fun B hB => ?_
        simp [vcPre, vcTail, callA, isAlloc, isLoad, effOp, obl, obA, mkOK, valA]
        refine hB _ _ _ ?_
        clear hB B
        simp [vcPre, vcTail, callA, isAlloc, isLoad, effOp, obl, obA, mkOK, valA]
        refine ⟨_, sA.wk (by simp [G.av]), ?_⟩
        simp [newA]
        refine fun a ha => k3 _ ?_
        have sP := plan_plans (A := A') hf hm pA (by omega) lZ (h0 := hh) (a := a) ha goals[x]
        refine AW.seq fun _ k3 => AW.region [] Θ_ok ?_
        simp
        refine (sP.wk (by simp)).mono ?_
        rintro r h' ⟨q, N, rfl⟩
        refine k3 _ ?_
        obtain ⟨to, hto⟩ : ∃ to, to = planL g A' goals[x] Z := ⟨_, rfl⟩
        have lto : to.length = g.owner.length := by rw [hto]; exact planL_len ..
        rw [← hto] at tk ⊢
        have ha2 := PLH.ga N g A' Z to
        have hq2 := PLH.gq N g A' Z to
        have naq : a ≠ q := by have := N.nd; simp at this; exact this
        have gvq : GV (.mu q g.owner.length) (PLH hh a q g A' Z to) (.ro false (ints to)) (upd (PLH hh a q g A' Z to) q none) := GV.freeze (k := false) hq2 (fun e => by cases e) (by simp [lto]) (fun y hy => by obtain ⟨z, _, rfl⟩ := List.mem_map.1 hy; rfl) (by rw [flat_ints]; simp [List.take_of_length_le, lto])
        refine AW.ghost (GStep.cell (p := a) (j := 4) ha2 rfl gvq (by rw [upd_ne _ _ naq]; exact ha2) (by simp)) ?_
        have hd : upd (PLH hh a q g A' Z to) q none = HL hh [(a, obPl g A' Z (.mu q g.owner.length))] := HL.del (k := 1) N rfl
        simp only [obPl_cells, obPl_ty, obPl_sz, obPl_nn, hd]
        obtain ⟨H1, hH1⟩ : ∃ H1, H1 = upd hh a (some (obPl g A' Z (.ro false (ints to)))) := ⟨_, rfl⟩
        rw [show upd (HL hh [(a, obPl g A' Z (.mu q g.owner.length))]) a (some ⟨[AV.ro false (ints g.owner), .ro false (rows g.next), .ro false (bools2 A'), .ro false (bools Z), .mu q g.owner.length].set 4 (.ro false (ints to)), 67, 5, true⟩) = H1 by rw [hH1]; show upd (upd hh a _) a _ = _; rw [upd_upd]; rfl]
        have h1a : H1 a = some (obPl g A' Z (.ro false (ints to))) := by rw [hH1, upd_same]
        have nao : o ≠ a := fun e => by rw [e] at hho; rw [ha] at hho; cases hho
        have h1o : H1 o = some (obRw L nn) := by rw [hH1, upd_ne _ _ nao]; exact hho
        refine AW.region [] Θ_ok ?_
        simp [h1a, h1o, appendA, lx]
        refine ⟨rfl, ⟨by omega, by omega⟩, fun n' hn' => k2 _ ?_⟩
        refine AW.region [] Θ_ok ?_
        simp
        have hn0 : h n' = none := by
          rw [hH1] at hn'
          have e1 : n' ≠ a := fun e => by rw [e, upd_same] at hn'; cases hn'
          rw [upd_ne _ _ e1, hhh] at hn'
          exact none_ofF2 hn'
        refine ⟨⟨n', true, x + 1⟩, ⟨hn0, hlt⟩, by simp only; omega, GStep.eq (by simp [inc]) ?_⟩
        have eOb : (⟨List.take x (rows L) ++ [.ro false (ints to)], 22, 1, true⟩ : Ob) = obRw (TL.take (x + 1)) true := by
          rw [tk, List.take_of_length_le (by rw [List.length_map, lx]; exact Nat.le_refl _)]
          simp [obRw]
        rw [eOb]
        intro z X hz
        simp only at hz ⊢
        by_cases e1 : z = n'
        · subst e1; rw [upd_same] at hz ⊢; exact hz
        · rw [upd_ne _ _ e1] at hz ⊢
          have e2 : z ≠ o := fun e => by rw [e, ho] at hz; cases hz
          rw [upd_ne _ _ e2, hH1]
          have e3 : z ≠ a := fun e => by
            rw [e] at hz
            rw [hhh] at ha
            have := none_ofF2 ha
            rw [this] at hz; cases hz
          rw [upd_ne _ _ e3, hhh, upd_ne _ _ e2]; exact hz
      · obtain rfl : x = goals.length := by omega
        refine AW.seq fun _ k2 => AW.cond false (by simp [Int.natCast_inj]) (fun h => by cases h) (fun _ => ?_)
        refine AW.exit ?_
        simp
        rw [← lTL, List.take_length, lTL]
        have gl : (rows TL).length = goals.length := by simp [lTL]
        refine k1 _ (GStep.trans (GStep.freeze (t := 9) (n := goals.length) (k := false) (by simp) (upd_same _ _ _) (fun z => by cases z) rfl (by simp [lTL]) (fun u hu => by obtain ⟨z, _, rfl⟩ := List.mem_map.1 hu; rfl)) (GStep.eq (by simp) ?_))
        simp only
        rw [upd_upd, upd_none_id ho]; exact subH.refl _
    have wl := fun v => pnV_len g Z TL goals v
    refine AW.seq fun _ k1 => AW.region [] Θ_ok ?_
    simp
    refine k1 _ ?_
    refine AW.mine 13 37 4 rfl fun a ha => ?_
    simp only at ha ⊢
    have N1 : HN h [a] := HL.new (l := []) ⟨List.nodup_nil, fun o ho => by cases ho⟩ ha
    rw [show upd h a (some ⟨[], 37, 4, false⟩) = HL h [(a, obSt [] false)] from rfl]
    clear ha
    refine AW.seq fun _ k1 => ?_
    refine AW.seq fun _ k2 => AW.region [] Θ_ok ?_
    simp
    refine k2 _ ?_
    refine AW.block ?_
    refine AW.loopI (X := FoX) (fun s => HN h [s.o] ∧ s.x ≤ g.owner.length) (fun s => ⟨92, [(3, .rop [.ro false (ints g.owner), .ro false (rows g.next)]), (8, .ro false (bools2 goals)), (9, .ro false (rows TL)), (13, .mu s.o (pnV g Z TL goals s.x).length), (50, .ro false (bools Z)), (51, .int .i64 g.owner.length), (52, .int .i64 s.x)], HL h [(s.o, obSt (pnV g Z TL goals s.x) s.nn)]⟩) (fun s => g.owner.length - s.x) ⟨a, 0, false⟩ ⟨N1, Nat.zero_le _⟩ (GStep.eq (by simp [pnV, lZ]) (subH.refl _)) ?_
    clear N1 a
    rintro ⟨a, v, nn⟩ ⟨N, hx⟩
    simp only at N hx ⊢
    refine AW.seq fun _ k2 => AW.region [] Θ_ok ?_
    simp
    refine k2 _ ?_
    by_cases hlt : v < g.owner.length
    · have inc := wrap_succ (show v < 9223372036854775807 by omega)
      have eV : pnV g Z TL goals (v + 1) = pnV g Z TL goals v ++ if hasN Z v = true ∧ ow g v = 1 then pnM TL goals v goals.length else [] := rfl
      have eo : ow g v = g.owner[v] := by simp [ow, hlt]
      have hvZ : v < Z.length := by omega
      have ez : hasN Z v = Z[v] := by simp [hasN, hvZ]
      rw [eo, ez] at eV
      refine AW.seq fun _ k2 => AW.cond true (by simp [Int.natCast_inj, hlt]) (fun _ => ?_) (fun h => by cases h)
      refine AW.skip ?_
      simp
      refine k2 _ ?_
      refine AW.seq fun _ k2 => ?_
      refine AW.block ?_
      refine AW.seq fun _ k3 => AW.region [] Θ_ok ?_
      simp [hlt, hvZ]
      refine k3 _ ?_
      refine AW.seq fun _ k3 => ?_
      have hxv := wl v
      have hv4 : v * goals.length ≤ 3000 * 4 := Nat.mul_le_mul (by omega) lE
      by_cases hz : Z[v] = true
      · by_cases ho : g.owner[v] = 1
        · rw [if_pos ⟨hz, ho⟩] at eV
          refine AW.seq fun _ k4 => AW.region [] Θ_ok ?_
          simp [ho, hz, hlt]
          refine k4 _ ?_
          refine AW.cond false (by simp [Int.natCast_inj]) (fun h => by cases h) (fun _ => ?_)
          refine AW.skip ?_
          simp
          refine k3 _ ?_
          refine AW.seq fun _ k3 => AW.region [] Θ_ok ?_
          simp
          refine k3 _ ?_
          refine AW.block ?_
          refine AW.loopI (X := FoX) (fun s => HN h [s.o] ∧ s.x ≤ goals.length) (fun s => ⟨92, [(3, .rop [.ro false (ints g.owner), .ro false (rows g.next)]), (8, .ro false (bools2 goals)), (9, .ro false (rows TL)), (13, .mu s.o (pnN g Z TL goals v s.x).length), (14, .int .i64 v), (50, .ro false (bools Z)), (51, .int .i64 g.owner.length), (52, .int .i64 v), (68, .int .i64 goals.length), (69, .int .i64 s.x)], HL h [(s.o, obSt (pnN g Z TL goals v s.x) s.nn)]⟩) (fun s => goals.length - s.x) ⟨a, 0, nn⟩ ⟨N, Nat.zero_le _⟩ (GStep.eq (by simp [pnN_zero]) (by simp only [pnN_zero]; exact subH.refl _)) ?_
          clear N a nn
          rintro ⟨a, m, nn⟩ ⟨N, hmK⟩
          simp only at N hmK ⊢
          refine AW.seq fun _ k3 => AW.region [] Θ_ok ?_
          simp
          refine k3 _ ?_
          by_cases hlm : m < goals.length
          · have incm := wrap_succ (show m < 9223372036854775807 by omega)
            have eM := pnN_succ g Z TL goals v m
            have mTL : m < TL.length := by omega
            have gm : TL.getD m [] = TL[m] := by simp [mTL]
            have lm := tTL TL[m] (List.getElem_mem mTL)
            have vm : v < TL[m].length := by omega
            have gv : TL[m].getD v 0 = TL[m][v] := by simp [vm]
            rw [gm, gv] at eM
            have sT := plan_then goals v m hlm (by omega)
            have hlen : (pnN g Z TL goals v m).length ≤ 3000 * 4 + 4 := by unfold pnN; rw [List.length_append, pnM_len]; omega
            have ga := HL.at (h0 := h) (l := [(a, obSt (pnN g Z TL goals v m) nn)]) (k := 0) N.nd rfl
            have sn := obSt_snoc (pnN g Z TL goals v m) ⟨v, m, TL[m][v], (thenN goals v m : Nat)⟩ nn
            rw [← eM] at sn
            have lc := stC_len (pnN g Z TL goals v m)
            have lS2 : (pnN g Z TL goals v (m + 1)).length = (pnN g Z TL goals v m).length + 1 := by rw [eM, List.length_append]; rfl
            clear eM
            generalize thenN goals v m = t at *
            generalize hS2 : pnN g Z TL goals v (m + 1) = S2 at *
            generalize pnN g Z TL goals v m = S at *
            refine AW.seq fun _ k3 => AW.cond true (by simp [Int.natCast_inj, hlm]) (fun _ => ?_) (fun h => by cases h)
            refine AW.skip ?_
            simp
            refine k3 _ ?_
            refine AW.seq fun _ k3 => ?_
            refine AW.block ?_
            refine AW.seq fun _ k4 => AW.region [] Θ_ok ?_
            simp
            refine k4 _ ?_
            refine AW.draw [] 16 [6, 9] Θ_ok mixed (by kernel_rfl) (by kernel_rfl) ?_
            refine vcDraw_split 13 fun B hB => ?_
            simp [vcPre, vcTail, callA, isAlloc, isLoad, effOp, obl, obA, mkOK, valA, mTL, vm]
            refine hB _ _ _ ?_
            clear hB B
            refine vcPre_split 1 fun B hB => ?_
            simp [vcPre, vcTail, callA, isAlloc, isLoad, effOp, obl, obA, mkOK, valA]
            refine ⟨_, sT.wk (by simp), ?_⟩
            refine hB _ _ _ ?_
            clear hB B
            simp [vcPre, vcTail, callA, isAlloc, isLoad, effOp, obl, obA, mkOK, valA, ga, appendA]
            refine ⟨rfl, ⟨by rw [lc]; exact Nat.le_refl _, by omega, by omega⟩, fun n' hn' => k3 _ ?_⟩
            obtain ⟨he, N'⟩ := HL.ren (A' := obSt S2 true) (k := 0) N rfl hn'
            replace N' : HN h [n'] := N'
            rw [show (⟨List.take (S.length * 4) (stC S) ++ [AV.int IntKind.i64 (v : Int), AV.int IntKind.i64 (m : Int), AV.int IntKind.i64 TL[m][v], AV.int IntKind.i64 (t : Int)], 37, 4, true⟩ : Ob) = obSt S2 true from sn, he]
            refine AW.region [] Θ_ok ?_
            simp
            exact ⟨⟨n', m + 1, true⟩, ⟨N', by simp only; omega⟩, by simp only; omega, GStep.eq (by simp [incm, lS2, hS2]) (by simp only [hS2]; exact subH.refl _)⟩
          have hmm : m = goals.length := by omega
          subst hmm
          have full : pnN g Z TL goals v goals.length = pnV g Z TL goals (v + 1) := by rw [eV]; rfl
          refine AW.seq fun _ k3 => AW.cond false (by simp [Int.natCast_inj]) (fun h => by cases h) (fun _ => ?_)
          refine AW.exit ?_
          simp
          refine k2 _ ?_
          refine AW.region [] Θ_ok ?_
          simp
          exact ⟨⟨a, v + 1, nn⟩, ⟨N, by simp only; omega⟩, by simp only; omega, GStep.eq (by simp [inc, full]) (by simp only [full]; exact subH.refl _)⟩
        · rw [if_neg (fun z => ho z.2), List.append_nil] at eV
          refine AW.seq fun _ k4 => AW.region [] Θ_ok ?_
          simp [ho, hz, hlt]
          refine k4 _ ?_
          refine AW.cond true (by simp [Int.natCast_inj, ho]) (fun _ => ?_) (fun h => by cases h)
          refine AW.exit ?_
          simp
          refine k2 _ ?_
          refine AW.region [] Θ_ok ?_
          simp
          exact ⟨⟨a, v + 1, nn⟩, ⟨N, by simp only; omega⟩, by simp only; omega, GStep.eq (by simp [inc, eV]) (subH_of_eq (by rw [eV]))⟩
      · rw [if_neg (fun z => hz z.1), List.append_nil] at eV
        refine AW.seq fun _ k4 => AW.region [] Θ_ok ?_
        simp [hz]
        refine k4 _ ?_
        refine AW.cond true (by simp [Int.natCast_inj, hz]) (fun _ => ?_) (fun h => by cases h)
        refine AW.exit ?_
        simp
        refine k2 _ ?_
        refine AW.region [] Θ_ok ?_
        simp
        exact ⟨⟨a, v + 1, nn⟩, ⟨N, by simp only; omega⟩, by simp only; omega, GStep.eq (by simp [inc, eV]) (subH_of_eq (by rw [eV]))⟩
    have hxx : v = g.owner.length := by omega
    subst hxx
    refine AW.seq fun _ k2 => AW.cond false (by simp [Int.natCast_inj]) (fun h => by cases h) (fun _ => ?_)
    refine AW.exit ?_
    simp
    refine k1 _ ?_
    generalize pnV g Z TL goals g.owner.length = L at *
    have ga := HL.at (h0 := h) (l := [(a, obSt L nn)]) (k := 0) N.nd rfl
    have hd := HL.del (h0 := h) (l := [(a, obSt L nn)]) (k := 0) N rfl
    refine AW.seq fun _ kr => AW.region [] Θ_ok ?_
    simp
    refine kr _ ?_
    refine AW.ghost (GStep.slot (t := 6) (v := .mu a L.length) (S := ⟨92, _, HL h [(a, obSt L nn)]⟩) rfl (GV.freeze (n := L.length) (k := false) (xs := avS L) ga (fun e => by cases e) (by simp [avS]) (fun y hy => ?_) ?_)) ?_
    · obtain ⟨s, _, rfl⟩ := List.mem_map.1 hy
      rfl
    · rw [avS_flat]
      exact (List.take_of_length_le (by simp [stC_len])).symm
    rw [hd]
    refine AW.ret ?_
    simp [Try.f14]
    exact Fin.refl ⟨hfin.symm, rfl⟩
  · have hfin : pnA g A E = .nils := if_neg hok
    have hok2 : ¬ (mayE g = 0 ∧ A.length ≤ 4 ∧ E.length ≤ 4) := hok
    rw [regionA, if_neg hok2] at sR
    refine AW.seq fun _ k1 => AW.regionAt 4 [] Θ_ok fun B hB => ?_
    simp
    refine sR.use (by simp [G.av]) ?_
    refine hB _ ?_
    clear hB B
    simp
    refine k1 _ ?_
    refine AW.seq fun _ k1 => ?_
    refine AW.seq fun _ k2 => AW.region [] Θ_ok ?_
    simp
    refine k2 _ ?_
    refine AW.cond true (by simp [Int.natCast_inj]) (fun _ => ?_) (fun h => by cases h)
    refine AW.seq fun _ kr => AW.region [] Θ_ok ?_
    simp
    refine kr _ (AW.ret ?_)
    simp [Try.f14]
    exact Fin.refl ⟨hfin.symm, rfl⟩
end Go.Par

set_option linter.unusedSimpArgs false
set_option linter.unusedVariables false
set_option maxRecDepth 8000
set_option maxHeartbeats 1000000
namespace Go.Par
open Go.Proofs

def aw19 : G := ⟨[0, 1, 1], [[1], [0, 2], [2]]⟩
theorem aw19_fits : aw19.fits := ⟨by decide, by decide, by decide⟩
theorem aw19_l : pnA aw19 [] [[true]] = .ro false (avS [⟨1, 0, 0, 0⟩]) := rfl
theorem aw19_t0 : planTh aw19 [[true], []] 0 0 = 1 := rfl
theorem aw19_t1 : planTh aw19 [[true], []] 0 1 = 1 := rfl
theorem l19_awake : Pure Try.prog 13 [] (.bool true) := by
  have sA := plan_Steps aw19 aw19_fits [] [[true]]
  rw [aw19_l] at sA
  have sT := plan_Then aw19 aw19_fits [[true], []] 0 0
  rw [aw19_t0] at sT
  have sU := plan_Then aw19 aw19_fits [[true], []] 0 1
  rw [aw19_t1] at sU
  obtain ⟨l, hl⟩ : ∃ l, l = avS [⟨1, 0, 0, 0⟩] := ⟨_, rfl⟩
  rw [← hl] at sA
  have ll : l.length = 1 := by rw [hl]; rfl
  have l0 : ∀ h, l[0]'h = .agg [.int .i64 1, .int .i64 0, .int .i64 0, .int .i64 0] := by subst hl; exact fun _ => rfl
  clear hl
  intro h
  refine AC.body Θ_ok Try.func13 rfl rfl (Nat.le_of_ble_eq_true rfl) ?_
  refine AW.seq fun _ k1 => AW.region [] Θ_ok ?_
  simp
  refine k1 _ ?_
  refine AW.seq fun _ k1 => AW.region [1] Θ_ok ?_
  simp [newA]
  refine ⟨rfl, rfl, rfl, fun o ho => k1 _ ?_⟩
  refine AW.box 1 rfl (upd_same _ _ _) ?_
  simp only [updNF _ ho]
  refine AW.seq fun _ k1 => AW.regionAt 4 [] Θ_ok fun B hB' => ?_
  simp
  refine sA.use (by simp [G.av, aw19]) ?_
  refine hB' _ ?_
  clear hB' B
  simp
  refine k1 _ ?_
  refine AW.seq fun _ kr => AW.regionAt 15 [] Θ_ok fun B hB' => ?_
  simp [ll, l0]
  refine ⟨rfl, ?_⟩
  refine sT.use (by simp [G.av, aw19]) ?_
  refine hB' _ ?_
  clear hB' B
  refine vcOps_split 7 fun B hB' => ?_
  simp
  refine ⟨rfl, ?_⟩
  refine sU.use (by simp [G.av, aw19]) ?_
  refine hB' _ ?_
  clear hB' B
  simp
  refine kr _ (AW.ret ?_)
  simp [Try.f13]
  exact Fin.refl ⟨rfl, rfl⟩
end Go.Par
