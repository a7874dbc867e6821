/- Games with priorities: who wins, and what is won part by part: plain laws. -/
import Derived.Test.YtaipmknajpbpkaaWyA
set_option linter.unusedVariables false
namespace Go.Par

section
variable {E : Nat → Nat → Prop} {S : Nat → Prop}

/-- On a circle there is one that is greatest. -/
theorem Way.top {c : Nat} (f : Nat → Nat) (B : Nat) (hB : ∀ a, S a → f a ≤ B) (h : Way E S c c) : ∃ m, S m ∧ Way E S c m ∧ Way E S m c ∧ Way E (fun a => S a ∧ f a ≤ f m) m m := by
  have ex : ∀ k, (∃ m, S m ∧ Way E S c m ∧ Way E S m c ∧ B ≤ f m + k) → ∃ m, S m ∧ Way E S c m ∧ Way E S m c ∧ ∀ a, S a → Way E S c a → Way E S a c → f a ≤ f m := by
    intro k
    induction k with
    | zero =>
      rintro ⟨m, h1, h2, h3, h4⟩
      exact ⟨m, h1, h2, h3, fun a ha _ _ => by have := hB a ha; omega⟩
    | succ k ih =>
      rintro ⟨m, h1, h2, h3, h4⟩
      by_cases q : ∃ m, S m ∧ Way E S c m ∧ Way E S m c ∧ B ≤ f m + k
      · exact ih q
      · refine ⟨m, h1, h2, h3, fun a ha h5 h6 => ?_⟩
        have : ¬ B ≤ f a + k := fun q' => q ⟨a, ha, h5, h6, q'⟩
        omega
  obtain ⟨m, h1, h2, h3, h4⟩ := ex B ⟨c, h.fst, h, h, by omega⟩
  refine ⟨m, h1, h2, h3, ?_⟩
  have k := (h3.trans h2).circle
  exact k.sub fun a q => ⟨q.1, h4 a q.1 (h2.trans q.2.1) (q.2.2.trans h3)⟩
end

/-- The ways that are left when 'who' goes as it is told. -/
def stE (E : Nat → Nat → Prop) (ow : Nat → Int) (who : Int) (T : Nat → Int) (u w : Nat) : Prop := E u w ∧ (ow u = who → T u = w)

/-- 'who' wins from 'D' by 'T'. -/
structure Wn (E : Nat → Nat → Prop) (ow : Nat → Int) (pr : Nat → Nat) (who : Int) (T : Nat → Int) (D : Nat → Prop) : Prop where
  own : ∀ v, D v → ow v = who → ∃ w : Nat, T v = w ∧ E v w ∧ D w
  opp : ∀ v, D v → ow v ≠ who → ∀ w, E v w → D w
  circ : ∀ v, D v → ((pr v % 2 : Nat) : Int) = who → ¬ Way (stE E ow who T) (fun a => D a ∧ pr a ≤ pr v) v v

section
variable {E : Nat → Nat → Prop} {ow : Nat → Int} {pr : Nat → Nat} {n B : Nat}

/-- No vertex is won by both. -/
theorem Wn.apart {T1 T0 : Nat → Int} {D1 D0 : Nat → Prop} (ho : ∀ v, ow v = 0 ∨ ow v = 1) (hB : ∀ v, pr v ≤ B) (hn : ∀ v, D1 v → v < n) (W1 : Wn E ow pr 1 T1 D1) (W0 : Wn E ow pr 0 T0 D0) (v : Nat) (h1 : D1 v) (h0 : D0 v) : False := by
  obtain ⟨c, hc, _⟩ := has_circle (E := fun u w => stE E ow 1 T1 u w ∧ stE E ow 0 T0 u w) (D := fun v => D1 v ∧ D0 v) (n := n) (fun v h => hn v h.1) (fun v ⟨h1, h0⟩ => by
    rcases ho v with e | e
    · obtain ⟨w, q1, q2, q3⟩ := W0.own v h0 e
      exact ⟨w, ⟨W1.opp v h1 (by omega) w q2, q3⟩, ⟨q2, fun q => by omega⟩, ⟨q2, fun _ => q1⟩⟩
    · obtain ⟨w, q1, q2, q3⟩ := W1.own v h1 e
      exact ⟨w, ⟨q3, W0.opp v h0 (by omega) w q2⟩, ⟨q2, fun _ => q1⟩, ⟨q2, fun q => by omega⟩⟩) ⟨h1, h0⟩
  obtain ⟨m, hm, _, _, hw⟩ := hc.top pr B fun a _ => hB a
  rcases Nat.mod_two_eq_zero_or_one (pr m) with q | q
  · exact W0.circ m hm.2 (by rw [q]; rfl) (hw.mono (fun a b _ _ e => e.2) fun a h => ⟨h.1.2, h.2⟩)
  · exact W1.circ m hm.1 (by rw [q]; rfl) (hw.mono (fun a b _ _ e => e.1) fun a h => ⟨h.1.1, h.2⟩)
end

/-- A part is solved. -/
structure Sol (E : Nat → Nat → Prop) (ow : Nat → Int) (pr : Nat → Nat) (D : Nat → Prop) (W T : Nat → Int) : Prop where
  win : ∀ v, D v → W v = 0 ∨ W v = 1
  own : ∀ v, D v → ow v = W v → ∃ w : Nat, T v = w ∧ E v w ∧ D w ∧ W w = W v
  opp : ∀ v, D v → ow v ≠ W v → ∀ w, E v w → D w → W w = W v
  circ : ∀ v, D v → ((pr v % 2 : Nat) : Int) = W v → ¬ Way (stE E ow (W v) T) (fun a => D a ∧ W a = W v ∧ pr a ≤ pr v) v v

/-- What is attracted within a part. -/
structure Att (E : Nat → Nat → Prop) (ow : Nat → Int) (who : Int) (D S A : Nat → Prop) (T : Nat → Int) : Prop where
  sa : ∀ v, S v → A v
  ad : ∀ v, A v → D v
  rank : ∃ rk : Nat → Nat, (∀ v, A v → ¬ S v → ow v = who → ∃ w : Nat, T v = w ∧ E v w ∧ A w ∧ rk w < rk v) ∧ (∀ v, A v → ¬ S v → ow v ≠ who → ∀ w, E v w → D w → A w ∧ rk w < rk v)
  oown : ∀ v, D v → ¬ A v → ow v = who → ∀ w, E v w → D w → ¬ A w
  oopp : ∀ v, D v → ¬ A v → ow v ≠ who → ∃ w, E v w ∧ D w ∧ ¬ A w

def Tot (E : Nat → Nat → Prop) (D : Nat → Prop) : Prop := ∀ v, D v → ∃ w, E v w ∧ D w

section
variable {E : Nat → Nat → Prop} {ow : Nat → Int} {pr : Nat → Nat} {D S A O X : Nat → Prop} {who : Int} {W W' T T' : Nat → Int}

theorem Att.tot (a : Att E ow who D S A T) (h : Tot E D) : Tot E fun v => D v ∧ ¬ A v := by
  rintro v ⟨h1, h2⟩
  by_cases e : ow v = who
  · obtain ⟨w, q1, q2⟩ := h v h1
    exact ⟨w, q1, q2, a.oown v h1 h2 e w q1 q2⟩
  · obtain ⟨w, q1, q2, q3⟩ := a.oopp v h1 h2 e
    exact ⟨w, q1, q2, q3⟩

theorem Sol.congr (s : Sol E ow pr D W T) (h : ∀ v, D v → W' v = W v ∧ T' v = T v) : Sol E ow pr D W' T' := by
  refine ⟨fun v hv => by rw [(h v hv).1]; exact s.win v hv, fun v hv e => ?_, fun v hv e w hw hd => ?_, fun v hv e k => ?_⟩
  · rw [(h v hv).1] at e ⊢
    obtain ⟨w, q1, q2, q3, q4⟩ := s.own v hv e
    exact ⟨w, by rw [(h v hv).2]; exact q1, q2, q3, by rw [(h w q3).1]; exact q4⟩
  · rw [(h v hv).1] at e ⊢
    rw [(h w hd).1]; exact s.opp v hv e w hw hd
  · rw [(h v hv).1] at e k
    refine s.circ v hv e (k.mono (fun a b ha _ q => ⟨q.1, fun o => ?_⟩) fun a q => ⟨q.1, by rw [← (h a q.1).1]; exact q.2.1, q.2.2⟩)
    rw [← (h a ha.1).2]; exact q.2 o

theorem Sol.empty (h : ∀ v, ¬ D v) : Sol E ow pr D W T := ⟨fun v q => absurd q (h v), fun v q => absurd q (h v), fun v q => absurd q (h v), fun v q => absurd q (h v)⟩

/-- If the rest is won by who the greatest priority is of, all is. -/
theorem Sol.all {top : Nat} {T0 T1 T2 W1 W2 : Nat → Int} (ho : ∀ v, ow v = 0 ∨ ow v = 1) (hw : who = 0 ∨ who = 1) (hp : ((top % 2 : Nat) : Int) ≠ who) (hle : ∀ v, D v → pr v ≤ top) (hS : ∀ v, S v ↔ D v ∧ pr v = top)
    (a : Att E ow who D S A T0) (s : Sol E ow pr (fun v => D v ∧ ¬ A v) W1 T1) (h1 : ∀ v, D v → ¬ A v → W1 v = who)
    (hW : ∀ v, D v → W2 v = who) (hT1 : ∀ v, D v → ¬ A v → T2 v = T1 v) (hT0 : ∀ v, A v → ¬ S v → ow v = who → T2 v = T0 v) (hTS : ∀ v, S v → ow v = who → ∃ w : Nat, T2 v = w ∧ E v w ∧ D w) : Sol E ow pr D W2 T2 := by
  obtain ⟨rk, rown, ropp⟩ := a.rank
  refine ⟨fun v hv => by rw [hW v hv]; exact hw, fun v hv e => ?_, fun v hv e w hw hd => by rw [hW v hv, hW w hd], fun v hv e k => ?_⟩
  · rw [hW v hv] at e ⊢
    by_cases hA : A v
    · by_cases hs : S v
      · obtain ⟨w, q1, q2, q3⟩ := hTS v hs e
        exact ⟨w, q1, q2, q3, hW w q3⟩
      · obtain ⟨w, q1, q2, q3, _⟩ := rown v hA hs e
        exact ⟨w, by rw [hT0 v hA hs e]; exact q1, q2, a.ad w q3, hW w (a.ad w q3)⟩
    · obtain ⟨w, q1, q2, q3, _⟩ := s.own v ⟨hv, hA⟩ (by rw [e, h1 v hv hA])
      exact ⟨w, by rw [hT1 v hv hA]; exact q1, q2, q3.1, hW w q3.1⟩
  · rw [hW v hv] at e k
    have hpv : pr v ≠ top := fun q => hp (by rw [← q]; exact e)
    have hlt : pr v < top := by have := hle v hv; omega
    have nS : ∀ b, D b ∧ W2 b = who ∧ pr b ≤ pr v → ¬ S b := fun b hb q => by have := ((hS b).1 q).2; have := hb.2.2; omega
    have stepA : ∀ b c, (D b ∧ W2 b = who ∧ pr b ≤ pr v) → (D c ∧ W2 c = who ∧ pr c ≤ pr v) → A b → stE E ow who T2 b c → A c ∧ rk c < rk b := by
      intro b c hb hc hA q
      by_cases eo : ow b = who
      · obtain ⟨w, q1, q2, q3, q4⟩ := rown b hA (nS b hb) eo
        have : (c : Int) = w := by rw [← q.2 eo, hT0 b hA (nS b hb) eo]; exact q1
        have : c = w := by omega
        subst this
        exact ⟨q3, q4⟩
      · exact ropp b hA (nS b hb) eo c q.1 hc.1
    by_cases hA : A v
    · have k2 := k.within (T := A) (fun b c hb hc q e => (stepA b c hb hc q e).1) hA
      have := k2.lt rk fun b c hb hc e => (stepA b c hb.1 hc.1 hb.2 e).2
      omega
    · have k2 := k.avoid (T := A) (fun b c hb hc q e => (stepA b c hb hc q e).1) hA
      have := h1 v hv hA
      refine s.circ v ⟨hv, hA⟩ (by rw [this]; exact e) ?_
      rw [this]
      exact k2.mono (fun b c hb _ q => ⟨q.1, fun o => by rw [← hT1 b hb.1.1 hb.2]; exact q.2 o⟩) fun b q => ⟨⟨q.1.1, q.2⟩, h1 b q.1.1 q.2, q.1.2.2⟩

/-- Else what the other one wins there is forced by it, and the rest is solved anew. -/
theorem Sol.part {T0 T1 T2 T3 TB W1 W2 W3 : Nat → Int} {B : Nat → Prop} (ho : ∀ v, ow v = 0 ∨ ow v = 1) (hw : who = 0 ∨ who = 1)
    (a : Att E ow who D S A T0) (s : Sol E ow pr (fun v => D v ∧ ¬ A v) W1 T1) (hO : ∀ v, O v ↔ (D v ∧ ¬ A v) ∧ W1 v = 1 - who)
    (b : Att E ow (1 - who) D O B TB) (s2 : Sol E ow pr (fun v => D v ∧ ¬ B v) W2 T2)
    (hWB : ∀ v, B v → W3 v = 1 - who) (hW2 : ∀ v, D v → ¬ B v → W3 v = W2 v) (hTO : ∀ v, O v → T3 v = T1 v) (hTB : ∀ v, B v → ¬ O v → ow v = 1 - who → T3 v = TB v) (hT2 : ∀ v, D v → ¬ B v → T3 v = T2 v) : Sol E ow pr D W3 T3 := by
  obtain ⟨rk, rown, ropp⟩ := b.rank
  -- whoever stands in B stays in B
  have stayB : ∀ v, B v → ow v ≠ 1 - who → ∀ w, E v w → D w → B w := by
    intro v hv eo w hw' hd
    by_cases q : O v
    · have q' := (hO v).1 q
      have e1 : ow v = who := by rcases ho v with h | h <;> omega
      have hnA := a.oown v q'.1.1 q'.1.2 e1 w hw' hd
      exact b.sa w ((hO w).2 ⟨⟨hd, hnA⟩, by rw [s.opp v q'.1 (by rw [q'.2]; exact eo) w hw' ⟨hd, hnA⟩]; exact q'.2⟩)
    · exact (ropp v hv q eo w hw' hd).1
  have ownB : ∀ v, B v → ow v = 1 - who → ∃ w : Nat, T3 v = w ∧ E v w ∧ B w := by
    intro v hv eo
    by_cases q : O v
    · have q' := (hO v).1 q
      obtain ⟨w, q1, q2, q3, q4⟩ := s.own v q'.1 (by rw [q'.2]; exact eo)
      exact ⟨w, by rw [hTO v q]; exact q1, q2, b.sa w ((hO w).2 ⟨q3, by rw [q4]; exact q'.2⟩)⟩
    · obtain ⟨w, q1, q2, q3, _⟩ := rown v hv q eo
      exact ⟨w, by rw [hTB v hv q eo]; exact q1, q2, q3⟩
  refine ⟨fun v hv => ?_, fun v hv e => ?_, fun v hv e w hw' hd => ?_, fun v hv e k => ?_⟩
  · by_cases q : B v
    · rw [hWB v q]; omega
    · rw [hW2 v hv q]; exact s2.win v ⟨hv, q⟩
  · by_cases q : B v
    · rw [hWB v q] at e ⊢
      obtain ⟨w, q1, q2, q3⟩ := ownB v q e
      exact ⟨w, q1, q2, b.ad w q3, hWB w q3⟩
    · rw [hW2 v hv q] at e ⊢
      obtain ⟨w, q1, q2, q3, q4⟩ := s2.own v ⟨hv, q⟩ e
      exact ⟨w, by rw [hT2 v hv q]; exact q1, q2, q3.1, by rw [hW2 w q3.1 q3.2]; exact q4⟩
  · by_cases q : B v
    · rw [hWB v q] at e ⊢
      exact hWB w (stayB v q e w hw' hd)
    · have hv' := s2.win v ⟨hv, q⟩
      rw [hW2 v hv q] at e ⊢
      by_cases qw : B w
      · rw [hWB w qw]
        by_cases c : W2 v = 1 - who
        · exact c.symm
        · exfalso
          refine b.oown v hv q ?_ w hw' hd qw
          rcases ho v with h | h <;> rcases hv' with h' | h' <;> omega
      · rw [hW2 w hd qw]; exact s2.opp v ⟨hv, q⟩ e w hw' ⟨hd, qw⟩
  · by_cases q : B v
    · rw [hWB v q] at e k
      have stepB : ∀ x y, (D x ∧ W3 x = 1 - who ∧ pr x ≤ pr v) → (D y ∧ W3 y = 1 - who ∧ pr y ≤ pr v) → B x → stE E ow (1 - who) T3 x y → B y := by
        intro x y hx hy hB q
        by_cases eo : ow x = 1 - who
        · obtain ⟨w, q1, q2, q3⟩ := ownB x hB eo
          have : (y : Int) = w := by rw [← q.2 eo]; exact q1
          have : y = w := by omega
          subst this
          exact q3
        · exact stayB x hB eo y q.1 hy.1
      have k2 := k.within stepB q
      -- outside O ranks fall; within O one stays
      have stepO : ∀ x y, ((D x ∧ W3 x = 1 - who ∧ pr x ≤ pr v) ∧ B x) → ((D y ∧ W3 y = 1 - who ∧ pr y ≤ pr v) ∧ B y) → O x → stE E ow (1 - who) T3 x y → O y := by
        intro x y hx hy hO' q
        have q' := (hO x).1 hO'
        by_cases eo : ow x = 1 - who
        · obtain ⟨w, q1, q2, q3, q4⟩ := s.own x q'.1 (by rw [q'.2]; exact eo)
          have : (y : Int) = w := by rw [← q.2 eo, hTO x hO']; exact q1
          have : y = w := by omega
          subst this
          exact (hO y).2 ⟨q3, by rw [q4]; exact q'.2⟩
        · have e1 : ow x = who := by rcases ho x with h | h <;> omega
          have hnA := a.oown x q'.1.1 q'.1.2 e1 y q.1 hy.1.1
          exact (hO y).2 ⟨⟨hy.1.1, hnA⟩, by rw [s.opp x q'.1 (by rw [q'.2]; exact eo) y q.1 ⟨hy.1.1, hnA⟩]; exact q'.2⟩
      by_cases qO : O v
      · have k3 := k2.within stepO qO
        have q' := (hO v).1 qO
        refine s.circ v q'.1 (by rw [q'.2]; exact e) ?_
        rw [q'.2]
        exact k3.mono (fun x y hx _ q => ⟨q.1, fun o => by rw [← hTO x hx.2]; exact q.2 o⟩) fun x hx => ⟨((hO x).1 hx.2).1, ((hO x).1 hx.2).2, hx.1.1.2.2⟩
      · have k3 := k2.avoid stepO qO
        have := k3.lt rk fun x y hx hy e' => by
          by_cases eo : ow x = 1 - who
          · obtain ⟨w, q1, q2, q3, q4⟩ := rown x hx.1.2 hx.2 eo
            have : (y : Int) = w := by rw [← e'.2 eo, hTB x hx.1.2 hx.2 eo]; exact q1
            have : y = w := by omega
            subst this
            exact q4
          · exact (ropp x hx.1.2 hx.2 eo y e'.1 hy.1.1.1).2
        omega
    · rw [hW2 v hv q] at e k
      have hv' := s2.win v ⟨hv, q⟩
      -- from outside B, in the region of who wins there, one doesn't come into B and back again
      by_cases c : W2 v = 1 - who
      · have stepB : ∀ x y, (D x ∧ W3 x = W2 v ∧ pr x ≤ pr v) → (D y ∧ W3 y = W2 v ∧ pr y ≤ pr v) → B x → stE E ow (W2 v) T3 x y → B y := by
          intro x y hx hy hB q
          rw [c] at q
          by_cases eo : ow x = 1 - who
          · obtain ⟨w, q1, q2, q3⟩ := ownB x hB eo
            have : (y : Int) = w := by rw [← q.2 eo]; exact q1
            have : y = w := by omega
            subst this
            exact q3
          · exact stayB x hB eo y q.1 hy.1
        have k2 := k.avoid stepB q
        refine s2.circ v ⟨hv, q⟩ e (k2.mono (fun x y hx _ q => ⟨q.1, fun o => by rw [← hT2 x hx.1.1 hx.2]; exact q.2 o⟩) fun x hx => ⟨⟨hx.1.1, hx.2⟩, by rw [← hW2 x hx.1.1 hx.2]; exact hx.1.2.1, hx.1.2.2⟩)
      · refine s2.circ v ⟨hv, q⟩ e ?_
        have nB : ∀ x, (D x ∧ W3 x = W2 v ∧ pr x ≤ pr v) → ¬ B x := fun x hx hB => c (by rw [← hx.2.1, hWB x hB])
        exact k.mono (fun x y hx _ q => ⟨q.1, fun o => by rw [← hT2 x hx.1 (nB x hx)]; exact q.2 o⟩) fun x hx => ⟨⟨hx.1, nB x hx⟩, by rw [← hW2 x hx.1 (nB x hx)]; exact hx.2.1, hx.2.2⟩

theorem Sol.add {T2 T3 TB W2 W3 : Nat → Int} {B : Nat → Prop} (ho : ∀ v, ow v = 0 ∨ ow v = 1) (hw : who = 0 ∨ who = 1) (b : Att E ow who D (fun _ => False) B TB) (s2 : Sol E ow pr (fun v => D v ∧ ¬ B v) W2 T2)
    (hWB : ∀ v, B v → W3 v = who) (hW2 : ∀ v, D v → ¬ B v → W3 v = W2 v) (hTB : ∀ v, B v → ow v = who → T3 v = TB v) (hT2 : ∀ v, D v → ¬ B v → T3 v = T2 v) : Sol E ow pr D W3 T3 := by
  have e : 1 - (1 - who) = who := by omega
  refine Sol.part (who := 1 - who) (S := D) (A := D) (O := fun _ => False) (T0 := T3) (T1 := T3) (W1 := W3) (TB := TB) (B := B) ho (by omega) ⟨fun _ h => h, fun _ h => h, ⟨fun _ => 0, fun v h1 h2 => absurd h1 h2, fun v h1 h2 => absurd h1 h2⟩, fun v h1 h2 => absurd h1 h2, fun v h1 h2 => absurd h1 h2⟩
    (Sol.empty fun v h => h.2 h.1) (fun v => ⟨fun h => h.elim, fun h => h.1.2 h.1.1⟩) (by rw [e]; exact b) s2 (fun v h => by rw [e]; exact hWB v h) hW2 (fun v h => h.elim) (fun v h _ ho' => hTB v h (by rw [e] at ho'; exact ho')) hT2

theorem Att.apart {A B : Nat → Prop} {TA TB : Nat → Int} (ho : ∀ v, ow v = 0 ∨ ow v = 1) (hw : who = 0 ∨ who = 1) (a : Att E ow (1 - who) D (fun _ => False) A TA) (b : Att E ow who D (fun _ => False) B TB) : ∀ v, A v → ¬ B v := by
  obtain ⟨ra, a1, a2⟩ := a.rank
  obtain ⟨rb, b1, b2⟩ := b.rank
  have key : ∀ m v, ra v ≤ m → A v → ¬ B v := by
    intro m
    induction m with
    | zero =>
      intro v hm hA hB
      by_cases e : ow v = who
      · obtain ⟨w, _, q2, q3, _⟩ := b1 v hB id e
        have := (a2 v hA id (by omega) w q2 (b.ad w q3)).2
        omega
      · obtain ⟨w, _, q2, q3, q4⟩ := a1 v hA id (by rcases ho v with h | h <;> omega)
        omega
    | succ m ih =>
      intro v hm hA hB
      by_cases e : ow v = who
      · obtain ⟨w, _, q2, q3, _⟩ := b1 v hB id e
        have := a2 v hA id (by omega) w q2 (b.ad w q3)
        exact ih w (by omega) this.1 q3
      · obtain ⟨w, _, q2, q3, q4⟩ := a1 v hA id (by rcases ho v with h | h <;> omega)
        exact ih w (by omega) q3 (b2 v hB id e w q2 (a.ad w q3)).1
  exact fun v => key _ v (Nat.le_refl _)

theorem Att.sub {A B : Nat → Prop} {TA TB : Nat → Int} (ho : ∀ v, ow v = 0 ∨ ow v = 1) (hw : who = 0 ∨ who = 1) (a : Att E ow (1 - who) D (fun _ => False) A TA) (b : Att E ow who D (fun _ => False) B TB) : Att E ow who (fun v => D v ∧ ¬ A v) (fun _ => False) B TB := by
  obtain ⟨rb, b1, b2⟩ := b.rank
  refine ⟨fun _ h => h.elim, fun v h => ⟨b.ad v h, fun q => Att.apart ho hw a b v q h⟩, ⟨rb, b1, fun v h1 h2 h3 w h4 h5 => b2 v h1 h2 h3 w h4 h5.1⟩, fun v h1 h2 h3 w h4 h5 => b.oown v h1.1 h2 h3 w h4 h5.1, fun v h1 h2 h3 => ?_⟩
  obtain ⟨w, q1, q2, q3⟩ := b.oopp v h1.1 h2 h3
  exact ⟨w, q1, ⟨q2, a.oown v h1.1 h1.2 (by rcases ho v with h | h <;> omega) w q1 q2⟩, q3⟩

theorem Att.totAll {A B : Nat → Prop} {TA TB : Nat → Int} (ho : ∀ v, ow v = 0 ∨ ow v = 1) (hw : who = 0 ∨ who = 1) (a : Att E ow (1 - who) D (fun _ => False) A TA) (b : Att E ow who D (fun _ => False) B TB) : Tot E fun v => (D v ∧ ¬ A v) ∧ ¬ B v := by
  rintro v ⟨⟨h1, h2⟩, h3⟩
  by_cases e : ow v = who
  · obtain ⟨w, q1, q2, q3⟩ := a.oopp v h1 h2 (by omega)
    exact ⟨w, q1, ⟨q2, q3⟩, b.oown v h1 h3 e w q1 q2⟩
  · obtain ⟨w, q1, q2, q3⟩ := b.oopp v h1 h3 e
    exact ⟨w, q1, ⟨q2, a.oown v h1 h2 (by rcases ho v with h | h <;> omega) w q1 q2⟩, q3⟩

/-- All of a game is solved: each wins what it wins. -/
theorem Sol.wn {n : Nat} (ho : ∀ v, ow v = 0 ∨ ow v = 1) (hE : ∀ u w, E u w → u < n → w < n) (s : Sol E ow pr (fun v => v < n) W T) (hw : who = 0 ∨ who = 1) : Wn E ow pr who T fun v => v < n ∧ W v = who := by
  refine ⟨fun v hv e => ?_, fun v hv e w hw => ⟨hE v w hw hv.1, ?_⟩, fun v hv e k => ?_⟩
  · obtain ⟨w, q1, q2, q3, q4⟩ := s.own v hv.1 (by rw [e, hv.2])
    exact ⟨w, q1, q2, q3, by rw [q4, hv.2]⟩
  · rw [s.opp v hv.1 (by rw [hv.2]; exact e) w hw (hE v w hw hv.1), hv.2]
  · refine s.circ v hv.1 (by rw [hv.2]; exact e) ?_
    rw [hv.2]
    exact k.sub fun a q => ⟨q.1.1, q.1.2, q.2⟩
end
end Go.Par
