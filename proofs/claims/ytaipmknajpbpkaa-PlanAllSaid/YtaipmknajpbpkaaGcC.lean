/- The game with counters and the three fixpoints: who wins, the other way round. -/
import Derived.Test.YtaipmknajpbpkaaGcB
set_option linter.unusedSimpArgs false
set_option linter.unusedVariables false
set_option linter.unusedSectionVars false
set_option maxRecDepth 8000
namespace Go.Par

section
variable {g : G} {A : List (List Bool)} {row z : List Bool}
def xsK (g : G) (A : List (List Bool)) (row z : List Bool) (a t : Nat) : List Bool := itL (stepL g (sureL g (goalL g row z) (leastL g A row z)) (A.getD a [])) (topL g) t
noncomputable def skV (g : G) (A : List (List Bool)) (row z : List Bool) (a v : Nat) : Nat := leastN fun t => hasN (xsK g A row z a t) v = false

theorem all_great (hm : mayE g = 0) (hA : 0 < A.length) {a : Nat} (ha : a < A.length) : leS g.owner.length (leastL g A row z) (great g (stepL g (sureL g (goalL g row z) (leastL g A row z)) (A.getD a []))) ∧ leS g.owner.length (great g (stepL g (sureL g (goalL g row z) (leastL g A row z)) (A.getD a []))) (leastL g A row z) ∧ leS g.owner.length (sureL g (goalL g row z) (leastL g A row z)) (leastL g A row z) := by
  obtain ⟨h1, h2, h3⟩ := least_spec hm hA row z
  obtain ⟨Y, hY⟩ : ∃ Y, Y = leastL g A row z := ⟨_, rfl⟩
  rw [← hY] at h1 h2 ⊢
  have gl : ∀ b, b < A.length → leS g.owner.length (great g (stepL g (sureL g (goalL g row z) Y) (A.getD b []))) Y := fun b hb v hv q => by
    rw [← h1, levelL, levelK_has hv]
    exact ⟨b, hb, q⟩
  have sg : ∀ b, leS g.owner.length (sureL g (goalL g row z) Y) (great g (stepL g (sureL g (goalL g row z) Y) (A.getD b []))) := fun b v hv q => by
    rw [← (great_spec (step_mon hm (sureL g (goalL g row z) Y) (A.getD b []))).1, stepL, has_or hv, q]; rfl
  have ys : leS g.owner.length Y (sureL g (goalL g row z) Y) := fun v hv q => by
    rw [← h1, levelL, levelK_has hv] at q
    obtain ⟨b, hb, q⟩ := q
    rw [← (great_spec (step_mon hm (sureL g (goalL g row z) Y) (A.getD b []))).1, stepL, has_or hv, Bool.or_eq_true] at q
    rcases q with q | q
    · exact q
    · rw [has_and hv, Bool.and_eq_true] at q
      rw [sureL, has_or hv, Bool.or_eq_true]
      exact .inr (force_mono hm (gl b hb) v hv q.2)
  exact ⟨ys.trans (sg a), gl a ha, (sg a).trans (gl a ha)⟩
theorem xs_great (hm : mayE g = 0) (a : Nat) : ∀ t, leS g.owner.length (great g (stepL g (sureL g (goalL g row z) (leastL g A row z)) (A.getD a []))) (xsK g A row z a t)
  | 0 => le_top _
  | t + 1 => by
    have M := step_mon hm (sureL g (goalL g row z) (leastL g A row z)) (A.getD a [])
    have := M.mono _ _ (xs_great hm a t)
    rw [(great_spec M).1] at this
    exact this

theorem unforce (hm : mayE g = 0) {s : List Bool} {v : Nat} (hv : v < g.owner.length) (h : hasN (forceL g 1 s) v = false) : (ow g v = 0 → ∃ w, gE g v w ∧ hasN s w = false) ∧ (ow g v ≠ 0 → ∀ w, gE g v w → hasN s w = false) := by
  have n : ¬ ((ow g v = 1 ∧ ∃ w, gE g v w ∧ hasN s w = true) ∨ (ow g v ≠ 1 ∧ ∀ w, gE g v w → hasN s w = true)) := fun q => by
    rw [(force_nat hm hv).2 q] at h; cases h
  refine ⟨fun o => ?_, fun o w hw => ?_⟩
  · refine Classical.byContradiction fun no => n (.inr ⟨by omega, fun w hw => ?_⟩)
    cases q : hasN s w with
    | true => rfl
    | false => exact absurd ⟨w, hw, q⟩ no
  · have o1 := (ow_ok hm hv).resolve_left o
    cases q : hasN s w with
    | false => rfl
    | true => exact absurd (.inl ⟨o1, w, hw, q⟩) n

/-- Env may go there, to see a row of assume, and never that of ensure. -/
def awayP (g : G) (A : List (List Bool)) (row z : List Bool) (a v w : Nat) : Prop :=
  (hasN row v = true → hasN z w = false) ∧ (hasN row v = false → hasN (leastL g A row z) w = false ∧ (hasN (A.getD a []) v = true ∨ skV g A row z a w < skV g A row z a v))

theorem away_ex (hm : mayE g = 0) (hA : 0 < A.length) {a v : Nat} (ha : a < A.length) (hv : v < g.owner.length) (hY : hasN (leastL g A row z) v = false) :
    (ow g v = 0 → ∃ w, gE g v w ∧ awayP g A row z a v w) ∧ (ow g v ≠ 0 → ∀ w, gE g v w → awayP g A row z a v w) := by
  obtain ⟨y1, y2, y3⟩ := all_great (row := row) (z := z) hm hA ha
  have go : ∀ s : List Bool, hasN (forceL g 1 s) v = false → (∀ w, w < g.owner.length → hasN s w = false → awayP g A row z a v w) → (ow g v = 0 → ∃ w, gE g v w ∧ awayP g A row z a v w) ∧ (ow g v ≠ 0 → ∀ w, gE g v w → awayP g A row z a v w) := by
    intro s hs hp
    obtain ⟨u1, u2⟩ := unforce hm hv hs
    refine ⟨fun o => ?_, fun o w hw => hp w (gE_lt hm hw hv) (u2 o w hw)⟩
    obtain ⟨w, hw, q⟩ := u1 o
    exact ⟨w, hw, hp w (gE_lt hm hw hv) q⟩
  have ns : hasN (sureL g (goalL g row z) (leastL g A row z)) v = false := by
    cases q : hasN (sureL g (goalL g row z) (leastL g A row z)) v with
    | false => rfl
    | true => rw [y3 v hv q] at hY; cases hY
  have ns' := ns
  rw [sureL, has_or hv, Bool.or_eq_false_iff] at ns
  obtain ⟨n1, n2⟩ := ns
  cases hrow : hasN row v with
  | true =>
    rw [goalL, has_and hv, hrow, Bool.true_and] at n1
    exact go z n1 fun w hw q => ⟨fun _ => q, fun q => absurd q (by rw [hrow]; decide)⟩
  | false =>
    cases hav : hasN (A.getD a []) v with
    | true => exact go _ n2 fun w hw q => ⟨fun q => absurd q (by rw [hrow]; decide), fun _ => ⟨q, .inl hav⟩⟩
    | false =>
      have ex : ∃ t, hasN (xsK g A row z a t) v = false := by
        obtain ⟨t, ht⟩ := fixG_it (stepL g (sureL g (goalL g row z) (leastL g A row z)) (A.getD a [])) (g.owner.length + 1) (topL g)
        refine ⟨t, ?_⟩
        cases q : hasN (xsK g A row z a t) v with
        | false => rfl
        | true =>
          rw [xsK, ← ht] at q
          rw [y2 v hv q] at hY; cases hY
      obtain ⟨t1, t2⟩ := leastN_spec ex
      have ht : leastN (fun t => hasN (xsK g A row z a t) v = false) = skV g A row z a v := rfl
      rw [ht] at t1 t2
      have t0 : skV g A row z a v ≠ 0 := fun e => by
        rw [e, show xsK g A row z a 0 = topL g from rfl, top_has hv] at t1; cases t1
      obtain ⟨t, et⟩ : ∃ t, skV g A row z a v = t + 1 := ⟨skV g A row z a v - 1, by omega⟩
      rw [et] at t1
      have t1' : hasN (stepL g (sureL g (goalL g row z) (leastL g A row z)) (A.getD a []) (xsK g A row z a t)) v = false := t1
      rw [stepL, has_or hv, ns', Bool.false_or, has_and hv, has_not hv, hav] at t1'
      refine go (xsK g A row z a t) (by simpa using t1') fun w hw q => ⟨fun q => absurd q (by rw [hrow]; decide), fun _ => ⟨?_, .inr ?_⟩⟩
      · cases k : hasN (leastL g A row z) w with
        | false => rfl
        | true => rw [xs_great hm a t w hw (y1 w hw k)] at q; cases q
      · have : skV g A row z a w ≤ t := (leastN_spec (P := fun t => hasN (xsK g A row z a t) w = false) ⟨_, q⟩).2 _ q
        omega
end

section
variable {g : G} {A E : List (List Bool)} (h : cgErr g A E = 0)
/-- What Sys wins with some memory. -/
noncomputable def someW (g : G) (A E : List (List Bool)) : List Bool := tab g.owner.length fun v => (List.range (kC A E)).any fun mem => decide (fI (winL (cgG g A E) (cgP g A E)) (v * kC A E + mem) = 1)
include h
theorem some_has {p : Nat} (hp : p < g.owner.length * kC A E) (hw : fI (winL (cgG g A E) (cgP g A E)) p = 1) : hasN (someW g A E) (vC A E p) = true := by
  have ok := cg_ok h
  unfold someW hasN
  rw [getD_tab, if_pos (cg_v h hp), List.any_eq_true]
  refine ⟨p % kC A E, List.mem_range.2 (Nat.mod_lt _ ok.k0), ?_⟩
  rw [show vC A E p * kC A E + p % kC A E = p from by rw [Nat.mul_comm]; exact Nat.div_add_mod _ _, hw]
  rfl
theorem some_not {p : Nat} (hp : p < g.owner.length * kC A E) (hn : hasN (someW g A E) (vC A E p) = false) : fI (winL (cgG g A E) (cgP g A E)) p = 0 := by
  rcases solve_win (cg_pok h) (v := p) (by rw [cg_len h]; exact hp) with q | q
  · exact q
  · rw [some_has h hp q] at hn; cases hn

/-- Where a row of ensure need not be met, Env wins. -/
theorem env_wins {J : Nat} (hJ : J < nC E) {p : Nat} (hp : p < g.owner.length * kC A E) (hY : hasN (leastL g (rowsL g A) ((rowsL g E).getD J []) (someW g A E)) (vC A E p) = false) : fI (winL (cgG g A E) (cgP g A E)) p = 0 := by
  have ok := cg_ok h
  have hm := ok.m
  have pok := cg_pok h
  have sol := solve_sol pok
  have hA := rowsL_pos g A
  have lA : (rowsL g A).length = mC A := rows_len g A
  have cl := cg_len h
  obtain ⟨row, hrow⟩ : ∃ row, row = (rowsL g E).getD J [] := ⟨_, rfl⟩
  rw [← hrow] at hY
  have so := fun (p : Nat) => some_not h (p := p)
  obtain ⟨z, hz⟩ : ∃ z, z = someW g A E := ⟨_, rfl⟩
  rw [← hz] at hY so
  have near := fun (p : Nat) (hp : p < g.owner.length * kC A E) (q : hasN (leastL g (rowsL g A) row z) (vC A E p) = false) => away_ex (row := row) (z := z) (a := iC A E p) hm hA (by rw [lA]; exact cg_i h) (cg_v h hp) q
  obtain ⟨W, hW⟩ : ∃ W, W = fI (winL (cgG g A E) (cgP g A E)) := ⟨_, rfl⟩
  obtain ⟨T0, hT0⟩ : ∃ T0, T0 = fI (toL (cgG g A E) (cgP g A E)) := ⟨_, rfl⟩
  simp only [← hW, ← hT0] at sol
  have so : ∀ p, p < g.owner.length * kC A E → hasN z (vC A E p) = false → W p = 0 := fun p hp q => by rw [hW]; exact so p hp q
  have done : ∀ p, p < g.owner.length * kC A E → W p = 0 ∨ W p = 1 := fun p hp => sol.win p (by rw [cl]; exact hp)
  obtain ⟨T, hT⟩ : ∃ T : Nat → Int, (∀ p, W p = 0 → T p = T0 p) ∧ ∀ p, W p ≠ 0 → (∃ w, gE g (vC A E p) w ∧ awayP g (rowsL g A) row z (iC A E p) (vC A E p) w) → ∃ w, gE g (vC A E p) w ∧ awayP g (rowsL g A) row z (iC A E p) (vC A E p) w ∧ T p = ((w * kC A E + onThen A E (vC A E p) (p % kC A E) : Nat) : Int) := by
    refine ⟨fun p => open Classical in if W p = 0 then T0 p else if q : ∃ w, gE g (vC A E p) w ∧ awayP g (rowsL g A) row z (iC A E p) (vC A E p) w then ((Classical.choose q * kC A E + onThen A E (vC A E p) (p % kC A E) : Nat) : Int) else 0, fun p e => by simp only [e, if_pos], fun p n q => ?_⟩
    refine ⟨Classical.choose q, (Classical.choose_spec q).1, (Classical.choose_spec q).2, ?_⟩
    simp only [n, if_false, q, dif_pos]
  obtain ⟨hTa, hTb⟩ := hT
  -- one step from where Sys is said to win
  have edge : ∀ p q, p < g.owner.length * kC A E → W p ≠ 0 → hasN (leastL g (rowsL g A) row z) (vC A E p) = false → stE (gE (cgG g A E)) (ow (cgG g A E)) 0 T p q → awayP g (rowsL g A) row z (iC A E p) (vC A E p) (vC A E q) := by
    rintro p q hp hn hy ⟨e, ho⟩
    obtain ⟨st1, st2, st3, _, _⟩ := cg_step h hp e
    rw [cg_ow h hp] at ho
    obtain ⟨n1, n2⟩ := near p hp hy
    by_cases o : ow g (vC A E p) = 0
    · obtain ⟨w, w1, w2, w3⟩ := hTb p hn (n1 o)
      have eq : q = w * kC A E + onThen A E (vC A E p) (p % kC A E) := by
        have := ho o
        rw [w3] at this
        omega
      have : vC A E q = w := by rw [eq]; exact (cg_at h w _ (cg_then h)).1
      rw [this]; exact w2
    · exact n2 o _ st1
  have into : ∀ p q, q < g.owner.length * kC A E → awayP g (rowsL g A) row z (iC A E p) (vC A E p) (vC A E q) → q < g.owner.length * kC A E ∧ (W q = 0 ∨ hasN (leastL g (rowsL g A) row z) (vC A E q) = false) := by
    intro p q hq ⟨a1, a2⟩
    refine ⟨hq, ?_⟩
    cases r : hasN row (vC A E p) with
    | true => exact .inl (so q hq (a1 r))
    | false => exact .inr (a2 r).1
  refine win_uniq pok (.inl rfl) (T := T) (D := fun p => p < g.owner.length * kC A E ∧ (W p = 0 ∨ hasN (leastL g (rowsL g A) row z) (vC A E p) = false)) (fun v hv => by rw [cl]; exact hv.1) ⟨?_, ?_, ?_⟩ ⟨hp, .inr hY⟩
  · rintro p ⟨hp, hd⟩ o
    by_cases w0 : W p = 0
    · obtain ⟨q, q1, q2, q3, q4⟩ := sol.own p (by rw [cl]; exact hp) (by rw [w0]; exact o)
      exact ⟨q, by rw [hTa p w0]; exact q1, q2, by rw [cl] at q3; exact q3, .inl (by rw [q4]; exact w0)⟩
    · have hy := hd.resolve_left w0
      rw [cg_ow h hp] at o
      obtain ⟨w, w1, w2, w3⟩ := hTb p w0 ((near p hp hy).1 o)
      refine ⟨_, w3, (cg_edge h hp).2 ⟨w, w1, rfl⟩, into p _ (cg_lt h (gE_lt hm w1 (cg_v h hp)) (cg_then h)) ?_⟩
      rw [(cg_at h w _ (cg_then h)).1]
      exact w2
  · rintro p ⟨hp, hd⟩ o q e
    obtain ⟨st1, st2, _⟩ := cg_step h hp e
    by_cases w0 : W p = 0
    · exact ⟨st2, .inl (by rw [sol.opp p (by rw [cl]; exact hp) (by rw [w0]; exact o) q e (by rw [cl]; exact st2)]; exact w0)⟩
    · have hy := hd.resolve_left w0
      rw [cg_ow h hp] at o
      exact into p q st2 ((near p hp hy).2 o _ st1)
  · rintro p ⟨hp, hd⟩ pev way
    have closed : ∀ a b, ((a < g.owner.length * kC A E ∧ (W a = 0 ∨ hasN (leastL g (rowsL g A) row z) (vC A E a) = false)) ∧ prN (cgP g A E) a ≤ prN (cgP g A E) p) → ((b < g.owner.length * kC A E ∧ (W b = 0 ∨ hasN (leastL g (rowsL g A) row z) (vC A E b) = false)) ∧ prN (cgP g A E) b ≤ prN (cgP g A E) p) → W a = 0 → stE (gE (cgG g A E)) (ow (cgG g A E)) 0 T a b → W b = 0 := by
      rintro a b ⟨⟨ha, _⟩, _⟩ ⟨⟨hb, _⟩, _⟩ wa ⟨e, ho⟩
      by_cases o : ow (cgG g A E) a = 0
      · obtain ⟨q, q1, q2, q3, q4⟩ := sol.own a (by rw [cl]; exact ha) (by rw [wa]; exact o)
        have := ho o
        rw [hTa a wa, q1] at this
        have : q = b := by omega
        rw [← this, q4]; exact wa
      · rw [sol.opp a (by rw [cl]; exact ha) (by rw [wa]; exact o) b e (by rw [cl]; exact hb)]; exact wa
    by_cases w0 : W p = 0
    · have w1 := way.within (T := fun a => W a = 0) closed w0
      refine sol.circ p (by rw [cl]; exact hp) (by rw [w0]; exact pev) ?_
      rw [w0]
      exact w1.mono (fun a b ha _ q => ⟨q.1, fun o => by rw [← hTa a ha.2]; exact q.2 o⟩) fun a q => ⟨by rw [cl]; exact q.1.1.1, q.2, q.1.2⟩
    · have w1 := way.avoid (T := fun a => W a = 0) closed w0
      -- a row of ensure is not met there
      have w2 := w1.strong (P := fun a => hasN row (vC A E a) = false) (fun a b ha hb e => by
        cases r : hasN row (vC A E a) with
        | false => rfl
        | true =>
          have aw := edge a b ha.1.1.1 ha.2 (ha.1.1.2.resolve_left ha.2) e
          exact absurd (so b hb.1.1.1 (aw.1 r)) hb.2)
      have w3 := w2.ring (m := nC E) (t := J) (f := jC A E) (M := ME A E) hJ (fun a _ => cg_j) (fun a b ha hb e => (cg_step h ha.1.1.1.1 e.1).2.2.2.2) (fun a ha e hM => by
        have hv := cg_v h ha.1.1.1.1
        rw [ME, met_eq hv cg_j, e, ← hrow, ha.2] at hM
        cases hM)
      have hp0 : prN (cgP g A E) p = 0 := by
        have q := w3.fst.2
        have t1 := (cg_two h hp).2.2.2.2
        have t2 : prN (cgP g A E) p ≠ 2 := fun z => q ((cg_two h hp).2.1 z)
        have : prN (cgP g A E) p % 2 = 0 := by omega
        omega
      have w4 := w3.ring (m := mC A) (t := mC A - 1) (f := iC A E) (M := MA A E) (by show max 1 A.length - 1 < max 1 A.length; omega) (fun a _ => cg_i h) (fun a b ha hb e => (cg_step h ha.1.1.1.1.1 e.1).2.2.2.1) (fun a ha e hM => by
        have := (cg_two h ha.1.1.1.1.1).2.2.2.1 ⟨hM, e⟩
        have := ha.1.1.1.1.2
        omega)
      have w5 := w4.flat (iC A E) (fun a b ha hb e => Nat.le_of_eq ((cg_step h ha.1.1.1.1.1.1 e.1).2.2.2.1.2 ha.2))
      have := w5.lt (fun a => skV g (rowsL g A) row z (iC A E p) (vC A E a)) (fun a b ha hb e => by
        obtain ⟨⟨⟨⟨⟨⟨⟨a1, a2⟩, a3⟩, a4⟩, a5⟩, a6⟩, a7⟩, a8⟩ := ha
        have aw := (edge a b a1 a4 (a2.resolve_left a4) e).2 a5
        rw [a8] at aw
        rcases aw.2 with q | q
        · exfalso
          apply a7
          rw [MA, met_eq (cg_v h a1) (cg_i h), a8]
          exact q
        · exact q)
      omega

/-- THE THREE FIXPOINTS AND THE PRIORITIES COME TO THE SAME. -/
theorem gr1_counter {p : Nat} (hp : p < g.owner.length * kC A E) : fI (winL (cgG g A E) (cgP g A E)) p = 1 ↔ hasN (solveL g A E).1 (vC A E p) = true := by
  have ok := cg_ok h
  refine ⟨fun w => ?_, sys_wins h hp⟩
  have lE : (rowsL g E).length = nC E := rows_len g E
  have hA := rowsL_pos g A
  have key : leS g.owner.length (someW g A E) (solveL g A E).1 := by
    refine (solve_spec ok.m A E).2.2.2 _ fun J hJ x hx => ?_
    refine leS.trans ?_ (least_mono ok.m hA _ hx)
    intro v hv q
    have q0 := q
    unfold someW hasN at q
    rw [getD_tab, if_pos hv, List.any_eq_true] at q
    obtain ⟨mem, hmem, q⟩ := q
    rw [decide_eq_true_eq] at q
    have hmem' := List.mem_range.1 hmem
    cases y : hasN (leastL g (rowsL g A) ((rowsL g E).getD J []) (someW g A E)) v with
    | true => rfl
    | false =>
      have := env_wins h (J := J) (by rw [← lE]; exact hJ) (p := v * kC A E + mem) (cg_lt h hv hmem') (by rw [(cg_at h v mem hmem').1]; exact y)
      rw [this] at q; cases q
  exact key _ (cg_v h hp) (some_has h hp w)
end
end Go.Par
