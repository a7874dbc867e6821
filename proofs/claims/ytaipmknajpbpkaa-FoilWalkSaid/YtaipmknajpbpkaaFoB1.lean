/- Texts FoD FoE FoF, one behind another. -/
import Derived.Test.YtaipmknajpbpkaaGgA
import Derived.Test.YtaipmknajpbpkaaKgA
import Derived.Test.YtaipmknajpbpkaaFoA1
import Derived.Test.YtaipmknajpbpkaaRwA
import Derived.Test.YtaipmknajpbpkaaLwFoilAll
set_option linter.unusedSimpArgs false
set_option linter.unusedVariables false
set_option maxRecDepth 8000
namespace Go.Par


section
variable {g : G} {A E : List (List Bool)} (h : cgErr g A E = 0) {X : Nat → Nat → Prop} {S : Nat → Prop}
/-- A play from where Env wins. -/
structure FoPlay (g : G) (A E : List (List Bool)) (X : Nat → Nat → Prop) (S : Nat → Prop) : Prop where
  lt : ∀ p, S p → p < g.owner.length * kC A E
  win : ∀ p, S p → fI (winL (cgG g A E) (cgP g A E)) p = 0
  edge : ∀ p q, S p → X p q → stE (gE (cgG g A E)) (ow (cgG g A E)) 0 (fI (toL (cgG g A E) (cgP g A E))) p q
include h
theorem FoPlay.circ (F : FoPlay g A E X S) {S' : Nat → Prop} (hS : ∀ p, S' p → S p) {v : Nat} (hv : prN (cgP g A E) v % 2 = 0) (w : Way X (fun a => S' a ∧ prN (cgP g A E) a ≤ prN (cgP g A E) v) v v) : False := by
  have W := solve_wn (cg_pok h) (who := 0) (.inl rfl)
  have hSv := hS v w.fst.1
  have hlen := cg_len h (A := A) (E := E)
  refine W.circ v ⟨by rw [hlen]; exact F.lt v hSv, F.win v hSv⟩ (by rw [hv]; rfl) ?_
  exact w.mono (fun a b ha hb e => F.edge a b (hS a ha.1) e) fun a ha => ⟨⟨by rw [hlen]; exact F.lt a (hS a ha.1), F.win a (hS a ha.1)⟩, ha.2⟩
theorem FoPlay.not_two (F : FoPlay g A E X S) {S' : Nat → Prop} (hS : ∀ p, S' p → S p) {v : Nat} (w : Way X S' v v) : prN (cgP g A E) v ≠ 2 := fun e =>
  F.circ h hS (v := v) (by rw [e]) (w.sub fun a ha => ⟨ha, by rw [e]; exact (cg_two h (F.lt a (hS a ha))).2.2.2.2⟩)
theorem FoPlay.one (F : FoPlay g A E X S) {S' : Nat → Prop} (hS : ∀ p, S' p → S p) {v : Nat} (w : Way X S' v v) : ∃ u, S' u ∧ Way X S' u u ∧ MA A E u := by
  have wc := w.circle
  rcases Classical.em (∃ u, (S' u ∧ Way X S' v u ∧ Way X S' u v) ∧ prN (cgP g A E) u = 1) with ⟨u, hu, e⟩ | hn
  · exact ⟨u, hu.1, hu.2.2.trans hu.2.1, (cg_two h (F.lt u (hS u hu.1))).2.2.1 e⟩
  · exfalso
    have z : ∀ u, (S' u ∧ Way X S' v u ∧ Way X S' u v) → prN (cgP g A E) u = 0 := fun u hu => by
      have h2 := (cg_two h (F.lt u (hS u hu.1))).2.2.2.2
      have h3 := F.not_two h hS (hu.2.2.trans hu.2.1)
      have h4 : prN (cgP g A E) u ≠ 1 := fun e => hn ⟨u, hu, e⟩
      omega
    have zv := z v wc.fst
    exact F.circ h (S' := fun a => S' a ∧ Way X S' v a ∧ Way X S' a v) (fun p hp => hS p hp.1) (v := v) (by rw [zv]) (wc.sub fun a ha => ⟨ha, by rw [z a ha]; exact Nat.zero_le _⟩)
/-- A circle meets each row of assume. -/
theorem FoPlay.assume (F : FoPlay g A E X S) {i : Nat} (hi : i < A.length) {S' : Nat → Prop} (hS : ∀ p, S' p → S p ∧ hasN (A.getD i []) (vC A E p) = false) {v : Nat} (w : Way X S' v v) : False := by
  have hSS : ∀ p, S' p → S p := fun p hp => (hS p hp).1
  obtain ⟨u, hu, wu, mu⟩ := F.one h hSS w
  have hA : A ≠ [] := fun e => by rw [e] at hi; simp at hi
  have mA : mC A = A.length := by show max 1 A.length = _; omega
  have met : ∀ p, S' p → MA A E p → iC A E p ≠ i := fun p hp m e => by
    unfold MA metB at m
    rw [e] at m
    simp [hA] at m
    have := (hS p hp).2
    rw [List.getD_eq_getElem?_getD] at this
    rw [this] at m; cases m
  obtain ⟨f, hf⟩ : ∃ f : Nat → Nat, ∀ p, f p = if iC A E p ≤ i then iC A E p + A.length - 1 - i else iC A E p - 1 - i := ⟨_, fun p => rfl⟩
  have fb : ∀ p, S p → f p < A.length := fun p hp => by
    have := cg_i h (p := p)
    rw [hf]; split <;> omega
  have step : ∀ a b, S' a → S' b → X a b → f a ≤ f b ∧ (MA A E a → f a < f b) := fun a b ha hb e => by
    obtain ⟨_, _, _, ⟨i1, i2⟩, _⟩ := cg_step h (F.lt a (hSS a ha)) (F.edge a b (hSS a ha) e).1
    have ia := cg_i h (p := a)
    by_cases m : MA A E a
    · have h1 := i1 m
      have h2 := met a ha m
      have : f a < f b := by
        rw [hf, hf, h1]
        rw [mA] at ia ⊢
        by_cases l : iC A E a = A.length - 1
        · rw [l, show A.length - 1 + 1 = A.length by omega, Nat.mod_self]
          rw [l] at h2
          split <;> split <;> omega
        · rw [Nat.mod_eq_of_lt (by omega)]
          split <;> split <;> omega
      exact ⟨Nat.le_of_lt this, fun _ => this⟩
    · have h1 := i2 m
      exact ⟨by rw [hf, hf, h1]; exact Nat.le_refl _, fun q => absurd q m⟩
  obtain ⟨x, hx, ex, hxw⟩ := wu.head
  have s1 := (step u x hu hx ex).2 mu
  rcases hxw with e | wx
  · rw [e] at s1; omega
  · have := wx.le (fun p => A.length - f p) (fun a b ha hb e => by have := (step a b ha hb e).1; first | omega | (simp only; omega))
    have b1 := fb u (hSS u hu)
    have b2 := fb x (hSS x hx)
    omega
/-- No circle, with all that is in its component, meets each row of ensure. -/
theorem FoPlay.ensure (F : FoPlay g A E X S) {v : Nat} (w : Way X S v v) (hr : ∀ j, j < E.length → ∃ u, hasN (E.getD j []) (vC A E u) = true ∧ Same X S u v) : False := by
  have id : ∀ p, S p → S p := fun p hp => hp
  have jl : ∀ p, jC A E p < nC E := fun p => cg_j
  have nt : ∀ p, Same X S p v → ¬ (ME A E p ∧ jC A E p = nC E - 1) := fun p hp q => by
    have lp := hp.loop w
    exact F.not_two h id lp ((cg_two h (F.lt p lp.fst)).1 q)
  have up : ∀ a b, (S a ∧ Same X S a v) → (S b ∧ Same X S b v) → X a b → jC A E a ≤ jC A E b ∧ (ME A E a → jC A E a < jC A E b) := fun a b ha hb e => by
    obtain ⟨_, _, _, _, j1, j2⟩ := cg_step h (F.lt a ha.1) (F.edge a b ha.1 e).1
    have ja := jl a
    by_cases m : ME A E a
    · have h1 := j1 m
      have h2 : jC A E a ≠ nC E - 1 := fun q => nt a ha.2 ⟨m, q⟩
      rw [Nat.mod_eq_of_lt (by omega)] at h1
      exact ⟨by omega, fun _ => by omega⟩
    · have h1 := j2 m
      exact ⟨by omega, fun q => absurd q m⟩
  have eqj : ∀ u, Same X S u v → jC A E u = jC A E v := fun u hu => by
    rcases hu with e | ⟨a, b⟩
    · rw [e]
    · have dn : ∀ {x y : Nat}, Way X (fun z => S z ∧ Same X S z v) x y → jC A E x ≤ jC A E y := fun {x y} q => by
        have := q.le (fun p => nC E - jC A E p) (fun a b ha hb e => by have := (up a b ha hb e).1; first | omega | (simp only; omega))
        have := jl x; have := jl y
        omega
      have q1 := dn (a.same b)
      have q2 := dn ((b.same a).sub fun z hz => ⟨hz.1, hz.2.trans (.inr ⟨a, b⟩)⟩)
      omega
  have noME : ∀ u, Same X S u v → ¬ ME A E u := fun u hu m => by
    have lu := hu.loop w
    obtain ⟨x, hx, ex, hxw⟩ := lu.head
    have sx : Same X S x u := by
      rcases hxw with e | q
      · exact .inl e
      · exact .inr ⟨q, .one lu.fst hx ex⟩
    have sxv := sx.trans hu
    have := (up u x ⟨lu.fst, hu⟩ ⟨hx, sxv⟩ ex).2 m
    rw [eqj u hu, eqj x sxv] at this
    omega
  by_cases e : E = []
  · exact noME v (.inl rfl) (by unfold ME metB; simp [e])
  · have jv := jl v
    have : nC E = E.length := by have := List.length_pos_iff.2 e; show max 1 E.length = _; omega
    obtain ⟨u, h1, h2⟩ := hr (jC A E v) (by omega)
    refine noME u h2 ?_
    unfold ME metB
    rw [eqj u h2]
    rw [List.getD_eq_getElem?_getD] at h1
    simp [e, h1]
end

theorem unfair_ok {g : G} {A E : List (List Bool)} (h : cgErr g A E = 0) {next : List (List Int)} (hN : next.length = g.owner.length * kC A E) {from_ : List Bool}
    (hf : ∀ p, p < next.length → hasN from_ p = true → fI (winL (cgG g A E) (cgP g A E)) p = 0)
    (he : ∀ p q, p < next.length → fI (winL (cgG g A E) (cgP g A E)) p = 0 → kE next p q → stE (gE (cgG g A E)) (ow (cgG g A E)) 0 (fI (toL (cgG g A E) (cgP g A E))) p q)
    {a b : List (List Bool)} (ha : ∀ r ∈ a, ∃ i, i < A.length ∧ r = sprL next.length (kC A E) (A.getD i [])) (hb : ∀ j, j < E.length → sprL next.length (kC A E) (E.getD j []) ∈ b) : unfairB next from_ a b = true := by
  have W := solve_wn (cg_pok h) (who := 0) (.inl rfl)
  have hlen := cg_len h (A := A) (E := E)
  have inN : ∀ p, Reaches (nG next) from_ p → p < next.length ∧ fI (winL (cgG g A E) (cgP g A E)) p = 0 := fun p hp => by
    induction hp with
    | start v hv hw => exact ⟨by simpa using hv, hf v (by simpa using hv) hw⟩
    | step u w hu hw ih =>
      obtain ⟨i1, i2⟩ := ih
      have e := he u w i1 i2 ⟨i1, hw⟩
      have D : u < (cgG g A E).owner.length ∧ fI (winL (cgG g A E) (cgP g A E)) u = 0 := ⟨by rw [hlen, ← hN]; exact i1, i2⟩
      by_cases o : ow (cgG g A E) u = 0
      · obtain ⟨w', t1, t2, t3⟩ := W.own u D o
        have := e.2 o
        rw [t1] at this
        have : w' = w := by omega
        subst this
        exact ⟨by rw [hN, ← hlen]; exact t3.1, t3.2⟩
      · obtain ⟨t1, t2⟩ := W.opp u D o w e.1
        exact ⟨by rw [hN, ← hlen]; exact t1, t2⟩
  have play : ∀ in_, FoPlay g A E (kE next) (kS next (r9andL (reachL (nG next) from_) in_)) := fun in_ => by
    have rd : ∀ p, kS next (r9andL (reachL (nG next) from_) in_) p → Reaches (nG next) from_ p := fun p hp => (hasN_reach (hasN_and _ _ _ hp.2).1).2
    exact ⟨fun p hp => by rw [← hN]; exact hp.1, fun p hp => (inN p (rd p hp)).2, fun p q hp e => he p q hp.1 (inN p (rd p hp)).2 e⟩
  have m1 : meetsB next from_ (fullL next) b = false := by
    unfold meetsB
    rw [decide_eq_false_iff_not]
    rintro ⟨v, w, hr⟩
    refine (play (fullL next)).ensure h w fun j hj => ?_
    obtain ⟨u, h1, h2⟩ := hr _ (hb j hj)
    exact ⟨u, (hasN_spr.1 h1).2, h2⟩
  have m2 : metA next from_ [] a a.length = false := by
    cases q : metA next from_ [] a a.length with
    | false => rfl
    | true =>
      exfalso
      simp only [metA, List.take_length, List.any_eq_true] at q
      obtain ⟨r, hr, q⟩ := q
      obtain ⟨v, w, _⟩ := meetsB_true q
      obtain ⟨i, hi, rfl⟩ := ha r hr
      refine (play (wiL next (sprL next.length (kC A E) (A.getD i [])))).assume h hi (fun p hp => ⟨hp, ?_⟩) w
      have := (hasN_wi (hasN_and _ _ _ hp.2).2).2
      cases z : hasN (A.getD i []) (vC A E p) with
      | false => rfl
      | true => rw [hasN_spr.2 ⟨hp.1, z⟩] at this; cases this
  unfold unfairB
  rw [m1, m2]; rfl
end Go.Par

set_option linter.unusedSimpArgs false
set_option linter.unusedVariables false
set_option maxRecDepth 8000
set_option maxHeartbeats 2000000
namespace Go.Par
open Go.Proofs

theorem l21_all (n : Nat) (hn : n ≤ 100000) : Pure Try.prog 29 [.int .i64 n] (.ro true (bools (tab n fun _ => true))) := by
  intro h
  refine AC.body Θ_ok Try.func29 rfl rfl (Nat.le_of_ble_eq_true rfl) ?_
  refine AW.seq fun _ k1 => AW.region [] Θ_ok ?_
  simp
  refine k1 _ ?_
  refine AW.seq fun _ k1 => AW.region [6] Θ_ok ?_
  simp
  refine ⟨by omega, fun o ho => k1 _ ?_⟩
  rw [replicate_tab, flat_tab (fun _ _ => rfl)]
  refine AW.seq fun _ k1 => ?_
  refine AW.seq fun _ k2 => AW.region [] Θ_ok ?_
  simp
  refine k2 _ ?_
  refine AW.block ?_
  refine AW.loopI (X := Nat) (fun x => x ≤ n) (fun x => ⟨17, [(3, .mu o n), (8, .int .i64 n), (9, .int .i64 x)], upd h o (some ⟨tab n fun i => .bool (decide (i < x)), 4, 1, true⟩)⟩) (fun x => n - x) 0 (Nat.zero_le _) (GStep.eq (by simp) ?_) fun x hx => ?_
  · simp; exact subH.refl _
  refine AW.seq fun _ k2 => AW.region [] Θ_ok ?_
  simp
  refine k2 _ ?_
  by_cases hlt : x < n
  · have inc := wrap_succ (show x < 9223372036854775807 by omega)
    have hset : (tab n fun i => AV.bool (decide (i < x))).set x (.bool true) = tab n fun i => .bool (decide (i < x + 1)) := by
      rw [set_tab]
      refine tab_congr fun i hi => ?_
      by_cases e : i = x
      · subst e; simp
      · by_cases h1 : i < x
        · simp [e, h1, show i < x + 1 by omega]
        · simp [e, h1, show ¬ i < x + 1 by omega]
    refine AW.seq fun _ k2 => AW.cond true (by simp [Int.natCast_inj, hlt]) (fun _ => ?_) (fun h => by cases h)
    refine AW.skip ?_
    simp
    refine k2 _ ?_
    refine AW.seq fun _ k2 => ?_
    refine AW.block ?_
    refine AW.seq fun _ k3 => AW.region [] Θ_ok ?_
    simp
    refine k3 _ ?_
    refine AW.region [] Θ_ok ?_
    simp [hlt]
    refine ⟨by omega, k2 _ ?_⟩
    refine AW.region [] Θ_ok ?_
    simp
    exact ⟨x + 1, by omega, by omega, GStep.eq (by simp [inc]) (subH_of_eq (congrArg (fun c => upd h o (some ⟨c, 4, 1, true⟩)) hset))⟩
  obtain rfl : x = n := by omega
  refine AW.seq fun _ k2 => AW.cond false (by simp [Int.natCast_inj]) (fun h => by cases h) (fun _ => ?_)
  refine AW.exit ?_
  simp
  refine k1 _ ?_
  refine AW.seq fun _ kr => AW.region [] Θ_ok ?_
  simp
  refine kr _ (AW.ret ?_)
  simp [Try.f29]
  refine Fin.freeze (k := true) (upd_same _ _ _) (fun _ => rfl) rfl (by simp) (ones_bools _ _) h (by simp [upd_none_id ho]; exact subH.refl _) ⟨?_, rfl⟩
  simp only [bools, map_tab]
  congr 1
  exact tab_congr fun i hi => by simp [hi]

theorem l21_spread (r : List Bool) (n K : Nat) (hn : n ≤ 3000) (hK : K ≤ 16) (k0 : 0 < K) : Pure Try.prog 28 [.ro false (bools r), .int .i64 n, .int .i64 K] (.ro true (bools (sprL (n * K) K r))) := by
  have hNK : n * K ≤ 3000 * 16 := Nat.mul_le_mul hn hK
  obtain ⟨N, hN⟩ : ∃ N, N = n * K := ⟨_, rfl⟩
  have wN : IntKind.i64.wrap ((n : Int) * (K : Int)) = (N : Int) := by rw [hN, ← Int.natCast_mul]; exact wrap_nat (by omega)
  rw [← hN] at hNK ⊢
  have k1' : ¬ (K : Int) = 0 := by omega
  have k2' : ¬ K = 0 := by omega
  intro h
  refine AC.body Θ_ok Try.func28 rfl rfl (Nat.le_of_ble_eq_true rfl) ?_
  refine AW.seq fun _ k1 => AW.region [] Θ_ok ?_
  simp
  refine k1 _ ?_
  refine AW.seq fun _ k1 => AW.region [12] Θ_ok ?_
  simp [wN]
  refine ⟨by omega, fun o ho => k1 _ ?_⟩
  rw [replicate_tab, flat_tab (fun _ _ => rfl)]
  refine AW.seq fun _ k1 => ?_
  refine AW.seq fun _ k2 => AW.region [] Θ_ok ?_
  simp
  refine k2 _ ?_
  refine AW.block ?_
  refine AW.loopI (X := Nat) (fun x => x ≤ N) (fun x => ⟨37, [(0, .ro false (bools r)), (2, .int .i64 K), (7, .mu o N), (14, .int .i64 N), (15, .int .i64 x)], upd h o (some ⟨tab N fun i => .bool (decide (i < x) && hasN r (i / K)), 4, 1, true⟩)⟩) (fun x => N - x) 0 (Nat.zero_le _) (GStep.eq (by simp) ?_) fun x hx => ?_
  · simp; exact subH.refl _
  refine AW.seq fun _ k2 => AW.region [] Θ_ok ?_
  simp
  refine k2 _ ?_
  by_cases hlt : x < N
  · have inc := wrap_succ (show x < 9223372036854775807 by omega)
    have hset : (tab N fun i => AV.bool (decide (i < x) && hasN r (i / K))).set x (.bool (hasN r (x / K))) = tab N fun i => .bool (decide (i < x + 1) && hasN r (i / K)) := by
      rw [set_tab]
      refine tab_congr fun i hi => ?_
      by_cases e : i = x
      · subst e; simp
      · by_cases h1 : i < x
        · simp [e, h1, show i < x + 1 by omega]
        · simp [e, h1, show ¬ i < x + 1 by omega]
    obtain ⟨d, hd⟩ : ∃ d, d = x / K := ⟨_, rfl⟩
    have hdx : d ≤ x := by rw [hd]; exact Nat.div_le_self _ _
    have wd : IntKind.i64.wrap ((x : Int) / (K : Int)) = (d : Int) := by rw [hd, ← Int.natCast_ediv]; exact wrap_nat (by rw [← hd]; omega)
    have wd2 : IntKind.i64.wrap ((x : Int).tdiv (K : Int)) = (d : Int) := by rw [Int.tdiv_eq_ediv_of_nonneg (by omega)]; exact wd
    rw [← hd] at hset
    refine AW.seq fun _ k2 => AW.cond true (by simp [Int.natCast_inj, hlt]) (fun _ => ?_) (fun h => by cases h)
    refine AW.skip ?_
    simp
    refine k2 _ ?_
    refine AW.seq fun _ k2 => ?_
    refine AW.block ?_
    refine AW.seq fun _ k3 => AW.region [] Θ_ok ?_
    simp
    refine k3 _ ?_
    by_cases hdr : d < r.length
    · have e : hasN r d = r[d] := by simp [hasN, hdr]
      rw [e] at hset
      refine AW.region [] Θ_ok ?_
      simp [hlt, wd, wd2, k1', k2', hdr]
      refine ⟨by omega, k2 _ ?_⟩
      refine AW.region [] Θ_ok ?_
      simp
      exact ⟨x + 1, by omega, by omega, GStep.eq (by simp [inc]) (subH_of_eq (congrArg (fun c => upd h o (some ⟨c, 4, 1, true⟩)) hset))⟩
    · have e : hasN r d = false := by simp [hasN, Nat.le_of_not_lt hdr]
      rw [e] at hset
      refine AW.region [] Θ_ok ?_
      simp [hlt, wd, wd2, k1', k2', hdr]
      refine ⟨by omega, k2 _ ?_⟩
      refine AW.region [] Θ_ok ?_
      simp
      exact ⟨x + 1, by omega, by omega, GStep.eq (by simp [inc]) (subH_of_eq (congrArg (fun c => upd h o (some ⟨c, 4, 1, true⟩)) hset))⟩
  obtain rfl : x = N := by omega
  refine AW.seq fun _ k2 => AW.cond false (by simp [Int.natCast_inj]) (fun h => by cases h) (fun _ => ?_)
  refine AW.exit ?_
  simp
  refine k1 _ ?_
  refine AW.seq fun _ kr => AW.region [] Θ_ok ?_
  simp
  refine kr _ (AW.ret ?_)
  simp [Try.f28]
  refine Fin.freeze (k := true) (upd_same _ _ _) (fun _ => rfl) rfl (by simp) (ones_bools _ _) h (by simp [upd_none_id ho]; exact subH.refl _) ⟨?_, rfl⟩
  simp only [bools, sprL, map_tab]
  congr 1
  exact tab_congr fun i hi => by simp [hi]
end Go.Par

set_option linter.unusedSimpArgs false
set_option linter.unusedVariables false
set_option maxRecDepth 8000
namespace Go.Par

def frS (Z : List Bool) (M K p : Nat) : List Bool := tab M fun i => decide (i < p) && !hasN Z (i / K)
theorem frS_set (Z : List Bool) (M K p : Nat) : (frS Z M K p).set p (!hasN Z (p / K)) = frS Z M K (p + 1) := by
  unfold frS; rw [set_tab]
  refine tab_congr fun i hi => ?_
  by_cases e : i = p
  · subst e; simp
  · by_cases h1 : i < p
    · simp [e, h1, show i < p + 1 by omega]
    · simp [e, h1, show ¬ i < p + 1 by omega]

noncomputable def rowF (g : G) (A E : List (List Bool)) (i : Nat) : List Int :=
  if ow g (vC A E i) = 1 ∨ hasN (solveL g A E).1 (vC A E i) = true then (nx g (vC A E i)).map fun w => w * (kC A E : Int) + (onThen A E (vC A E i) (i % kC A E) : Nat) else [fI (toL (cgG g A E) (cgP g A E)) i]

theorem stepV_get {g : G} {A E : List (List Bool)} {W T : List Int} {K v m : Nat} (c : ow g v = 0 ∧ fI W (v * K) = 0) (hm : m < K) : ∀ n, v < n →
    (stepV g A E W T K n)[(stepV g A E W T K v).length + m]? = some ⟨v, m, ((fI T (v * K + m)).toNat / K : Nat), (onThen A E v m : Nat)⟩
  | 0, h => by omega
  | n + 1, h => by
    rw [stepV]
    by_cases e : v = n
    · subst e
      rw [if_pos c, List.getElem?_append_right (by omega), Nat.add_sub_cancel_left]
      simp [stepM, getElem?_tab, hm]
    · have ih := stepV_get (A := A) (E := E) (T := T) c hm n (by omega)
      rw [List.getElem?_append_left (List.getElem?_eq_some_iff.1 ih).1]
      exact ih

section
variable {g : G} {A E : List (List Bool)} (h : cgErr g A E = 0)
include h
theorem win_zp {p : Nat} (hp : p < g.owner.length * kC A E) : fI (winL (cgG g A E) (cgP g A E)) p = 0 ↔ hasN (solveL g A E).1 (vC A E p) = false := by
  have q := gr1_counter h hp
  rcases solve_win (cg_pok h) (v := p) (by rw [cg_len h]; exact hp) with w | w
  · rw [w] at q ⊢
    refine ⟨fun _ => ?_, fun _ => rfl⟩
    cases z : hasN (solveL g A E).1 (vC A E p) with
    | false => rfl
    | true => exact absurd (q.2 z) (by decide)
  · rw [w] at q ⊢
    rw [q.1 rfl]
    exact ⟨fun z => (by cases z), fun z => (by cases z)⟩
theorem rowF_edge {p q : Nat} (hp : p < g.owner.length * kC A E) (hq : (q : Int) ∈ rowF g A E p) : gE (cgG g A E) p q ∧ (fI (winL (cgG g A E) (cgP g A E)) p = 0 → ow (cgG g A E) p = 0 → fI (toL (cgG g A E) (cgP g A E)) p = q) := by
  have ok := cg_ok h
  have hv := cg_v h hp
  unfold rowF at hq
  split at hq
  · rename_i c
    obtain ⟨w, hw, e⟩ := List.mem_map.1 hq
    obtain ⟨b0, b1⟩ := (nx_ok ok.m hv).2 w hw
    obtain ⟨w', rfl⟩ := Int.eq_ofNat_of_zero_le b0
    refine ⟨(cg_edge h hp).2 ⟨w', hw, ?_⟩, fun z o => ?_⟩
    · have : ((w' * kC A E + onThen A E (vC A E p) (p % kC A E) : Nat) : Int) = q := by rw [← e]; push_cast; rfl
      omega
    · exfalso
      rw [cg_ow h hp] at o
      rcases c with c | c
      · rw [o] at c; cases c
      · rw [(win_zp h hp).1 z] at c; cases c
  · rename_i c
    simp only [not_or] at c
    have o0 : ow g (vC A E p) = 0 := (ow_all ok.m _).resolve_right c.1
    have z0 : hasN (solveL g A E).1 (vC A E p) = false := by simpa using c.2
    have hm : p % kC A E < kC A E := Nat.mod_lt _ ok.k0
    have pe : vC A E p * kC A E + p % kC A E = p := by rw [Nat.mul_comm]; exact Nat.div_add_mod _ _
    obtain ⟨q', q1, q2, q3, q4, q5, q6⟩ := fo_env h hv hm o0 ((win_z h hv).2 z0)
    rw [pe] at q1 q5
    rw [List.mem_singleton, q1] at hq
    have : q = q' := by omega
    subst this
    exact ⟨q5, fun _ _ => q1⟩
end
end Go.Par
