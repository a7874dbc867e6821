/- Texts PnI PnJ PnK PnL, one behind another. -/
import Derived.Test.YtaipmknajpbpkaaPgA
import Derived.Test.YtaipmknajpbpkaaKgA
import Derived.Test.YtaipmknajpbpkaaRwA
set_option linter.unusedSimpArgs false
set_option linter.unusedVariables false
set_option maxRecDepth 8000
namespace Go.Par

theorem solve_row {g : G} (hm : mayE g = 0) (A E : List (List Bool)) : ∀ i, i < (rowsL g E).length → leastL g (rowsL g A) ((rowsL g E).getD i []) (solveL g A E).1 = (solveL g A E).1 := by
  obtain ⟨h1, h2, _, _⟩ := solve_spec hm A E
  exact round_fix hm (rowsL_pos g A) (rowsL g E) h2 h1

/-- The plan for each row of ensure. -/
theorem plan_row {g : G} (hm : mayE g = 0) (A E : List (List Bool)) {m : Nat} (h : m < (rowsL g E).length) : PlanOk g (rowsL g A) ((rowsL g E).getD m []) (solveL g A E).1 ((planTL g (rowsL g A) (rowsL g E) (solveL g A E).1).getD m []) := by
  have e : (planTL g (rowsL g A) (rowsL g E) (solveL g A E).1).getD m [] = planL g (rowsL g A) ((rowsL g E).getD m []) (solveL g A E).1 := by simp [planTL, h]
  rw [e]
  exact plan_ok hm (rowsL_pos g A) (solve_row hm A E m h)

theorem pnV_ok {g : G} (hm : mayE g = 0) (A E : List (List Bool)) : ∀ v, v ≤ g.owner.length →
    (∀ s ∈ pnV g (solveL g A E).1 (planTL g (rowsL g A) (rowsL g E) (solveL g A E).1) (rowsL g E) v, ∃ a b c : Nat, s.a = a ∧ a < v ∧ s.b = b ∧ b < (rowsL g E).length ∧ s.c = c ∧ c < g.owner.length ∧ hasN (solveL g A E).1 a = true ∧ hasN (solveL g A E).1 c = true) ∧
    (pnV g (solveL g A E).1 (planTL g (rowsL g A) (rowsL g E) (solveL g A E).1) (rowsL g E) v).Pairwise lexS
  | 0, _ => ⟨fun s hs => (by cases hs), List.Pairwise.nil⟩
  | v + 1, hv => by
    obtain ⟨h1, h2⟩ := pnV_ok hm A E v (by omega)
    rw [pnV]
    by_cases c : hasN (solveL g A E).1 v = true ∧ ow g v = 1
    · rw [if_pos c]
      have k1 : ∀ s ∈ pnM (planTL g (rowsL g A) (rowsL g E) (solveL g A E).1) (rowsL g E) v (rowsL g E).length, ∃ a b c : Nat, s.a = a ∧ a = v ∧ s.b = b ∧ b < (rowsL g E).length ∧ s.c = c ∧ c < g.owner.length ∧ hasN (solveL g A E).1 c = true := by
        intro s hs
        obtain ⟨m, hml, rfl⟩ := mem_tab.1 hs
        obtain ⟨w, q1, q2, q3⟩ := (plan_row hm A E hml).own v (by omega) c.1 c.2
        exact ⟨v, m, w, rfl, rfl, rfl, hml, q1, gE_lt hm q2 (by omega), q3⟩
      refine ⟨fun s hs => ?_, List.pairwise_append.2 ⟨h2, ?_, fun s hs t ht => ?_⟩⟩
      · rcases List.mem_append.1 hs with hs | hs
        · obtain ⟨a, b, c, e1, e2, e3⟩ := h1 s hs
          exact ⟨a, b, c, e1, by omega, e3⟩
        · obtain ⟨a, b, c', e1, e2, e3, e4, e5, e6, e7⟩ := k1 s hs
          exact ⟨a, b, c', e1, by omega, e3, e4, e5, e6, by rw [e2]; exact c.1, e7⟩
      · rw [List.pairwise_iff_getElem]
        intro i j hi hj hij
        simp only [pnM, getElem_tab]
        exact .inr ⟨rfl, by show ((i : Nat) : Int) < ((j : Nat) : Int); omega⟩
      · obtain ⟨a, b, c, e1, e2, _⟩ := h1 s hs
        obtain ⟨a', b', c', e1', e2', _⟩ := k1 t ht
        exact .inl (by rw [e1, e1']; omega)
    · rw [if_neg c, List.append_nil]
      refine ⟨fun s hs => ?_, h2⟩
      obtain ⟨a, b, c, e1, e2, e3⟩ := h1 s hs
      exact ⟨a, b, c, e1, by omega, e3⟩
theorem pnV_cnt {g : G} (Z : List Bool) (TL : List (List Int)) (goals : List (List Bool)) (x : Nat) : (pnV g Z TL goals (x + 1)).length = (pnV g Z TL goals x).length + if hasN Z x = true ∧ ow g x = 1 then goals.length else 0 := by
  rw [pnV, List.length_append]
  split
  · rw [pnM_len]
  · rfl
end Go.Par

set_option linter.unusedSimpArgs false
set_option linter.unusedVariables false
set_option maxRecDepth 8000
namespace Go.Par

section
variable {g : G} {A E : List (List Bool)} {X : Nat → Nat → Prop} {S : Nat → Prop}
/-- A play within the region, by the plan. -/
structure PlPlay (g : G) (A E : List (List Bool)) (X : Nat → Nat → Prop) (S : Nat → Prop) : Prop where
  lt : ∀ p, S p → p / (rowsL g E).length < g.owner.length
  inz : ∀ p, S p → hasN (solveL g A E).1 (p / (rowsL g E).length) = true
  edge : ∀ p q, S p → X p q → gE g (p / (rowsL g E).length) (q / (rowsL g E).length) ∧
    (ow g (p / (rowsL g E).length) = 1 → ((planTL g (rowsL g A) (rowsL g E) (solveL g A E).1).getD (p % (rowsL g E).length) []).getD (p / (rowsL g E).length) 0 = (q / (rowsL g E).length : Nat)) ∧
    q % (rowsL g E).length = thenN (rowsL g E) (p / (rowsL g E).length) (p % (rowsL g E).length)

theorem PlPlay.misses (hm : mayE g = 0) (F : PlPlay g A E X S) {j : Nat} (hj : j < (rowsL g E).length) {S' : Nat → Prop} (hS : ∀ p, S' p → S p ∧ hasN ((rowsL g E).getD j []) (p / (rowsL g E).length) = false) {v : Nat} (w : Way X S' v v) :
    ∃ a, a < (rowsL g A).length ∧ ∀ u, Same X S' u v → hasN ((rowsL g A).getD a []) (u / (rowsL g E).length) = false := by
  have pA := rowsL_pos g A
  have k0 := rowsL_pos g E
  have PR := fun m (h : m < (rowsL g E).length) => plan_row hm A E h
  have edge := F.edge
  have inz := F.inz
  have lt := F.lt
  clear F
  generalize hTL : planTL g (rowsL g A) (rowsL g E) (solveL g A E).1 = TL at *
  generalize hZ : (solveL g A E).1 = Z at *
  generalize rowsL g A = A' at *
  generalize rowsL g E = goals at *
  obtain ⟨K, hK⟩ : ∃ K, K = goals.length := ⟨_, rfl⟩
  simp only [← hK] at edge inz lt PR hj hS k0 ⊢
  -- no vertex of the component meets the row it waits for
  have noM : ∀ u, Same X S' u v → ¬ hasN (goals.getD (u % K) []) (u / K) = true := fun u hu => by
    have lu := hu.loop w
    have := Way.ring (E := X) (S := S') (c := u) (m := K) (t := j) (f := fun a => a % K) (M := fun a => hasN (goals.getD (a % K) []) (a / K) = true) hj (fun a _ => Nat.mod_lt _ k0) (fun a b ha hb e => by
      have h3 := (edge a b (hS a ha).1 e).2.2
      unfold thenN at h3
      rw [← hK] at h3
      refine ⟨fun hM => ?_, fun hM => ?_⟩
      · rw [if_pos hM] at h3; exact h3
      · rw [if_neg hM] at h3; exact h3) (fun a ha e hM => by
      have hM : hasN (goals.getD (a % K) []) (a / K) = true := hM
      have e : a % K = j := e
      rw [e, (hS a ha).2] at hM; cases hM) lu
    exact this.fst.2
  have eqm : ∀ u, Same X S' u v → u % K = v % K := fun u hu => by
    have up : ∀ a b, (S' a ∧ Same X S' a v) → (S' b ∧ Same X S' b v) → X a b → b % K = a % K := fun a b ha hb e => by
      have h3 := (edge a b (hS a ha.1).1 e).2.2
      unfold thenN at h3
      rw [if_neg (noM a ha.2)] at h3; exact h3
    rcases hu with e | ⟨a, b⟩
    · rw [e]
    · have dn : ∀ {x y : Nat}, Way X (fun z => S' z ∧ Same X S' z v) x y → y % K ≤ x % K := fun {x y} q => q.le (fun p => p % K) fun a b ha hb e => Nat.le_of_eq (up a b ha hb e)
      have q1 := dn (a.same b)
      have q2 := dn ((b.same a).sub fun z hz => ⟨hz.1, hz.2.trans (.inr ⟨a, b⟩)⟩)
      omega
  obtain ⟨m, hmm⟩ : ∃ m, m = v % K := ⟨_, rfl⟩
  have mK : m < K := by rw [hmm]; exact Nat.mod_lt _ k0
  obtain ⟨ρ, hρ⟩ := (PR m mK).rank
  have stepρ : ∀ a b, (S' a ∧ Same X S' a v) → X a b → ρ (b / K) ≤ ρ (a / K) ∧ (ρ (b / K) < ρ (a / K) ∨ hasN (A'.getD (ρ (a / K) % A'.length) []) (a / K) = false) := fun a b ha e => by
    have Sa := (hS a ha.1).1
    obtain ⟨e1, e2, _⟩ := edge a b Sa e
    have em := eqm a ha.2
    have nm := noM a ha.2
    rw [em, ← hmm] at e2 nm
    exact hρ (a / K) (lt a Sa) (inz a Sa) (by simpa using nm) (b / K) e1 e2
  have eqρ : ∀ u, Same X S' u v → ρ (u / K) = ρ (v / K) := fun u hu => by
    rcases hu with e | ⟨a, b⟩
    · rw [e]
    · have dn : ∀ {x y : Nat}, Way X (fun z => S' z ∧ Same X S' z v) x y → ρ (y / K) ≤ ρ (x / K) := fun {x y} q => q.le (fun p => ρ (p / K)) fun a b ha hb e => (stepρ a b ha e).1
      have q1 := dn (a.same b)
      have q2 := dn ((b.same a).sub fun z hz => ⟨hz.1, hz.2.trans (.inr ⟨a, b⟩)⟩)
      omega
  refine ⟨ρ (v / K) % A'.length, Nat.mod_lt _ pA, fun u hu => ?_⟩
  have lu := hu.loop w
  obtain ⟨x, hx, ex, hxw⟩ := lu.head
  have sx : Same X S' x u := by
    rcases hxw with e | q
    · exact .inl e
    · exact .inr ⟨q, .one lu.fst hx ex⟩
  have := stepρ u x ⟨lu.fst, hu⟩ ex
  rw [eqρ x (sx.trans hu), eqρ u hu] at this
  rcases this.2 with q | q
  · omega
  · exact q

theorem meetsB_of {next : List (List Int)} {f i : List Bool} {rs : List (List Bool)} (h : meetsB next f i rs = true) : MeetsP next f i rs := meetsB_true h

theorem plan_fair (hm : mayE g = 0) {next : List (List Int)} (hN : next.length = g.owner.length * (rowsL g E).length) {from_ : List Bool}
    (hf : ∀ p, p < next.length → hasN from_ p = true → hasN (solveL g A E).1 (p / (rowsL g E).length) = true)
    (he : ∀ p q, p < next.length → hasN (solveL g A E).1 (p / (rowsL g E).length) = true → kE next p q → gE g (p / (rowsL g E).length) (q / (rowsL g E).length) ∧
      (ow g (p / (rowsL g E).length) = 1 → ((planTL g (rowsL g A) (rowsL g E) (solveL g A E).1).getD (p % (rowsL g E).length) []).getD (p / (rowsL g E).length) 0 = (q / (rowsL g E).length : Nat)) ∧
      q % (rowsL g E).length = thenN (rowsL g E) (p / (rowsL g E).length) (p % (rowsL g E).length))
    {a b : List (List Bool)} (ha : ∀ i, i < A.length → sprL next.length (rowsL g E).length (A.getD i []) ∈ a) (hb : ∀ r ∈ b, ∃ j, j < E.length ∧ r = sprL next.length (rowsL g E).length (E.getD j [])) :
    fairB next from_ a b = true ∧ ∀ p q, p < next.length → hasN (solveL g A E).1 (p / (rowsL g E).length) = true → kE next p q → hasN (solveL g A E).1 (q / (rowsL g E).length) = true := by
  have k0 := rowsL_pos g E
  have vlt : ∀ p, p < next.length → p / (rowsL g E).length < g.owner.length := fun p hp => Nat.div_lt_of_lt_mul (by rw [hN, Nat.mul_comm] at hp; exact hp)
  have stay : ∀ p q, p < next.length → hasN (solveL g A E).1 (p / (rowsL g E).length) = true → kE next p q → hasN (solveL g A E).1 (q / (rowsL g E).length) = true := fun p q hp hz e => by
    obtain ⟨e1, e2, _⟩ := he p q hp hz e
    have hv := vlt p hp
    by_cases o : ow g (p / (rowsL g E).length) = 1
    · obtain ⟨w, q1, q2, q3⟩ := (plan_row hm A E (Nat.mod_lt p k0)).own _ hv hz o
      rw [e2 o] at q1
      have : w = q / (rowsL g E).length := by omega
      rw [← this]; exact q3
    · have fz := solve_forced hm A E
      rw [← fz, has_force hv, force_iff] at hz
      rcases hz with ⟨q1, _⟩ | ⟨_, q1⟩
      · exact absurd q1 o
      · have := q1 _ e1
        rwa [Int.toNat_natCast] at this
  refine ⟨?_, stay⟩
  have inN : ∀ p, Reaches (nG next) from_ p → p < next.length ∧ hasN (solveL g A E).1 (p / (rowsL g E).length) = true := fun p hp => by
    induction hp with
    | start v hv hw => exact ⟨by simpa using hv, hf v (by simpa using hv) hw⟩
    | step u w hu hw ih =>
      obtain ⟨i1, i2⟩ := ih
      have ek : kE next u w := ⟨i1, hw⟩
      obtain ⟨e1, _, e3⟩ := he u w i1 i2 ek
      have h1 := gE_lt hm e1 (vlt u i1)
      have h2 : w % (rowsL g E).length < (rowsL g E).length := Nat.mod_lt _ k0
      refine ⟨?_, stay u w i1 i2 ek⟩
      have h3 := Nat.div_add_mod w (rowsL g E).length
      have h4 : (w / (rowsL g E).length + 1) * (rowsL g E).length ≤ g.owner.length * (rowsL g E).length := Nat.mul_le_mul_right _ h1
      rw [Nat.add_mul, Nat.one_mul, Nat.mul_comm] at h4
      rw [hN]; omega
  unfold fairB
  cases q : metA next from_ a b b.length with
  | false => rfl
  | true =>
    exfalso
    simp only [metA, List.take_length, List.any_eq_true] at q
    obtain ⟨r, hr, q⟩ := q
    obtain ⟨v, w, hw⟩ := meetsB_of q
    obtain ⟨j, hj, rfl⟩ := hb r hr
    have hE : E ≠ [] := fun e => by rw [e] at hj; simp at hj
    have eE : rowsL g E = E := by unfold rowsL; rw [if_neg hE]
    have F : PlPlay g A E (kE next) (kS next (r9andL (reachL (nG next) from_) (wiL next (sprL next.length (rowsL g E).length (E.getD j []))))) := by
      have rd : ∀ p, kS next (r9andL (reachL (nG next) from_) (wiL next (sprL next.length (rowsL g E).length (E.getD j [])))) p → Reaches (nG next) from_ p := fun p hp => (hasN_reach (hasN_and _ _ _ hp.2).1).2
      exact ⟨fun p hp => vlt p hp.1, fun p hp => (inN p (rd p hp)).2, fun p q hp e => he p q hp.1 (inN p (rd p hp)).2 e⟩
    obtain ⟨i, hi, hno⟩ := F.misses hm (j := j) (by rw [eE]; exact hj) (S' := kS next (r9andL (reachL (nG next) from_) (wiL next (sprL next.length (rowsL g E).length (E.getD j []))))) (fun p hp => ⟨hp, by
      have := (hasN_wi (hasN_and _ _ _ hp.2).2).2
      cases z : hasN ((rowsL g E).getD j []) (p / (rowsL g E).length) with
      | false => rfl
      | true =>
        rw [hasN_spr.2 ⟨hp.1, by rw [eE] at z ⊢; exact z⟩] at this; cases this⟩) w
    by_cases hA : A = []
    · have := hno v (.inl rfl)
      have i0 : i = 0 := by rw [hA] at hi; simp [rowsL] at hi; exact hi
      rw [hA, i0, show ((rowsL g []).getD 0 []) = topL g from rfl, top_has (vlt v w.fst.1)] at this
      cases this
    · have eA : rowsL g A = A := by unfold rowsL; rw [if_neg hA]
      rw [eA] at hi hno
      obtain ⟨u, h1, h2⟩ := hw _ (ha i hi)
      have := (hasN_spr.1 h1).2
      rw [hno u h2] at this; cases this
end
end Go.Par

set_option linter.unusedSimpArgs false
set_option linter.unusedVariables false
set_option maxRecDepth 8000
set_option maxHeartbeats 2000000
namespace Go.Par
open Go.Proofs

theorem l19_spread (r : List Bool) (n K : Nat) (hn : n ≤ 3000) (hK : K ≤ 16) (k0 : 0 < K) : Pure Try.prog 16 [.ro false (bools r), .int .i64 n, .int .i64 K] (.ro true (bools (sprL (n * K) K r))) := by
  have hNK : n * K ≤ 3000 * 16 := Nat.mul_le_mul hn hK
  obtain ⟨N, hN⟩ : ∃ N, N = n * K := ⟨_, rfl⟩
  have wN : IntKind.i64.wrap ((n : Int) * (K : Int)) = (N : Int) := by rw [hN, ← Int.natCast_mul]; exact wrap_nat (by omega)
  rw [← hN] at hNK ⊢
  have k1' : ¬ (K : Int) = 0 := by omega
  have k2' : ¬ K = 0 := by omega
  intro h
  refine AC.body Θ_ok Try.func16 rfl rfl (Nat.le_of_ble_eq_true rfl) ?_
  refine AW.seq fun _ k1 => AW.region [] Θ_ok ?_
  simp
  refine k1 _ ?_
  refine AW.seq fun _ k1 => AW.region [12] Θ_ok ?_
  simp [wN]
  refine ⟨by omega, fun o ho => k1 _ ?_⟩
  rw [replicate_tab, flat_tab (fun _ _ => rfl)]
  refine AW.seq fun _ k1 => ?_
  refine AW.seq fun _ k2 => AW.region [] Θ_ok ?_
  simp
  refine k2 _ ?_
  refine AW.block ?_
  refine AW.loopI (X := Nat) (fun x => x ≤ N) (fun x => ⟨37, [(0, .ro false (bools r)), (2, .int .i64 K), (7, .mu o N), (14, .int .i64 N), (15, .int .i64 x)], upd h o (some ⟨tab N fun i => .bool (decide (i < x) && hasN r (i / K)), 4, 1, true⟩)⟩) (fun x => N - x) 0 (Nat.zero_le _) (GStep.eq (by simp) ?_) fun x hx => ?_
  · simp; exact subH.refl _
  refine AW.seq fun _ k2 => AW.region [] Θ_ok ?_
  simp
  refine k2 _ ?_
  by_cases hlt : x < N
  · have inc := wrap_succ (show x < 9223372036854775807 by omega)
    have hset : (tab N fun i => AV.bool (decide (i < x) && hasN r (i / K))).set x (.bool (hasN r (x / K))) = tab N fun i => .bool (decide (i < x + 1) && hasN r (i / K)) := by
      rw [set_tab]
      refine tab_congr fun i hi => ?_
      by_cases e : i = x
      · subst e; simp
      · by_cases h1 : i < x
        · simp [e, h1, show i < x + 1 by omega]
        · simp [e, h1, show ¬ i < x + 1 by omega]
    obtain ⟨d, hd⟩ : ∃ d, d = x / K := ⟨_, rfl⟩
    have hdx : d ≤ x := by rw [hd]; exact Nat.div_le_self _ _
    have wd : IntKind.i64.wrap ((x : Int) / (K : Int)) = (d : Int) := by rw [hd, ← Int.natCast_ediv]; exact wrap_nat (by rw [← hd]; omega)
    have wd2 : IntKind.i64.wrap ((x : Int).tdiv (K : Int)) = (d : Int) := by rw [Int.tdiv_eq_ediv_of_nonneg (by omega)]; exact wd
    rw [← hd] at hset
    refine AW.seq fun _ k2 => AW.cond true (by simp [Int.natCast_inj, hlt]) (fun _ => ?_) (fun h => by cases h)
    refine AW.skip ?_
    simp
    refine k2 _ ?_
    refine AW.seq fun _ k2 => ?_
    refine AW.block ?_
    refine AW.seq fun _ k3 => AW.region [] Θ_ok ?_
    simp
    refine k3 _ ?_
    by_cases hdr : d < r.length
    · have e : hasN r d = r[d] := by simp [hasN, hdr]
      rw [e] at hset
      refine AW.region [] Θ_ok ?_
      simp [hlt, wd, wd2, k1', k2', hdr]
      refine ⟨by omega, k2 _ ?_⟩
      refine AW.region [] Θ_ok ?_
      simp
      exact ⟨x + 1, by omega, by omega, GStep.eq (by simp [inc]) (subH_of_eq (congrArg (fun c => upd h o (some ⟨c, 4, 1, true⟩)) hset))⟩
    · have e : hasN r d = false := by simp [hasN, Nat.le_of_not_lt hdr]
      rw [e] at hset
      refine AW.region [] Θ_ok ?_
      simp [hlt, wd, wd2, k1', k2', hdr]
      refine ⟨by omega, k2 _ ?_⟩
      refine AW.region [] Θ_ok ?_
      simp
      exact ⟨x + 1, by omega, by omega, GStep.eq (by simp [inc]) (subH_of_eq (congrArg (fun c => upd h o (some ⟨c, 4, 1, true⟩)) hset))⟩
  obtain rfl : x = N := by omega
  refine AW.seq fun _ k2 => AW.cond false (by simp [Int.natCast_inj]) (fun h => by cases h) (fun _ => ?_)
  refine AW.exit ?_
  simp
  refine k1 _ ?_
  refine AW.seq fun _ kr => AW.region [] Θ_ok ?_
  simp
  refine kr _ (AW.ret ?_)
  simp [Try.f16]
  refine Fin.freeze (k := true) (upd_same _ _ _) (fun _ => rfl) rfl (by simp) (ones_bools _ _) h (by simp [upd_none_id ho]; exact subH.refl _) ⟨?_, rfl⟩
  simp only [bools, sprL, map_tab]
  congr 1
  exact tab_congr fun i hi => by simp [hi]

theorem l19_stays (next : List (List Int)) (big : BigOk next) (Z : List Bool) (K : Nat) (k0 : 0 < K) (hZ : next.length ≤ Z.length * K) (hs : ∀ p q, kE next p q → hasN Z (p / K) = true → hasN Z (q / K) = true) :
    Pure Try.prog 20 [.ro false (rows next), .ro false (bools Z), .int .i64 K] (.bool true) := by
  have hl := big.len
  have k1' : ¬ (K : Int) = 0 := by omega
  have k2' : ¬ K = 0 := by omega
  have dv : ∀ p, p < next.length → p / K < Z.length := fun p hp => Nat.div_lt_of_lt_mul (by rw [Nat.mul_comm]; omega)
  have wd : ∀ p, p < next.length → IntKind.i64.wrap ((p : Int).tdiv (K : Int)) = ((p / K : Nat) : Int) := fun p hp => by
    rw [Int.tdiv_eq_ediv_of_nonneg (by omega), ← Int.natCast_ediv]
    exact wrap_nat (by have := Nat.div_le_self p K; omega)
  have wd2 : ∀ p, p < next.length → IntKind.i64.wrap ((p : Int) / (K : Int)) = ((p / K : Nat) : Int) := fun p hp => by
    rw [← Int.natCast_ediv]
    exact wrap_nat (by have := Nat.div_le_self p K; omega)
  intro h
  refine AC.body Θ_ok Try.func20 rfl rfl (Nat.le_of_ble_eq_true rfl) ?_
  refine AW.seq fun _ k1 => AW.region [] Θ_ok ?_
  simp
  refine k1 _ ?_
  refine AW.seq fun _ k1 => ?_
  refine AW.seq fun _ k2 => AW.region [] Θ_ok ?_
  simp
  refine k2 _ ?_
  refine AW.block ?_
  refine AW.loopI (X := Nat) (fun x => x ≤ next.length) (fun x => ⟨41, [(1, .ro false (bools Z)), (2, .int .i64 K), (11, .ro false (rows next)), (12, .int .i64 next.length), (13, .int .i64 x)], h⟩) (fun x => next.length - x) 0 (Nat.zero_le _) (GStep.eq (by simp) (subH.refl _)) fun x hx => ?_
  refine AW.seq fun _ k2 => AW.region [] Θ_ok ?_
  simp
  refine k2 _ ?_
  by_cases hlt : x < next.length
  · have inc := wrap_succ (show x < 9223372036854775807 by omega)
    have hlr := big.row _ (List.getElem_mem hlt)
    have hr := big.lt _ (List.getElem_mem hlt)
    have w1 := wd x hlt
    have w2 := wd2 x hlt
    have d1 := dv x hlt
    have hsx : ∀ y (hy : y < next[x].length) (w : Nat), next[x][y] = (w : Int) → hasN Z (x / K) = true → hasN Z (w / K) = true := fun y hy w hw z => hs x w ⟨hlt, by simp only [List.getD_eq_getElem?_getD, List.getElem?_eq_getElem hlt, Option.getD_some]; rw [← hw]; exact List.getElem_mem hy⟩ z
    obtain ⟨d, hd⟩ : ∃ d, d = x / K := ⟨_, rfl⟩
    rw [← hd] at w1 w2 d1 hsx
    have zd : hasN Z d = Z[d] := by simp [hasN, d1]
    rw [zd] at hsx
    refine AW.seq fun _ k2 => AW.cond true (by simp [Int.natCast_inj, hlt]) (fun _ => ?_) (fun h => by cases h)
    refine AW.skip ?_
    simp
    refine k2 _ ?_
    refine AW.seq fun _ k2 => ?_
    refine AW.block ?_
    refine AW.seq fun _ k3 => AW.region [] Θ_ok ?_
    simp [hlt]
    refine k3 _ ?_
    refine AW.seq fun _ k3 => AW.region [] Θ_ok ?_
    simp
    refine k3 _ ?_
    refine AW.block ?_
    refine AW.loopI (X := Nat) (fun y => y ≤ next[x].length) (fun y => ⟨41, [(1, .ro false (bools Z)), (2, .int .i64 K), (7, .int .i64 x), (11, .ro false (rows next)), (12, .int .i64 next.length), (13, .int .i64 x), (18, .ro false (ints next[x])), (19, .int .i64 next[x].length), (20, .int .i64 y)], h⟩) (fun y => next[x].length - y) 0 (Nat.zero_le _) (GStep.eq (by simp) (subH.refl _)) fun y hy => ?_
    refine AW.seq fun _ k3 => AW.region [] Θ_ok ?_
    simp
    refine k3 _ ?_
    by_cases hly : y < next[x].length
    · have incy := wrap_succ (show y < 9223372036854775807 by omega)
      obtain ⟨b0, b1⟩ := hr _ (List.getElem_mem hly)
      obtain ⟨w, hw⟩ := Int.eq_ofNat_of_zero_le b0
      have hwn : w < next.length := by omega
      have v1 := wd w hwn
      have v2 := wd2 w hwn
      have e1 := dv w hwn
      have hz := hsx y hly w hw
      obtain ⟨f, hf⟩ : ∃ f, f = w / K := ⟨_, rfl⟩
      rw [← hf] at v1 v2 e1 hz
      rw [show hasN Z f = Z[f] by simp [hasN, e1]] at hz
      refine AW.seq fun _ k3 => AW.cond true (by simp [Int.natCast_inj, hly]) (fun _ => ?_) (fun h => by cases h)
      refine AW.skip ?_
      simp
      refine k3 _ ?_
      refine AW.seq fun _ k3 => ?_
      refine AW.block ?_
      refine AW.seq fun _ k4 => AW.region [] Θ_ok ?_
      simp [hly, hw]
      refine k4 _ ?_
      refine AW.seqTo ⟨41, [(1, .ro false (bools Z)), (2, .int .i64 K), (7, .int .i64 x), (11, .ro false (rows next)), (12, .int .i64 next.length), (13, .int .i64 x), (18, .ro false (ints next[x])), (19, .int .i64 next[x].length), (20, .int .i64 y), (38, .bool false)], h⟩ (fun _ k4 => ?_) ?_
      · cases z : Z[d] with
        | false =>
          refine AW.region [] Θ_ok ?_
          simp [w1, w2, d1, k1', k2', z]
          exact k4 _ (GStep.eq (by simp) (subH.refl _))
        | true =>
          have z2 := hz z
          refine AW.region [] Θ_ok ?_
          simp [w1, w2, d1, k1', k2', z, v1, v2, e1, z2]
          exact k4 _ (GStep.eq (by simp) (subH.refl _))
      refine AW.cond false (by simp [Int.natCast_inj]) (fun h => by cases h) (fun _ => ?_)
      refine AW.skip ?_
      simp
      refine k3 _ ?_
      refine AW.region [] Θ_ok ?_
      simp
      exact ⟨y + 1, hly, by omega, GStep.eq (by simp [incy]) (subH.refl _)⟩
    · obtain rfl : y = next[x].length := by omega
      refine AW.seq fun _ k3 => AW.cond false (by simp [Int.natCast_inj]) (fun h => by cases h) (fun _ => ?_)
      refine AW.exit ?_
      simp
      refine k2 _ ?_
      refine AW.region [] Θ_ok ?_
      simp
      exact ⟨x + 1, hlt, by omega, GStep.eq (by simp [inc]) (subH.refl _)⟩
  · obtain rfl : x = next.length := by omega
    refine AW.seq fun _ k2 => AW.cond false (by simp [Int.natCast_inj]) (fun h => by cases h) (fun _ => ?_)
    refine AW.exit ?_
    simp
    refine k1 _ ?_
    refine AW.seq fun _ kr => AW.region [] Θ_ok ?_
    simp
    refine kr _ (AW.ret ?_)
    simp [Try.f20]
    exact Fin.refl ⟨rfl, rfl⟩
end Go.Par

set_option linter.unusedSimpArgs false
set_option linter.unusedVariables false
set_option maxRecDepth 8000
namespace Go.Par

def frP (Z : List Bool) (M K p : Nat) : List Bool := tab M fun i => decide (i < p) && hasN Z (i / K)
theorem frP_set (Z : List Bool) (M K p : Nat) : (frP Z M K p).set p (hasN Z (p / K)) = frP Z M K (p + 1) := by
  unfold frP; rw [set_tab]
  refine tab_congr fun i hi => ?_
  by_cases e : i = p
  · subst e; simp
  · by_cases h1 : i < p
    · simp [e, h1, show i < p + 1 by omega]
    · simp [e, h1, show ¬ i < p + 1 by omega]
theorem pnV_get {g : G} {Z : List Bool} {TL : List (List Int)} {goals : List (List Bool)} {v m : Nat} (c : hasN Z v = true ∧ ow g v = 1) (hm : m < goals.length) : ∀ n, v < n →
    (pnV g Z TL goals n)[(pnV g Z TL goals v).length + m]? = some ⟨v, m, (TL.getD m []).getD v 0, (thenN goals v m : Nat)⟩
  | 0, h => by omega
  | n + 1, h => by
    rw [pnV]
    by_cases e : v = n
    · subst e
      rw [if_pos c, List.getElem?_append_right (by omega), Nat.add_sub_cancel_left]
      simp [pnM, getElem?_tab, hm]
    · have ih := pnV_get (TL := TL) c hm n (by omega)
      rw [List.getElem?_append_left (List.getElem?_eq_some_iff.1 ih).1]
      exact ih

def rowP (g : G) (A E : List (List Bool)) (i : Nat) : List Int :=
  if ow g (i / (rowsL g E).length) = 0 ∨ hasN (solveL g A E).1 (i / (rowsL g E).length) = false then (nx g (i / (rowsL g E).length)).map fun w => w * ((rowsL g E).length : Nat) + (thenN (rowsL g E) (i / (rowsL g E).length) (i % (rowsL g E).length) : Nat)
  else [((planTL g (rowsL g A) (rowsL g E) (solveL g A E).1).getD (i % (rowsL g E).length) []).getD (i / (rowsL g E).length) 0 * ((rowsL g E).length : Nat) + (thenN (rowsL g E) (i / (rowsL g E).length) (i % (rowsL g E).length) : Nat)]

section
variable {g : G} {A E : List (List Bool)} (hm : mayE g = 0)
include hm
theorem rowP_val {p : Nat} (hp : p / (rowsL g E).length < g.owner.length) {x : Int} (hx : x ∈ rowP g A E p) : ∃ w : Nat, gE g (p / (rowsL g E).length) w ∧ x = (w * (rowsL g E).length + thenN (rowsL g E) (p / (rowsL g E).length) (p % (rowsL g E).length) : Nat) ∧
    (hasN (solveL g A E).1 (p / (rowsL g E).length) = true → ow g (p / (rowsL g E).length) = 1 → ((planTL g (rowsL g A) (rowsL g E) (solveL g A E).1).getD (p % (rowsL g E).length) []).getD (p / (rowsL g E).length) 0 = (w : Nat)) := by
  unfold rowP at hx
  split at hx
  · rename_i c
    obtain ⟨w, hw, rfl⟩ := List.mem_map.1 hx
    obtain ⟨u, rfl⟩ := Int.eq_ofNat_of_zero_le ((nx_ok hm hp).2 w hw).1
    refine ⟨u, hw, by push_cast; rfl, fun z o => ?_⟩
    rcases c with c | c
    · rw [c] at o; cases o
    · rw [c] at z; cases z
  · rename_i c
    simp only [not_or] at c
    have o1 : ow g (p / (rowsL g E).length) = 1 := (ow_all hm _).resolve_left c.1
    have z1 : hasN (solveL g A E).1 (p / (rowsL g E).length) = true := by simpa using c.2
    obtain ⟨w, q1, q2, q3⟩ := (plan_row hm A E (Nat.mod_lt p (rowsL_pos g E))).own _ hp z1 o1
    rw [List.mem_singleton] at hx
    refine ⟨w, q2, ?_, fun _ _ => q1⟩
    rw [hx, q1]; push_cast; rfl
theorem rowP_edge {p q : Nat} (hp : p / (rowsL g E).length < g.owner.length) (hz : hasN (solveL g A E).1 (p / (rowsL g E).length) = true) (hq : (q : Int) ∈ rowP g A E p) :
    gE g (p / (rowsL g E).length) (q / (rowsL g E).length) ∧
      (ow g (p / (rowsL g E).length) = 1 → ((planTL g (rowsL g A) (rowsL g E) (solveL g A E).1).getD (p % (rowsL g E).length) []).getD (p / (rowsL g E).length) 0 = (q / (rowsL g E).length : Nat)) ∧
      q % (rowsL g E).length = thenN (rowsL g E) (p / (rowsL g E).length) (p % (rowsL g E).length) := by
  have k0 := rowsL_pos g E
  obtain ⟨w, h1, h2, h3⟩ := rowP_val hm hp hq
  have ht := thenN_lt (l := rowsL g E) (v := p / (rowsL g E).length) (Nat.mod_lt p k0)
  generalize thenN (rowsL g E) (p / (rowsL g E).length) (p % (rowsL g E).length) = t at *
  have e : q = w * (rowsL g E).length + t := by omega
  have d : q / (rowsL g E).length = w := by rw [e, Nat.mul_comm, Nat.mul_add_div k0, Nat.div_eq_of_lt ht]; rfl
  have m : q % (rowsL g E).length = t := by rw [e, Nat.mul_comm, Nat.mul_add_mod]; exact Nat.mod_eq_of_lt ht
  rw [d]
  exact ⟨h1, h3 hz, m⟩
theorem rowP_lt {p : Nat} (hp : p / (rowsL g E).length < g.owner.length) {x : Int} (hx : x ∈ rowP g A E p) : 0 ≤ x ∧ x < (g.owner.length * (rowsL g E).length : Nat) := by
  obtain ⟨w, h1, h2, _⟩ := rowP_val hm hp hx
  have hw := gE_lt hm h1 hp
  have ht := thenN_lt (l := rowsL g E) (v := p / (rowsL g E).length) (Nat.mod_lt p (rowsL_pos g E))
  have h4 : (w + 1) * (rowsL g E).length ≤ g.owner.length * (rowsL g E).length := Nat.mul_le_mul_right _ hw
  rw [Nat.add_mul, Nat.one_mul] at h4
  omega
theorem rowP_len {p : Nat} (hp : p / (rowsL g E).length < g.owner.length) : (rowP g A E p).length ≤ 3000 := by
  unfold rowP
  split
  · rw [List.length_map]; exact Nat.le_trans (nx_few hm hp) (may_ok hm).1
  · simp
end
end Go.Par
