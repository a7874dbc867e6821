/- Texts TjA TjB TjC TjD TjE TjF TjG, one behind another. -/
import Derived.Test.YtigipgahgkngcaaKgA
import Derived.Test.YtigipgahgkngcaaAgA
set_option linter.unusedSimpArgs false
set_option linter.unusedVariables false
namespace Go.Par

/-- What a finder holds: numbers, low numbers, how many are met, the stack, the visits. -/
structure TS where
  num : List Nat
  low : List Nat
  met : Nat
  T : List Nat
  K : List (Nat × Nat)

abbrev nuF (l : List Nat) (v : Nat) : Nat := l.getD v 0
theorem nuF_set (l : List Nat) (v x u : Nat) (h : v < l.length) : nuF (l.set v x) u = if u = v then x else nuF l u := by
  simp only [nuF, List.getD_eq_getElem?_getD]
  by_cases e : u = v
  · subst e; simp [h]
  · rw [if_neg e, List.getElem?_set_ne (Ne.symm e)]

structure TI (next : List (List Int)) (a : List Bool) (ex : Nat → Nat → Prop) (s : TS) : Prop where
  ln : s.num.length = next.length
  ll : s.low.length = next.length
  dS : ∀ v, 0 < nuF s.num v → kS next a v
  tS : ∀ v ∈ s.T, 0 < nuF s.num v
  le : ∀ v, nuF s.num v ≤ s.met
  inc : s.T.Pairwise fun x y => nuF s.num x < nuF s.num y
  kin : ∀ p ∈ s.K, p.1 ∈ s.T
  kinc : s.K.Pairwise fun p q => nuF s.num p.1 < nuF s.num q.1
  adj : ∀ K1 p q K2, s.K = K1 ++ p :: q :: K2 → kE next p.1 q.1
  kbd : ∀ p ∈ s.K, p.2 ≤ (next.getD p.1 []).length
  lle : ∀ v ∈ s.T, nuF s.low v ≤ nuF s.num v
  lsd : ∀ v ∈ s.T, ∃ w ∈ s.T, nuF s.num w = nuF s.low v ∧ (v = w ∨ Way (kE next) (kS next a) v w)
  und : ∀ u ∈ s.T, (∀ p ∈ s.K, p.1 ≠ u) → nuF s.low u < nuF s.num u ∧ ∃ c ∈ s.K, nuF s.num c.1 < nuF s.num u ∧ (∀ q ∈ s.K, nuF s.num c.1 < nuF s.num q.1 → nuF s.num u < nuF s.num q.1) ∧ nuF s.low c.1 ≤ nuF s.low u ∧ Way (kE next) (kS next a) c.1 u
  seen : ∀ u ∈ s.T, ∀ y, kS next a y → ¬ ex u y → ((∀ p ∈ s.K, p.1 ≠ u) ∧ kE next u y ∨ ∃ p ∈ s.K, p.1 = u ∧ ∃ i, i < p.2 ∧ kX next u i = some y) → 0 < nuF s.num y ∧ (y ∈ s.T → nuF s.low u ≤ nuF s.num y)
  clo : ∀ v, 0 < nuF s.num v → v ∉ s.T → ∀ y, kE next v y → kS next a y → 0 < nuF s.num y ∧ y ∉ s.T

def noEx : Nat → Nat → Prop := fun _ _ => False
theorem kE_X {next : List (List Int)} {u y : Nat} (h : kE next u y) : ∃ i, i < (next.getD u []).length ∧ kX next u i = some y := by
  obtain ⟨i, hi, e⟩ := List.getElem_of_mem h.2
  refine ⟨i, hi, ?_⟩
  unfold kX
  rw [List.getElem?_eq_getElem hi, e]; simp
theorem kX_E {next : List (List Int)} (ok : BigOk next) {u i y : Nat} (hu : u < next.length) (h : kX next u i = some y) : kE next u y := by
  unfold kX at h
  rw [Option.map_eq_some_iff] at h
  obtain ⟨z, hz, e⟩ := h
  have hm := List.mem_of_getElem? hz
  have hl : next.getD u [] ∈ next := by simp [hu]
  have := ok.lt _ hl z hm
  refine ⟨hu, ?_⟩
  have e2 : (y : Int) = z := by omega
  rw [e2]; exact hm

section
variable {next : List (List Int)} {a : List Bool} {s : TS} {ex : Nat → Nat → Prop}
theorem TI.init (hn : s.num = List.replicate next.length 0) (hl : s.low = List.replicate next.length 0) (hT : s.T = []) (hK : s.K = []) : TI next a noEx s := by
  have z : ∀ v, nuF s.num v = 0 := fun v => by
    rw [hn]; simp only [nuF, List.getD_eq_getElem?_getD, List.getElem?_replicate]; split <;> rfl
  refine ⟨by simp [hn], by simp [hl], fun v h => ?_, ?_, fun v => by rw [z]; exact Nat.zero_le _, by rw [hT]; exact List.Pairwise.nil, ?_, by rw [hK]; exact List.Pairwise.nil, ?_, ?_, ?_, ?_, ?_, ?_, fun v h => ?_⟩
  · rw [z] at h; omega
  · rw [hT]; intro v h; cases h
  · rw [hK]; intro p h; cases h
  · rw [hK]; intro K1 p q K2 e; simp at e
  · rw [hK]; intro p h; cases h
  · rw [hT]; intro v h; cases h
  · rw [hT]; intro v h; cases h
  · rw [hT]; intro v h; cases h
  · rw [hT]; intro v h; cases h
  · rw [z] at h; omega

/-- A vertex is entered. -/
def TS.enter (s : TS) (v : Nat) : TS := ⟨s.num.set v (s.met + 1), s.low.set v (s.met + 1), s.met + 1, s.T ++ [v], s.K ++ [(v, 0)]⟩
theorem TI.enter {v : Nat} (I : TI next a ex s) (hex : ∀ u y, ex u y → y = v) (hv : kS next a v) (h0 : nuF s.num v = 0) (hc : ∀ p, s.K.getLast? = some p → kE next p.1 v) : TI next a noEx (s.enter v) := by
  have hvn := hv.1
  have nu : ∀ u, nuF (s.enter v).num u = if u = v then s.met + 1 else nuF s.num u := fun u => nuF_set _ _ _ _ (by rw [I.ln]; exact hvn)
  have lo : ∀ u, nuF (s.enter v).low u = if u = v then s.met + 1 else nuF s.low u := fun u => nuF_set _ _ _ _ (by rw [I.ll]; exact hvn)
  have nT : v ∉ s.T := fun q => by have := I.tS v q; omega
  have ne : ∀ u ∈ s.T, u ≠ v := fun u hu e => nT (e ▸ hu)
  have nuT : ∀ u ∈ s.T, nuF (s.enter v).num u = nuF s.num u := fun u hu => by rw [nu, if_neg (ne u hu)]
  have loT : ∀ u ∈ s.T, nuF (s.enter v).low u = nuF s.low u := fun u hu => by rw [lo, if_neg (ne u hu)]
  have nuv : nuF (s.enter v).num v = s.met + 1 := by rw [nu, if_pos rfl]
  have lov : nuF (s.enter v).low v = s.met + 1 := by rw [lo, if_pos rfl]
  have eT : (s.enter v).T = s.T ++ [v] := rfl
  have eK : (s.enter v).K = s.K ++ [(v, 0)] := rfl
  have pos : ∀ u, 0 < nuF (s.enter v).num u ↔ u = v ∨ 0 < nuF s.num u := fun u => by
    rw [nu]; split
    · rename_i e; simp [e]
    · rename_i e; simp [e]
  refine ⟨by simp [TS.enter, I.ln], by simp [TS.enter, I.ll], fun u h => ?_, fun u h => ?_, fun u => ?_, ?_, fun p hp => ?_, ?_, ?_, fun p hp => ?_, fun u hu => ?_, fun u hu => ?_, fun u hu hn => ?_, fun u hu y hy _ hs => ?_, fun u h hn y he hy => ?_⟩
  · rcases (pos u).1 h with e | e
    · rw [e]; exact hv
    · exact I.dS u e
  · rw [eT, List.mem_append, List.mem_singleton] at h
    exact (pos u).2 (h.elim (fun h => .inr (I.tS u h)) .inl)
  · show _ ≤ s.met + 1
    rw [nu]; split
    · exact Nat.le_refl _
    · have := I.le u; omega
  · rw [eT, List.pairwise_append]
    refine ⟨I.inc.imp_of_mem fun {x y} hx hy h => by rw [nuT x hx, nuT y hy]; exact h, by simp, fun x hx y hy => ?_⟩
    rw [List.mem_singleton] at hy
    subst hy
    rw [nuT x hx, nuv]
    have := I.le x; omega
  · rw [eK, List.mem_append, List.mem_singleton] at hp
    rw [eT, List.mem_append, List.mem_singleton]
    exact hp.elim (fun h => .inl (I.kin p h)) fun h => .inr (by rw [h])
  · rw [eK, List.pairwise_append]
    refine ⟨I.kinc.imp_of_mem fun {x y} hx hy h => by rw [nuT _ (I.kin x hx), nuT _ (I.kin y hy)]; exact h, by simp, fun x hx y hy => ?_⟩
    rw [List.mem_singleton] at hy
    subst hy
    rw [nuT _ (I.kin x hx), nuv]
    have := I.le x.1; omega
  · intro K1 p q K2 e
    rw [eK] at e
    rcases List.eq_nil_or_concat K2 with rfl | ⟨L, z, rfl⟩
    · have e' : s.K ++ [(v, 0)] = (K1 ++ [p]) ++ [q] := by rw [e]; simp
      obtain ⟨e1, e2⟩ := List.append_inj' e' rfl
      simp at e2
      rw [← e2]
      exact hc p (by rw [e1]; simp)
    · have e' : s.K ++ [(v, 0)] = (K1 ++ p :: q :: L) ++ [z] := by rw [e]; simp
      obtain ⟨e1, _⟩ := List.append_inj' e' rfl
      exact I.adj K1 p q L e1
  · rw [eK, List.mem_append, List.mem_singleton] at hp
    rcases hp with h | h
    · exact I.kbd p h
    · rw [h]; exact Nat.zero_le _
  · rw [eT, List.mem_append, List.mem_singleton] at hu
    rcases hu with h | h
    · rw [nuT u h, loT u h]; exact I.lle u h
    · rw [h, nuv, lov]; exact Nat.le_refl _
  · rw [eT, List.mem_append, List.mem_singleton] at hu
    rcases hu with h | h
    · obtain ⟨w, h1, h2, h3⟩ := I.lsd u h
      exact ⟨w, by rw [eT]; simp [h1], by rw [nuT w h1, loT u h]; exact h2, h3⟩
    · exact ⟨v, by rw [eT]; simp, by rw [h, nuv, lov], .inl h⟩
  · rw [eT, List.mem_append, List.mem_singleton] at hu
    rcases hu with h | h
    · obtain ⟨h1, c, hcK, h2, h3, h4, h5⟩ := I.und u h (fun p hp => hn p (by rw [eK]; simp [hp]))
      refine ⟨by rw [loT u h, nuT u h]; exact h1, c, by rw [eK]; simp [hcK], by rw [nuT _ (I.kin c hcK), nuT u h]; exact h2, fun q hq e => ?_, by rw [loT _ (I.kin c hcK), loT u h]; exact h4, h5⟩
      rw [eK, List.mem_append, List.mem_singleton] at hq
      rcases hq with hq | hq
      · rw [nuT _ (I.kin c hcK), nuT _ (I.kin q hq)] at e
        rw [nuT u h, nuT _ (I.kin q hq)]; exact h3 q hq e
      · rw [hq, nuT u h]
        show _ < nuF (s.enter v).num v
        rw [nuv]
        have := I.le u; omega
    · exact absurd h.symm (hn (v, 0) (by rw [eK]; simp))
  · rw [eT, List.mem_append, List.mem_singleton] at hu
    rcases hu with h | h
    · have hs' : (∀ p ∈ s.K, p.1 ≠ u) ∧ kE next u y ∨ ∃ p ∈ s.K, p.1 = u ∧ ∃ i, i < p.2 ∧ kX next u i = some y := by
        rcases hs with ⟨h1, h2⟩ | ⟨p, hp, h1, i, h2, h3⟩
        · exact .inl ⟨fun p hp => h1 p (by rw [eK]; simp [hp]), h2⟩
        · rw [eK, List.mem_append, List.mem_singleton] at hp
          rcases hp with hp | hp
          · exact .inr ⟨p, hp, h1, i, h2, h3⟩
          · rw [hp] at h2; exact absurd h2 (Nat.not_lt_zero _)
      by_cases e : y = v
      · subst e
        refine ⟨(pos y).2 (.inl rfl), fun _ => ?_⟩
        rw [loT u h, nuv]
        have h1 := I.lle u h
        have h2 := I.le u
        omega
      · obtain ⟨h1, h2⟩ := I.seen u h y hy (fun q => e (hex u y q)) hs'
        refine ⟨(pos y).2 (.inr h1), fun hyT => ?_⟩
        rw [eT, List.mem_append, List.mem_singleton] at hyT
        have hyT := hyT.resolve_right e
        rw [loT u h, nuT y hyT]; exact h2 hyT
    · rcases hs with ⟨h1, _⟩ | ⟨p, hp, h1, i, h2, _⟩
      · exact absurd h.symm (h1 (v, 0) (by rw [eK]; simp))
      · rw [eK, List.mem_append, List.mem_singleton] at hp
        rcases hp with hp | hp
        · exact absurd (h1.trans h) (ne _ (I.kin p hp))
        · rw [hp] at h2; exact absurd h2 (Nat.not_lt_zero _)
  · rw [eT, List.mem_append, List.mem_singleton, not_or] at hn
    rcases (pos u).1 h with e | e
    · exact absurd e hn.2
    · obtain ⟨h1, h2⟩ := I.clo u e hn.1 y he hy
      refine ⟨(pos y).2 (.inr h1), ?_⟩
      rw [eT, List.mem_append, List.mem_singleton, not_or]
      exact ⟨h2, fun z => by rw [z] at h1; omega⟩

/-- One way more is looked at. -/
theorem TI.bump {K0 : List (Nat × Nat)} {u i w : Nat} (I : TI next a noEx s) (hK : s.K = K0 ++ [(u, i)]) (hi : i < (next.getD u []).length) (hx : kX next u i = some w) : TI next a (fun x y => x = u ∧ y = w) { s with K := K0 ++ [(u, i + 1)] } := by
  have fst : ∀ u', (∀ p ∈ K0 ++ [(u, i + 1)], p.1 ≠ u') ↔ ∀ p ∈ s.K, p.1 ≠ u' := fun u' => by
    rw [hK]
    constructor
    · intro h p hp
      rw [List.mem_append, List.mem_singleton] at hp
      rcases hp with hp | hp
      · exact h p (by simp [hp])
      · rw [hp]; exact h (u, i + 1) (by simp)
    · intro h p hp
      rw [List.mem_append, List.mem_singleton] at hp
      rcases hp with hp | hp
      · exact h p (by simp [hp])
      · rw [hp]; exact h (u, i) (by simp)
  have old : ∀ p ∈ K0 ++ [(u, i + 1)], ∃ q ∈ s.K, q.1 = p.1 := fun p hp => by
    rw [List.mem_append, List.mem_singleton] at hp
    rcases hp with hp | hp
    · exact ⟨p, by rw [hK]; simp [hp], rfl⟩
    · exact ⟨(u, i), by rw [hK]; simp, by rw [hp]⟩
  have new : ∀ p ∈ s.K, ∃ q ∈ K0 ++ [(u, i + 1)], q.1 = p.1 := fun p hp => by
    rw [hK, List.mem_append, List.mem_singleton] at hp
    rcases hp with hp | hp
    · exact ⟨p, by simp [hp], rfl⟩
    · exact ⟨(u, i + 1), by simp, by rw [hp]⟩
  have hk := I.kinc
  rw [hK, List.pairwise_append] at hk
  refine ⟨I.ln, I.ll, I.dS, I.tS, I.le, I.inc, fun p hp => ?_, ?_, ?_, fun p hp => ?_, I.lle, I.lsd, fun v hv hn => ?_, fun v hv y hy hne hs => ?_, I.clo⟩
  · obtain ⟨q, h1, h2⟩ := old p hp
    rw [← h2]; exact I.kin q h1
  · show (K0 ++ [(u, i + 1)]).Pairwise _
    rw [List.pairwise_append]
    refine ⟨hk.1, by simp, fun x hx y hy => ?_⟩
    rw [List.mem_singleton] at hy
    subst hy
    exact hk.2.2 x hx (u, i) (by simp)
  · intro K1 p q K2 e
    simp only at e
    rcases List.eq_nil_or_concat K2 with rfl | ⟨L, z, rfl⟩
    · have e' : K0 ++ [(u, i + 1)] = (K1 ++ [p]) ++ [q] := by rw [e]; simp
      obtain ⟨e1, e2⟩ := List.append_inj' e' rfl
      simp at e2
      rw [← e2]
      exact I.adj K1 p (u, i) [] (by rw [hK, e1]; simp)
    · have e' : K0 ++ [(u, i + 1)] = (K1 ++ p :: q :: L) ++ [z] := by rw [e]; simp
      obtain ⟨e1, _⟩ := List.append_inj' e' rfl
      exact I.adj K1 p q (L ++ [(u, i)]) (by rw [hK, e1]; simp)
  · simp only [List.mem_append, List.mem_singleton] at hp
    rcases hp with hp | hp
    · exact I.kbd p (by rw [hK]; simp [hp])
    · rw [hp]; exact hi
  · obtain ⟨h1, c, hc, h2, h3, h4, h5⟩ := I.und v hv ((fst v).1 hn)
    obtain ⟨d, hd, e⟩ := new c hc
    refine ⟨h1, d, hd, by rw [e]; exact h2, fun q hq l => ?_, by rw [e]; exact h4, by rw [e]; exact h5⟩
    obtain ⟨q', h6, h7⟩ := old q hq
    rw [e] at l
    rw [← h7] at l ⊢
    exact h3 q' h6 l
  · refine I.seen v hv y hy (fun q => q) ?_
    rcases hs with ⟨h1, h2⟩ | ⟨p, hp, h1, j, h2, h3⟩
    · exact .inl ⟨(fst v).1 h1, h2⟩
    · right
      simp only [List.mem_append, List.mem_singleton] at hp
      rcases hp with hp | hp
      · exact ⟨p, by rw [hK]; simp [hp], h1, j, h2, h3⟩
      · rw [hp] at h1 h2
        refine ⟨(u, i), by rw [hK]; simp, h1, j, ?_, h3⟩
        have hj : j ≠ i := fun e => by
          rw [e, ← h1, hx] at h3
          exact hne ⟨h1.symm, (Option.some.inj h3).symm⟩
        have : j < i + 1 := h2
        show j < i
        omega

theorem TI.skip {u w : Nat} (I : TI next a (fun x y => x = u ∧ y = w) s) (h : kS next a w → 0 < nuF s.num w ∧ w ∉ s.T) : TI next a noEx s := by
  refine ⟨I.ln, I.ll, I.dS, I.tS, I.le, I.inc, I.kin, I.kinc, I.adj, I.kbd, I.lle, I.lsd, I.und, fun v hv y hy _ hs => ?_, I.clo⟩
  by_cases e : y = w
  · subst e
    obtain ⟨h1, h2⟩ := h hy
    exact ⟨h1, fun q => absurd q h2⟩
  · exact I.seen v hv y hy (fun q => e q.2) hs

/-- A low number is told lower. -/
theorem TI.lower {u w : Nat} {K0 : List (Nat × Nat)} {i : Nat} (ok : BigOk next) (I : TI next a (fun x y => x = u ∧ y = w) s) (hK : s.K = K0 ++ [(u, i)]) (hx : kE next u w) (hw : w ∈ s.T) : TI next a noEx { s with low := s.low.set u (min (nuF s.low u) (nuF s.num w)) } := by
  have hu : u ∈ s.T := I.kin (u, i) (by rw [hK]; simp)
  have hun : u < s.low.length := by rw [I.ll]; exact (I.dS u (I.tS u hu)).1
  have lo : ∀ v, nuF (s.low.set u (min (nuF s.low u) (nuF s.num w))) v = if v = u then min (nuF s.low u) (nuF s.num w) else nuF s.low v := fun v => nuF_set _ _ _ _ hun
  have lole : ∀ v, nuF (s.low.set u (min (nuF s.low u) (nuF s.num w))) v ≤ nuF s.low v := fun v => by
    rw [lo]; split
    · rename_i e; rw [e]; exact Nat.min_le_left _ _
    · exact Nat.le_refl _
  have eK : ∀ v, (∀ p ∈ s.K, p.1 ≠ v) → v ≠ u := fun v h e => h (u, i) (by rw [hK]; simp) e.symm
  refine ⟨I.ln, by simp [I.ll], I.dS, I.tS, I.le, I.inc, I.kin, I.kinc, I.adj, I.kbd, fun v hv => Nat.le_trans (lole v) (I.lle v hv), fun v hv => ?_, fun v hv hn => ?_, fun v hv y hy _ hs => ?_, I.clo⟩
  · by_cases e : v = u
    · subst e
      simp only [lo, if_true]
      by_cases q : nuF s.low v ≤ nuF s.num w
      · rw [Nat.min_eq_left q]; exact I.lsd v hv
      · rw [Nat.min_eq_right (by omega)]
        exact ⟨w, hw, rfl, .inr (.one (I.dS v (I.tS v hv)) (I.dS w (I.tS w hw)) hx)⟩
    · simp only [lo, if_neg e]; exact I.lsd v hv
  · obtain ⟨h1, c, hc, h2, h3, h4, h5⟩ := I.und v hv hn
    simp only [lo v, if_neg (eK v hn)]
    exact ⟨h1, c, hc, h2, h3, Nat.le_trans (lole _) h4, h5⟩
  · by_cases e : y = w
    · subst e
      refine ⟨I.tS y hw, fun _ => ?_⟩
      by_cases ev : v = u
      · simp only [lo v, if_pos ev]; exact Nat.min_le_right _ _
      · -- another vertex: it has seen it before
        simp only [lo v, if_neg ev]
        exact (I.seen v hv y hy (fun q => ev q.1) hs).2 hw
    · obtain ⟨h1, h2⟩ := I.seen v hv y hy (fun q => e q.2) hs
      exact ⟨h1, fun q => Nat.le_trans (lole v) (h2 q)⟩
end
end Go.Par

set_option linter.unusedSimpArgs false
set_option linter.unusedVariables false
namespace Go.Par

section
variable {next : List (List Int)} {a : List Bool} {s : TS} {K0 : List (Nat × Nat)} {v i : Nat}
theorem TI.k0 (I : TI next a noEx s) (hK : s.K = K0 ++ [(v, i)]) : v ∈ s.T ∧ (∀ p ∈ K0, p ∈ s.K) ∧ (∀ p ∈ K0, nuF s.num p.1 < nuF s.num v) ∧ (v, i) ∈ s.K := by
  have hk := I.kinc
  rw [hK, List.pairwise_append] at hk
  exact ⟨I.kin (v, i) (by rw [hK]; simp), fun p hp => by rw [hK]; simp [hp], fun p hp => hk.2.2 p hp (v, i) (by simp), by rw [hK]; simp⟩
theorem TI.above (I : TI next a noEx s) (hK : s.K = K0 ++ [(v, i)]) {u : Nat} (hu : u ∈ s.T) (h : nuF s.num v < nuF s.num u) : (∀ p ∈ s.K, p.1 ≠ u) ∧ nuF s.low u < nuF s.num u ∧ nuF s.low v ≤ nuF s.low u ∧ Way (kE next) (kS next a) v u := by
  obtain ⟨vT, k1, k2, k3⟩ := I.k0 hK
  have nK : ∀ p ∈ s.K, p.1 ≠ u := fun p hp e => by
    rw [hK, List.mem_append, List.mem_singleton] at hp
    rcases hp with hp | hp
    · have := k2 p hp; rw [e] at this; omega
    · rw [hp] at e; simp only at e; rw [e] at h; omega
  obtain ⟨h1, c, hc, h2, h3, h4, h5⟩ := I.und u hu nK
  rw [hK, List.mem_append, List.mem_singleton] at hc
  rcases hc with hc | hc
  · have := h3 (v, i) k3 (k2 c hc)
    simp only at this; omega
  · rw [hc] at h4 h5
    exact ⟨nK, h1, h4, h5⟩
/-- The last ones seen. -/
theorem TI.all (I : TI next a noEx s) (hK : s.K = K0 ++ [(v, i)]) (hi : i = (next.getD v []).length) {y : Nat} (hy : kS next a y) (he : kE next v y) : 0 < nuF s.num y ∧ (y ∈ s.T → nuF s.low v ≤ nuF s.num y) := by
  obtain ⟨vT, k1, k2, k3⟩ := I.k0 hK
  obtain ⟨j, hj, e⟩ := kE_X he
  exact I.seen v vT y hy (fun q => q) (.inr ⟨(v, i), k3, rfl, j, by simp only; omega, e⟩)

/-- It is left, and stays on the stack. -/
theorem TI.stay (I : TI next a noEx s) (hK : s.K = K0 ++ [(v, i)]) (hi : i = (next.getD v []).length) (hlt : nuF s.low v < nuF s.num v) :
    ∃ K1 p, K0 = K1 ++ [p] ∧ p.1 ∈ s.T ∧ TI next a noEx ⟨s.num, s.low.set p.1 (min (nuF s.low p.1) (nuF s.low v)), s.met, s.T, K0⟩ := by
  obtain ⟨vT, k1, k2, k3⟩ := I.k0 hK
  rcases List.eq_nil_or_concat K0 with rfl | ⟨K1, p, eK⟩
  · exfalso
    obtain ⟨w, w1, w2, _⟩ := I.lsd v vT
    have nK : ∀ p ∈ s.K, p.1 ≠ w := fun p hp e => by
      rw [hK] at hp
      simp at hp
      rw [hp] at e; simp only at e; rw [← e] at w2; omega
    obtain ⟨_, c, hc, h2, _⟩ := I.und w w1 nK
    rw [hK] at hc
    simp at hc
    rw [hc] at h2
    simp only at h2; omega
  · rw [List.concat_eq_append] at eK
    subst eK
    refine ⟨K1, p, rfl, I.kin p (k1 p (by simp)), ?_⟩
    have pT := I.kin p (k1 p (by simp))
    have pv : nuF s.num p.1 < nuF s.num v := k2 p (by simp)
    have hE : kE next p.1 v := I.adj K1 p (v, i) [] (by rw [hK]; simp)
    have Sp := I.dS p.1 (I.tS _ pT)
    have Sv := I.dS v (I.tS v vT)
    have last : ∀ q ∈ K1 ++ [p], ¬ nuF s.num p.1 < nuF s.num q.1 := fun q hq l => by
      have hk := I.kinc
      rw [hK, List.pairwise_append] at hk
      have hk2 := hk.1
      rw [List.pairwise_append] at hk2
      rw [List.mem_append, List.mem_singleton] at hq
      rcases hq with hq | hq
      · have := hk2.2.2 q hq p (by simp); omega
      · rw [hq] at l; omega
    have lo : ∀ x, nuF (s.low.set p.1 (min (nuF s.low p.1) (nuF s.low v))) x = if x = p.1 then min (nuF s.low p.1) (nuF s.low v) else nuF s.low x := fun x => nuF_set _ _ _ _ (by rw [I.ll]; exact Sp.1)
    have lole : ∀ x, nuF (s.low.set p.1 (min (nuF s.low p.1) (nuF s.low v))) x ≤ nuF s.low x := fun x => by
      rw [lo]; split
      · rename_i e; rw [e]; exact Nat.min_le_left _ _
      · exact Nat.le_refl _
    have lop : nuF (s.low.set p.1 (min (nuF s.low p.1) (nuF s.low v))) p.1 ≤ nuF s.low v := by rw [lo, if_pos rfl]; exact Nat.min_le_right _ _
    have hk := I.kinc
    rw [hK, List.pairwise_append] at hk
    refine ⟨I.ln, by simp [I.ll], I.dS, I.tS, I.le, I.inc, fun q hq => I.kin q (k1 q hq), hk.1, fun K2 q q' K3 e => ?_, fun q hq => I.kbd q (k1 q hq), fun x hx => Nat.le_trans (lole x) (I.lle x hx), fun x hx => ?_, fun u hu hn => ?_, fun u hu y hy _ hs => ?_, I.clo⟩
    · simp only at e
      exact I.adj K2 q q' (K3 ++ [(v, i)]) (by rw [hK, e]; simp)
    · by_cases e : x = p.1
      · subst e
        simp only [lo, if_true]
        by_cases q : nuF s.low p.1 ≤ nuF s.low v
        · rw [Nat.min_eq_left q]; exact I.lsd _ hx
        · rw [Nat.min_eq_right (by omega)]
          obtain ⟨w, w1, w2, w3⟩ := I.lsd v vT
          refine ⟨w, w1, w2, .inr ?_⟩
          rcases w3 with w3 | w3
          · rw [← w3]; exact .one Sp Sv hE
          · exact .cons Sp hE w3
      · simp only [lo, if_neg e]; exact I.lsd x hx
    · have hup : u ≠ p.1 := fun e => hn p (by simp) e.symm
      have eu : nuF (s.low.set p.1 (min (nuF s.low p.1) (nuF s.low v))) u = nuF s.low u := by rw [lo, if_neg hup]
      by_cases e : u = v
      · subst e
        simp only [eu]
        exact ⟨hlt, p, by simp, pv, fun q hq l => absurd l (last q hq), lop, .one Sp Sv hE⟩
      · have hn' : ∀ q ∈ s.K, q.1 ≠ u := fun q hq => by
          rw [hK, List.mem_append, List.mem_singleton] at hq
          rcases hq with hq | hq
          · exact hn q hq
          · rw [hq]; exact fun z => e z.symm
        obtain ⟨h1, c, hc, h2, h3, h4, h5⟩ := I.und u hu hn'
        simp only [eu]
        rw [hK, List.mem_append, List.mem_singleton] at hc
        rcases hc with hc | hc
        · exact ⟨h1, c, hc, h2, fun q hq l => h3 q (k1 q hq) l, Nat.le_trans (lole _) h4, h5⟩
        · rw [hc] at h2 h4 h5
          simp only at h2 h4 h5
          exact ⟨h1, p, by simp, by omega, fun q hq l => absurd l (last q hq), Nat.le_trans lop h4, .cons Sp hE h5⟩
    · have := (show 0 < nuF s.num y ∧ (y ∈ s.T → nuF s.low u ≤ nuF s.num y) from ?_)
      · exact ⟨this.1, fun q => Nat.le_trans (lole u) (this.2 q)⟩
      rcases hs with ⟨h1, h2⟩ | ⟨q, hq, h1, j, h2, h3⟩
      · by_cases e : u = v
        · subst e; exact I.all hK hi hy h2
        · refine I.seen u hu y hy (fun q => q) (.inl ⟨fun q hq => ?_, h2⟩)
          rw [hK, List.mem_append, List.mem_singleton] at hq
          rcases hq with hq | hq
          · exact h1 q hq
          · rw [hq]; exact fun z => e z.symm
      · exact I.seen u hu y hy (fun q => q) (.inr ⟨q, k1 q hq, h1, j, h2, h3⟩)

/-- It is left, with its component. -/
theorem TI.pop (I : TI next a noEx s) (hK : s.K = K0 ++ [(v, i)]) (hi : i = (next.getD v []).length) (hlt : ¬ nuF s.low v < nuF s.num v) :
    ∃ T1 T2, s.T = T1 ++ v :: T2 ∧ (∀ p ∈ K0, min (nuF s.low p.1) (nuF s.low v) = nuF s.low p.1) ∧ TI next a noEx ⟨s.num, s.low, s.met, T1, K0⟩ ∧ ∀ u, u ∈ v :: T2 ↔ Same (kE next) (kS next a) u v := by
  obtain ⟨vT, k1, k2, k3⟩ := I.k0 hK
  have lv : nuF s.low v = nuF s.num v := by have := I.lle v vT; omega
  obtain ⟨T1, T2, hT⟩ := List.append_of_mem vT
  have hinc := I.inc
  rw [hT, List.pairwise_append, List.pairwise_cons] at hinc
  obtain ⟨i1, ⟨i2, i3⟩, i4⟩ := hinc
  have lt1 : ∀ u ∈ T1, nuF s.num u < nuF s.num v := fun u hu => i4 u hu v (by simp)
  have gt2 : ∀ u ∈ T2, nuF s.num v < nuF s.num u := i2
  have mT : ∀ u, u ∈ s.T ↔ u ∈ T1 ∨ u ∈ v :: T2 := fun u => by rw [hT, List.mem_append]
  have mP : ∀ u, u ∈ s.T → nuF s.num v ≤ nuF s.num u → u ∈ v :: T2 := fun u hu l => by
    rcases (mT u).1 hu with q | q
    · have := lt1 u q; omega
    · exact q
  have m1 : ∀ u, u ∈ s.T → nuF s.num u < nuF s.num v → u ∈ T1 := fun u hu l => by
    rcases (mT u).1 hu with q | q
    · exact q
    · rcases List.mem_cons.1 q with e | e
      · rw [e] at l; omega
      · have := gt2 u e; omega
  have ab := fun u (hu : u ∈ T2) => I.above hK ((mT u).2 (.inr (by simp [hu]))) (gt2 u hu)
  have Sof : ∀ u ∈ s.T, kS next a u := fun u hu => I.dS u (I.tS u hu)
  -- nothing leads from it to what is below
  have cl : ∀ x ∈ v :: T2, ∀ y, kE next x y → kS next a y → 0 < nuF s.num y ∧ (y ∈ s.T → y ∈ v :: T2) := fun x hx y he hy => by
    have xT := (mT x).2 (.inr hx)
    have h1 : 0 < nuF s.num y ∧ (y ∈ s.T → nuF s.num v ≤ nuF s.num y) := by
      rcases List.mem_cons.1 hx with e | e
      · subst e
        obtain ⟨h1, h2⟩ := I.all hK hi hy he
        exact ⟨h1, fun q => by rw [← lv]; exact h2 q⟩
      · obtain ⟨g1, _, g3, _⟩ := ab x e
        obtain ⟨h1, h2⟩ := I.seen x xT y hy (fun q => q) (.inl ⟨g1, he⟩)
        exact ⟨h1, fun q => by rw [← lv]; exact Nat.le_trans g3 (h2 q)⟩
    exact ⟨h1.1, fun q => mP y q (h1.2 q)⟩
  -- from each there is a way back
  have back : ∀ k u, u ∈ T2 → nuF s.num u ≤ k → Way (kE next) (kS next a) u v := by
    intro k
    induction k with
    | zero => intro u hu l; have := gt2 u hu; omega
    | succ k ih =>
      intro u hu l
      have uT := (mT u).2 (.inr (by simp [hu]))
      obtain ⟨_, g2, g3, _⟩ := ab u hu
      obtain ⟨w, w1, w2, w3⟩ := I.lsd u uT
      have w3 := w3.resolve_left (fun e => by rw [← e] at w2; omega)
      have hw := mP w w1 (by rw [w2, ← lv]; exact g3)
      rcases List.mem_cons.1 hw with e | e
      · rw [← e]; exact w3
      · exact w3.trans (ih w e (by omega))
  have strong : ∀ u, u ∈ v :: T2 → Same (kE next) (kS next a) u v := fun u hu => by
    rcases List.mem_cons.1 hu with e | e
    · exact .inl e
    · exact .inr ⟨back _ u e (Nat.le_refl _), (ab u e).2.2.2⟩
  have stayP : ∀ x y, kS next a x → kS next a y → (x ∈ v :: T2 ∨ (0 < nuF s.num x ∧ x ∉ s.T)) → kE next x y → (y ∈ v :: T2 ∨ (0 < nuF s.num y ∧ y ∉ s.T)) := fun x y _ hy h e => by
    rcases h with h | ⟨h1, h2⟩
    · obtain ⟨c1, c2⟩ := cl x h y e hy
      by_cases q : y ∈ s.T
      · exact .inl (c2 q)
      · exact .inr ⟨c1, q⟩
    · exact .inr (I.clo x h1 h2 y e hy)
  have finP : ∀ x y, kS next a x → kS next a y → (0 < nuF s.num x ∧ x ∉ s.T) → kE next x y → (0 < nuF s.num y ∧ y ∉ s.T) := fun x y _ hy h e => I.clo x h.1 h.2 y e hy
  refine ⟨T1, T2, hT, fun p hp => ?_, ?_, fun u => ⟨strong u, fun h => ?_⟩⟩
  · have h1 := I.lle p.1 (I.kin p (k1 p hp))
    have h2 := k2 p hp
    omega
  · have hk := I.kinc
    rw [hK, List.pairwise_append] at hk
    refine ⟨I.ln, I.ll, I.dS, fun u hu => I.tS u ((mT u).2 (.inl hu)), I.le, i1, fun p hp => m1 _ (I.kin p (k1 p hp)) (k2 p hp), hk.1, fun K2 q q' K3 e => ?_, fun q hq => I.kbd q (k1 q hq), fun u hu => I.lle u ((mT u).2 (.inl hu)), fun u hu => ?_, fun u hu hn => ?_, fun u hu y hy _ hs => ?_, fun u hu hn y he hy => ?_⟩
    · simp only at e
      exact I.adj K2 q q' (K3 ++ [(v, i)]) (by rw [hK, e]; simp)
    · have uT := (mT u).2 (.inl hu)
      obtain ⟨w, w1, w2, w3⟩ := I.lsd u uT
      refine ⟨w, m1 w w1 ?_, w2, w3⟩
      have := I.lle u uT
      have := lt1 u hu
      omega
    · have hn' : ∀ q ∈ s.K, q.1 ≠ u := fun q hq => by
        rw [hK, List.mem_append, List.mem_singleton] at hq
        rcases hq with hq | hq
        · exact hn q hq
        · rw [hq]; intro z
          simp only at z
          have := lt1 u hu
          rw [z] at this; omega
      obtain ⟨h1, c, hc, h2, h3, h4, h5⟩ := I.und u ((mT u).2 (.inl hu)) hn'
      refine ⟨h1, c, ?_, h2, fun q hq l => h3 q (k1 q hq) l, h4, h5⟩
      rw [hK, List.mem_append, List.mem_singleton] at hc
      rcases hc with hc | hc
      · exact hc
      · exfalso
        rw [hc] at h2
        have := lt1 u hu
        simp only at h2; omega
    · have uT := (mT u).2 (.inl hu)
      have := (show 0 < nuF s.num y ∧ (y ∈ s.T → nuF s.low u ≤ nuF s.num y) from ?_)
      · exact ⟨this.1, fun q => this.2 ((mT y).2 (.inl q))⟩
      rcases hs with ⟨h1, h2⟩ | ⟨q, hq, h1, j, h2, h3⟩
      · refine I.seen u uT y hy (fun q => q) (.inl ⟨fun q hq => ?_, h2⟩)
        rw [hK, List.mem_append, List.mem_singleton] at hq
        rcases hq with hq | hq
        · exact h1 q hq
        · rw [hq]; intro z
          simp only at z
          have := lt1 u hu
          rw [z] at this; omega
      · exact I.seen u uT y hy (fun q => q) (.inr ⟨q, k1 q hq, h1, j, h2, h3⟩)
    · have old : u ∈ v :: T2 ∨ (0 < nuF s.num u ∧ u ∉ s.T) := by
        by_cases q : u ∈ s.T
        · exact .inl (((mT u).1 q).resolve_left hn)
        · exact .inr ⟨hu, q⟩
      have yS := stayP u y (I.dS u hu) hy old he
      rcases yS with q | ⟨q1, q2⟩
      · refine ⟨I.tS y ((mT y).2 (.inr q)), fun z => ?_⟩
        have := lt1 y z
        rcases List.mem_cons.1 q with e | e
        · rw [e] at this; omega
        · have := gt2 y e; omega
      · exact ⟨q1, fun z => q2 ((mT y).2 (.inl z))⟩
  · rcases h with e | ⟨w1, w2⟩
    · rw [e]; simp
    · have := w2.closed (T := fun x => x ∈ v :: T2 ∨ (0 < nuF s.num x ∧ x ∉ s.T)) stayP (.inl (by simp))
      rcases this with q | q
      · exact q
      · exact absurd vT (w1.closed (T := fun x => 0 < nuF s.num x ∧ x ∉ s.T) finP q).2
end

/-- The components in which a way goes on. -/
structure PartsOk (E : Nat → Nat → Prop) (S : Nat → Prop) (out : List (List Nat)) : Prop where
  nd : out.flatten.Nodup
  comp : ∀ p ∈ out, ∃ r, Way E S r r ∧ ∀ u, u ∈ p ↔ Same E S u r
  all : ∀ v, Way E S v v → ∃ p ∈ out, v ∈ p
/-- What is found so far. -/
structure TO (next : List (List Int)) (a : List Bool) (s : TS) (out : List (List Nat)) : Prop where
  nd : out.flatten.Nodup
  fin : ∀ u ∈ out.flatten, 0 < nuF s.num u ∧ u ∉ s.T
  comp : ∀ p ∈ out, ∃ r, Way (kE next) (kS next a) r r ∧ ∀ u, u ∈ p ↔ Same (kE next) (kS next a) u r
  all : ∀ v, 0 < nuF s.num v → v ∉ s.T → Way (kE next) (kS next a) v v → ∃ p ∈ out, v ∈ p

section
variable {E : Nat → Nat → Prop} {S : Nat → Prop}
theorem loop_iff {p : List Nat} {r w : Nat} (nd : p.Nodup) (h : ∀ u, u ∈ p ↔ Same E S u r) (hw : w ∈ p) (hS : ∀ u ∈ p, S u) : Way E S r r ↔ (1 < p.length ∨ E w w) := by
  have sw := (h w).1 hw
  constructor
  · intro q
    by_cases e : 1 < p.length
    · exact .inl e
    · right
      have one : ∀ u ∈ p, u = w := fun u hu => by
        match p, hw, hu, e with
        | [x], hw, hu, _ => simp at hw hu; rw [hu, hw]
        | x :: y :: l, _, _, e => simp at e
      have lw := sw.loop q
      obtain ⟨x, hx, ex, hxw⟩ := lw.head
      have sx : Same E S x w := by
        rcases hxw with e | z
        · exact .inl e
        · exact .inr ⟨z, .one lw.fst hx ex⟩
      have := one x ((h x).2 (sx.trans sw))
      rw [this] at ex; exact ex
  · rintro (q | q)
    · obtain ⟨x, y, hx, hy, ne⟩ : ∃ x y, x ∈ p ∧ y ∈ p ∧ x ≠ y := by
        match p, q, nd with
        | x :: y :: l, _, nd => exact ⟨x, y, by simp, by simp, fun e => by subst e; simp at nd⟩
      have sxy := ((h x).1 hx).trans ((h y).1 hy).symm
      rcases sxy with e | ⟨w1, w2⟩
      · exact absurd e ne
      · exact ((h x).1 hx).symm.loop (w1.trans w2)
    · exact sw.symm.loop (.one (hS w hw) (hS w hw) q)
end
section
variable {next : List (List Int)} {a : List Bool} {s : TS} {out : List (List Nat)}
theorem TO.pop {low : List Nat} {met : Nat} {T1 T2 : List Nat} {v : Nat} {K0 : List (Nat × Nat)} {b : Bool} (O : TO next a s out) (hT : s.T = T1 ++ v :: T2) (tS : ∀ u ∈ s.T, 0 < nuF s.num u) (nd : s.T.Nodup) (hc : ∀ u, u ∈ v :: T2 ↔ Same (kE next) (kS next a) u v) (hb : b = true ↔ Way (kE next) (kS next a) v v) :
    TO next a ⟨s.num, low, met, T1, K0⟩ (if b then out ++ [(v :: T2).reverse] else out) := by
  rw [hT, List.nodup_append] at nd
  obtain ⟨n1, n2, n3⟩ := nd
  have mT : ∀ u, u ∈ s.T ↔ u ∈ T1 ∨ u ∈ v :: T2 := fun u => by rw [hT, List.mem_append]
  have f0 : ∀ u ∈ out.flatten, 0 < nuF s.num u ∧ u ∉ T1 := fun u hu => ⟨(O.fin u hu).1, fun q => (O.fin u hu).2 ((mT u).2 (.inl q))⟩
  have al : ∀ u, 0 < nuF s.num u → u ∉ T1 → Way (kE next) (kS next a) u u → (∃ p ∈ out, u ∈ p) ∨ (u ∈ v :: T2 ∧ b = true) := fun u h1 h2 h3 => by
    by_cases q : u ∈ s.T
    · have := ((mT u).1 q).resolve_left h2
      exact .inr ⟨this, hb.2 (((hc u).1 this).symm.loop h3)⟩
    · exact .inl (O.all u h1 q h3)
  cases b with
  | false =>
    rw [if_neg (by simp)]
    exact ⟨O.nd, f0, O.comp, fun u h1 h2 h3 => (al u h1 h2 h3).resolve_right (fun q => by cases q.2)⟩
  | true =>
    rw [if_pos rfl]
    have e : (out ++ [(v :: T2).reverse]).flatten = out.flatten ++ (v :: T2).reverse := by simp
    refine ⟨?_, fun u hu => ?_, fun p hp => ?_, fun u h1 h2 h3 => ?_⟩
    · rw [e, List.nodup_append]
      refine ⟨O.nd, (List.reverse_perm _).nodup_iff.2 n2, fun x hx y hy xy => ?_⟩
      subst xy
      exact (O.fin x hx).2 ((mT x).2 (.inr (List.mem_reverse.1 hy)))
    · rw [e, List.mem_append] at hu
      rcases hu with q | q
      · exact f0 u q
      · have q := List.mem_reverse.1 q
        exact ⟨tS u ((mT u).2 (.inr q)), fun z => n3 u z u q rfl⟩
    · rw [List.mem_append, List.mem_singleton] at hp
      rcases hp with q | q
      · exact O.comp p q
      · exact ⟨v, hb.1 rfl, fun u => by rw [q, List.mem_reverse]; exact hc u⟩
    · rcases al u h1 h2 h3 with ⟨p, q1, q2⟩ | ⟨q, _⟩
      · exact ⟨p, by simp [q1], q2⟩
      · exact ⟨_, List.mem_append_right _ (List.mem_singleton.2 rfl), List.mem_reverse.2 q⟩
theorem TO.done (O : TO next a s out) (hT : s.T = []) (hS : ∀ v, kS next a v → 0 < nuF s.num v) : PartsOk (kE next) (kS next a) out :=
  ⟨O.nd, O.comp, fun v hv => O.all v (hS v hv.fst) (by rw [hT]; simp) hv⟩
/-- Entering keeps what is found. -/
theorem TO.enter {v : Nat} (O : TO next a s out) (hv : v < s.num.length) (h0 : nuF s.num v = 0) : TO next a (s.enter v) out := by
  have nu : ∀ u, nuF (s.enter v).num u = if u = v then s.met + 1 else nuF s.num u := fun u => nuF_set _ _ _ _ hv
  refine ⟨O.nd, fun u hu => ?_, O.comp, fun u h1 h2 h3 => ?_⟩
  · obtain ⟨h1, h2⟩ := O.fin u hu
    have e : u ≠ v := fun e => by rw [e, h0] at h1; omega
    rw [nu, if_neg e]
    exact ⟨h1, fun q => by
      have : u ∈ s.T ++ [v] := q
      rw [List.mem_append, List.mem_singleton] at this
      exact this.elim h2 e⟩
  · have h2' : u ∉ s.T ++ [v] := h2
    rw [List.mem_append, List.mem_singleton, not_or] at h2'
    rw [nu, if_neg h2'.2] at h1
    exact O.all u h1 h2'.1 h3
theorem TO.same {low : List Nat} {met : Nat} {K : List (Nat × Nat)} (O : TO next a s out) : TO next a ⟨s.num, low, met, s.T, K⟩ out := ⟨O.nd, O.fin, O.comp, O.all⟩
theorem TO.init (hn : ∀ v, nuF s.num v = 0) : TO next a s [] := ⟨by simp, fun u hu => by simp at hu, fun p hp => absurd hp (by simp), fun v h => by rw [hn] at h; omega⟩
theorem TI.nodup {ex : Nat → Nat → Prop} (I : TI next a ex s) : s.T.Nodup := I.inc.imp fun {x y} h e => by subst e; omega
end
end Go.Par

set_option linter.unusedSimpArgs false
set_option linter.unusedVariables false
set_option maxRecDepth 8000
set_option maxHeartbeats 2000000
namespace Go.Par
open Go.Proofs

/-- The names of a finder's objects. -/
structure TN where
  f : Nat
  nu : Nat
  lo : Nat
  on : Nat
  st : Nat
  ca : Nat
  ou : Nat
  n1 : Bool
  n2 : Bool
  n3 : Bool

def obFi (next : List (List Int)) (a : List Bool) (k : TN) (met : Int) (t c o : Nat) : Ob := ⟨[.ro false (rows next), .ro false (bools a), .mu k.nu next.length, .mu k.lo next.length, .mu k.on next.length, .int .i64 met, .mu k.st t, .mu k.ca c, .mu k.ou o], 74, 9, true⟩
@[simp] theorem obFi_cells (next : List (List Int)) (a : List Bool) (k : TN) (met : Int) (t c o : Nat) : (obFi next a k met t c o).cells = [.ro false (rows next), .ro false (bools a), .mu k.nu next.length, .mu k.lo next.length, .mu k.on next.length, .int .i64 met, .mu k.st t, .mu k.ca c, .mu k.ou o] := rfl
@[simp] theorem obFi_ty (next : List (List Int)) (a : List Bool) (k : TN) (met : Int) (t c o : Nat) : (obFi next a k met t c o).ty = 74 := rfl
@[simp] theorem obFi_sz (next : List (List Int)) (a : List Bool) (k : TN) (met : Int) (t c o : Nat) : (obFi next a k met t c o).sz = 9 := rfl
@[simp] theorem obFi_nn (next : List (List Int)) (a : List Bool) (k : TN) (met : Int) (t c o : Nat) : (obFi next a k met t c o).nn = true := rfl

def obVi (K : List (Nat × Nat)) (nn : Bool) : Ob := ⟨prF K, 90, 2, nn⟩
@[simp] theorem obVi_cells (K : List (Nat × Nat)) (nn : Bool) : (obVi K nn).cells = prF K := rfl
@[simp] theorem obVi_ty (K : List (Nat × Nat)) (nn : Bool) : (obVi K nn).ty = 90 := rfl
@[simp] theorem obVi_sz (K : List (Nat × Nat)) (nn : Bool) : (obVi K nn).sz = 2 := rfl
@[simp] theorem obVi_nn (K : List (Nat × Nat)) (nn : Bool) : (obVi K nn).nn = nn := rfl

def obRo (L : List (List Int)) (nn : Bool) : Ob := ⟨rows L, 28, 1, nn⟩
@[simp] theorem obRo_cells (L : List (List Int)) (nn : Bool) : (obRo L nn).cells = rows L := rfl
@[simp] theorem obRo_ty (L : List (List Int)) (nn : Bool) : (obRo L nn).ty = 28 := rfl
@[simp] theorem obRo_sz (L : List (List Int)) (nn : Bool) : (obRo L nn).sz = 1 := rfl
@[simp] theorem obRo_nn (L : List (List Int)) (nn : Bool) : (obRo L nn).nn = nn := rfl

def onT (n : Nat) (T : List Nat) : List Bool := tab n fun v => decide (v ∈ T)
@[simp] theorem onT_len (n : Nat) (T : List Nat) : (onT n T).length = n := length_tab _ _
theorem onT_set (n : Nat) (T : List Nat) (v : Nat) : (onT n T).set v true = onT n (T ++ [v]) := by
  apply List.ext_getElem (by simp)
  intro i h1 h2
  rw [List.getElem_set]
  simp only [onT, getElem_tab]
  split
  · rename_i e; simp [e]
  · rename_i e; simp [Ne.symm e]
theorem onT_cut (n : Nat) (T : List Nat) (v : Nat) (h : v ∉ T) : (onT n (T ++ [v])).set v false = onT n T := by
  apply List.ext_getElem (by simp)
  intro i h1 h2
  rw [List.getElem_set]
  simp only [onT, getElem_tab]
  split
  · rename_i e; subst e; simp [h]
  · rename_i e; simp [Ne.symm e]
theorem onT_at {n : Nat} {T : List Nat} {v : Nat} (h : v < (onT n T).length) : (onT n T)[v] = decide (v ∈ T) := by simp only [onT, getElem_tab]

def tjR (h : Heap) (k : TN) (F : Ob) (nu lo : List Nat) (on : List Bool) (T : List Nat) (K : List (Nat × Nat)) (out : List (List Int)) : Heap :=
  HL h [(k.f, F), (k.nu, obTd (nI nu) true), (k.lo, obTd (nI lo) true), (k.on, obBk on), (k.st, obTd (nI T) k.n1), (k.ca, obVi K k.n2), (k.ou, obRo out k.n3)]
def tjH (h : Heap) (next : List (List Int)) (a : List Bool) (k : TN) (s : TS) (out : List (List Int)) : Heap :=
  tjR h k (obFi next a k s.met s.T.length s.K.length out.length) s.num s.low (onT next.length s.T) s.T s.K out
abbrev tjN (h : Heap) (k : TN) : Prop := HN h [k.f, k.nu, k.lo, k.on, k.st, k.ca, k.ou]

section
variable {h : Heap} {k : TN} (N : tjN h k) (next : List (List Int)) (a : List Bool) (F : Ob) (nu lo : List Nat) (on : List Bool) (T : List Nat) (K : List (Nat × Nat)) (out : List (List Int))
include N
theorem tjR.af : tjR h k F nu lo on T K out k.f = some F := HL.at (k := 0) N.nd rfl
theorem tjR.anu : tjR h k F nu lo on T K out k.nu = some (obTd (nI nu) true) := HL.at (k := 1) N.nd rfl
theorem tjR.alo : tjR h k F nu lo on T K out k.lo = some (obTd (nI lo) true) := HL.at (k := 2) N.nd rfl
theorem tjR.aon : tjR h k F nu lo on T K out k.on = some (obBk on) := HL.at (k := 3) N.nd rfl
theorem tjR.ast : tjR h k F nu lo on T K out k.st = some (obTd (nI T) k.n1) := HL.at (k := 4) N.nd rfl
theorem tjR.aca : tjR h k F nu lo on T K out k.ca = some (obVi K k.n2) := HL.at (k := 5) N.nd rfl
theorem tjR.aou : tjR h k F nu lo on T K out k.ou = some (obRo out k.n3) := HL.at (k := 6) N.nd rfl
theorem tjR.pf (m : Int) (t c o : Nat) : upd (tjR h k F nu lo on T K out) k.f (some ⟨[.ro false (rows next), .ro false (bools a), .mu k.nu next.length, .mu k.lo next.length, .mu k.on next.length, .int .i64 m, .mu k.st t, .mu k.ca c, .mu k.ou o], 74, 9, true⟩) = tjR h k (obFi next a k m t c o) nu lo on T K out := HL.put (k := 0) N.nd rfl
theorem tjR.pnu (l : List Nat) : upd (tjR h k F nu lo on T K out) k.nu (some (obTd (nI l) true)) = tjR h k F l lo on T K out := HL.put (k := 1) N.nd rfl
theorem tjR.plo (l : List Nat) : upd (tjR h k F nu lo on T K out) k.lo (some (obTd (nI l) true)) = tjR h k F nu l on T K out := HL.put (k := 2) N.nd rfl
theorem tjR.pon (l : List Bool) : upd (tjR h k F nu lo on T K out) k.on (some (obBk l)) = tjR h k F nu lo l T K out := HL.put (k := 3) N.nd rfl
theorem tjR.pst (l : List Nat) : upd (tjR h k F nu lo on T K out) k.st (some (obTd (nI l) k.n1)) = tjR h k F nu lo on l K out := HL.put (k := 4) N.nd rfl
theorem tjR.pca (l : List (Nat × Nat)) : upd (tjR h k F nu lo on T K out) k.ca (some (obVi l k.n2)) = tjR h k F nu lo on T l out := HL.put (k := 5) N.nd rfl
theorem tjR.gst {o' : Nat} (ho : tjR h k F nu lo on T K out o' = none) (T' : List Nat) : upd (upd (tjR h k F nu lo on T K out) k.st none) o' (some (obTd (nI T') true)) = tjR h { k with st := o', n1 := true } F nu lo on T' K out ∧ tjN h { k with st := o', n1 := true } :=
  HL.ren (h0 := h) (A' := obTd (nI T') true) (l := [(k.f, F), (k.nu, obTd (nI nu) true), (k.lo, obTd (nI lo) true), (k.on, obBk on), (k.st, obTd (nI T) k.n1), (k.ca, obVi K k.n2), (k.ou, obRo out k.n3)]) (k := 4) N rfl ho
theorem tjR.gca {o' : Nat} (ho : tjR h k F nu lo on T K out o' = none) (K' : List (Nat × Nat)) : upd (upd (tjR h k F nu lo on T K out) k.ca none) o' (some (obVi K' true)) = tjR h { k with ca := o', n2 := true } F nu lo on T K' out ∧ tjN h { k with ca := o', n2 := true } :=
  HL.ren (h0 := h) (A' := obVi K' true) (l := [(k.f, F), (k.nu, obTd (nI nu) true), (k.lo, obTd (nI lo) true), (k.on, obBk on), (k.st, obTd (nI T) k.n1), (k.ca, obVi K k.n2), (k.ou, obRo out k.n3)]) (k := 5) N rfl ho
theorem tjR.gou {o' : Nat} (ho : tjR h k F nu lo on T K out o' = none) (O' : List (List Int)) : upd (upd (tjR h k F nu lo on T K out) k.ou none) o' (some (obRo O' true)) = tjR h { k with ou := o', n3 := true } F nu lo on T K O' ∧ tjN h { k with ou := o', n3 := true } :=
  HL.ren (h0 := h) (A' := obRo O' true) (l := [(k.f, F), (k.nu, obTd (nI nu) true), (k.lo, obTd (nI lo) true), (k.on, obBk on), (k.st, obTd (nI T) k.n1), (k.ca, obVi K k.n2), (k.ou, obRo out k.n3)]) (k := 6) N rfl ho
end

theorem nI_set (L : List Nat) (v x : Nat) : (nI L).set v (x : Int) = nI (L.set v x) := by simp [nI, List.map_set]
theorem nI_drop (L : List Nat) {v : Nat} (h : v < L.length) : ∃ r, List.drop v (ints (nI L)) = .int .i64 ((nuF L v : Nat) : Int) :: r := by
  obtain ⟨r, e⟩ := nI_at (List.getElem?_eq_getElem h)
  exact ⟨r, by rw [e]; simp [nuF, h]⟩

theorem fin_enter {h : Heap} {k : TN} (N : tjN h k) (next : List (List Int)) (a : List Bool) (s : TS) (out : List (List Int)) (v : Nat) (hv : v < next.length) (hn : s.num.length = next.length) (hl : s.low.length = next.length) (hm : s.met ≤ 12000) (hT : s.T.length ≤ 12000) (hK : s.K.length ≤ 12000) :
    AC Try.prog 56 [.ptr k.f 0, .int .i64 v] (tjH h next a k s out) fun _ h' => ∃ k', tjN h k' ∧ k'.f = k.f ∧ h' = tjH h next a k' (s.enter v) out := by
  obtain ⟨nu, lo, met, T, K⟩ := s
  simp only at hn hl hm hT hK
  have inc := wrap_succ (show met < 9223372036854775807 by omega)
  refine AC.body Θ_ok Try.func56 rfl rfl (Nat.le_of_ble_eq_true rfl) ?_
  unfold tjH
  have af := tjR.af N (obFi next a k met T.length K.length out.length) nu lo (onT next.length T) T K out
  refine AW.seq fun _ k1 => AW.region [] Θ_ok ?_
  simp [af, inc]
  refine k1 _ ?_
  rw [tjR.pf N]
  have e1 : ∀ l : List Nat, (ints (nI l)).set v (.int .i64 ((met : Int) + 1)) = ints (nI (l.set v (met + 1))) := fun l => by rw [mapi_set, ← nI_set]; simp
  have e2 := mapk_set (onT next.length T) v true
  rw [onT_set] at e2
  have af := fun nu lo on => tjR.af N (obFi next a k ((met : Int) + 1) T.length K.length out.length) nu lo on T K out
  have anu := tjR.anu N (obFi next a k ((met : Int) + 1) T.length K.length out.length) nu lo (onT next.length T) T K out
  have pnu := tjR.pnu N (obFi next a k ((met : Int) + 1) T.length K.length out.length) nu lo (onT next.length T) T K out (nu.set v (met + 1))
  obtain ⟨nu', hnu'⟩ : ∃ l, l = nu.set v (met + 1) := ⟨_, rfl⟩
  obtain ⟨lo', hlo'⟩ : ∃ l, l = lo.set v (met + 1) := ⟨_, rfl⟩
  obtain ⟨on', hon'⟩ : ∃ l, l = onT next.length (T ++ [v]) := ⟨_, rfl⟩
  have alo := tjR.alo N (obFi next a k ((met : Int) + 1) T.length K.length out.length) nu' lo (onT next.length T) T K out
  have plo := tjR.plo N (obFi next a k ((met : Int) + 1) T.length K.length out.length) nu' lo (onT next.length T) T K out (lo.set v (met + 1))
  have aon := tjR.aon N (obFi next a k ((met : Int) + 1) T.length K.length out.length) nu' lo' (onT next.length T) T K out
  have pon := tjR.pon N (obFi next a k ((met : Int) + 1) T.length K.length out.length) nu' lo' (onT next.length T) T K out on'
  have e3 := e1 nu
  have e4 := e1 lo
  rw [← hnu'] at e3 pnu
  rw [← hlo'] at e4 plo
  rw [← hon'] at e2
  have dr := fun (l : List Nat) (q : l.length = next.length) => nI_drop l (show v < l.length by omega)
  have ln := hn
  refine AW.seq fun _ k2 => AW.draw [] 24 [] Θ_ok mixed (by kernel_rfl) (by kernel_rfl) ?_
  simp [vcDraw, vcPre, vcTail, callA, isAlloc, isLoad, effOp, obl, obA, mkOK, valA, af, anu, pnu, alo, plo, aon, pon, e2, e3, e4, obTd_mk, obBk_mk, hv, hn, hl]
  refine ⟨hv, k2 _ ?_⟩
  clear e3 e4 plo pnu pon aon alo anu dr e2
  have e5 : (⟨List.take T.length (ints (nI T)) ++ [.int .i64 (v : Int)], 3, 1, true⟩ : Ob) = obTd (nI (T ++ [v])) true := by
    rw [nI_snoc]; exact obTd_snocK _ _ _ (by simp)
  have ast := tjR.ast N (obFi next a k ((met : Int) + 1) T.length K.length out.length) nu' lo' on' T K out
  have g1 := fun o' ho => tjR.gst N (obFi next a k ((met : Int) + 1) T.length K.length out.length) nu' lo' on' T K out (o' := o') ho (T ++ [v])
  refine AW.seq fun _ k2 => AW.region [] Θ_ok ?_
  simp [af, ast, appendA, e5]
  refine ⟨rfl, ⟨by omega, by omega⟩, fun o' ho => ?_⟩
  obtain ⟨g2, N1⟩ := g1 o' ho
  rw [g2]
  have af1 := tjR.af N1 (obFi next a k ((met : Int) + 1) T.length K.length out.length) nu' lo' on' (T ++ [v]) K out
  have p1 := tjR.pf N1 next a (obFi next a k ((met : Int) + 1) T.length K.length out.length) nu' lo' on' (T ++ [v]) K out ((met : Int) + 1) (T.length + 1) K.length out.length
  simp only at p1
  simp [af1, p1]
  refine k2 _ ?_
  clear af1 p1 g2 g1 ast af
  have af := tjR.af N1 (obFi next a { k with st := o', n1 := true } ((met : Int) + 1) (T.length + 1) K.length out.length) nu' lo' on' (T ++ [v]) K out
  have aca := tjR.aca N1 (obFi next a { k with st := o', n1 := true } ((met : Int) + 1) (T.length + 1) K.length out.length) nu' lo' on' (T ++ [v]) K out
  have g1 := fun o2 ho => tjR.gca N1 (obFi next a { k with st := o', n1 := true } ((met : Int) + 1) (T.length + 1) K.length out.length) nu' lo' on' (T ++ [v]) K out (o' := o2) ho (K ++ [(v, 0)])
  have e6 : (⟨List.take (K.length * 2) (prF K) ++ [.int .i64 (v : Int), .int .i64 0], 90, 2, true⟩ : Ob) = obVi (K ++ [(v, 0)]) true := by
    rw [prF_take, List.take_length, show (0 : Int) = ((0 : Nat) : Int) from rfl, prF_append K (v, 0)]; rfl
  have lK := prF_len K
  simp only at af aca g1
  refine AW.region [] Θ_ok ?_
  simp [af, aca, appendA, lK, Nat.mul_comm 2]
  refine ⟨rfl, ⟨by omega, by omega⟩, fun o2 ho2 => ?_⟩
  obtain ⟨g2, N2⟩ := g1 o2 ho2
  rw [e6, g2]
  have af2 := tjR.af N2 (obFi next a { k with st := o', n1 := true } ((met : Int) + 1) (T.length + 1) K.length out.length) nu' lo' on' (T ++ [v]) (K ++ [(v, 0)]) out
  have p2 := tjR.pf N2 next a (obFi next a { k with st := o', n1 := true } ((met : Int) + 1) (T.length + 1) K.length out.length) nu' lo' on' (T ++ [v]) (K ++ [(v, 0)]) out ((met : Int) + 1) (T.length + 1) (K.length + 1) out.length
  simp only at p2 af2
  simp [af2, p2]
  refine Fin.refl ⟨_, N2, rfl, ?_⟩
  simp only [TS.enter, hnu', hlo', hon', List.length_append, List.length_singleton]
  rfl
end Go.Par

set_option linter.unusedSimpArgs false
set_option linter.unusedVariables false
set_option maxRecDepth 8000
set_option maxHeartbeats 2000000
namespace Go.Par
open Go.Proofs

theorem fin_loops {H : Heap} {k : TN} {next : List (List Int)} {a : List Bool} {met : Int} {t c o : Nat} (hf : H k.f = some (obFi next a k met t c o)) (ok : BigOk next) (x : Nat) (p : List Nat) (hx : x < next.length) (hp : p.length ≤ 12000) :
    AC Try.prog 88 [.ptr k.f 0, .ro false (ints (nI (x :: p)))] H fun r h' => r = .bool (lpB (p.length + 1) next[x] x next[x].length) ∧ h' = H := by
  have hlr := ok.row _ (List.getElem_mem hx)
  have hrow := ok.lt _ (List.getElem_mem hx)
  refine AC.body Θ_ok Try.func88 rfl rfl (Nat.le_of_ble_eq_true rfl) ?_
  have e0 : nI (x :: p) = (x : Int) :: nI p := rfl
  rw [e0]
  refine AW.seq fun _ k1 => AW.region [] Θ_ok ?_
  simp
  refine k1 _ ?_
  refine AW.seq fun _ k2 => ?_
  refine AW.seq fun _ k3 => AW.region [] Θ_ok ?_
  simp
  refine k3 _ ?_
  by_cases hc : 1 < p.length + 1
  · have hc' : (1 : Int) < (p.length : Int) + 1 := by omega
    refine AW.cond true (by simp [Int.natCast_inj, hc']) (fun _ => ?_) (fun h => by cases h)
    refine AW.seq fun _ kr => AW.region [] Θ_ok ?_
    simp
    refine kr _ (AW.ret ?_)
    simp [Try.f88]
    exact Fin.refl ⟨by simp [lpB]; omega, rfl⟩
  · have hc' : ¬ (1 : Int) < (p.length : Int) + 1 := by omega
    obtain rfl : p = [] := List.length_eq_zero_iff.1 (by omega)
    refine AW.cond false (by simp [Int.natCast_inj, hc']) (fun h => by cases h) (fun _ => ?_)
    refine AW.skip ?_
    simp
    refine k2 _ ?_
    refine AW.seq fun _ k4 => ?_
    refine AW.seq fun _ k5 => AW.draw [] 11 [] Θ_ok mixed (by kernel_rfl) (by kernel_rfl) ?_
    simp [vcDraw, vcPre, vcTail, callA, isAlloc, isLoad, effOp, obl, obA, mkOK, valA, hf, hx]
    refine k5 _ ?_
    refine AW.block ?_
    refine AW.loopI (X := Nat) (fun y => y ≤ next[x].length ∧ lpB 1 next[x] x y = false) (fun y => ⟨30, [(1, .ro false (ints [(x : Int)])), (18, .ro false (ints next[x])), (19, .int .i64 next[x].length), (20, .int .i64 y)], H⟩) (fun y => next[x].length - y) 0 ⟨Nat.zero_le _, by rw [lpB_zero]; simp⟩ (GStep.eq (by simp [nI]) (subH.refl _)) fun y hy => ?_
    obtain ⟨hy, hno⟩ := hy
    refine AW.seq fun _ k6 => AW.region [] Θ_ok ?_
    simp
    refine k6 _ ?_
    by_cases hlt : y < next[x].length
    · have inc := wrap_succ (show y < 9223372036854775807 by omega)
      have st := lpB_step 1 next[x] x hlt
      obtain ⟨w, hw⟩ := Int.eq_ofNat_of_zero_le (hrow _ (List.getElem_mem hlt)).1
      rw [hno, Bool.false_or, hw] at st
      refine AW.seq fun _ k7 => AW.cond true (by simp [Int.natCast_inj, hlt]) (fun _ => ?_) (fun h => by cases h)
      refine AW.skip ?_
      simp
      refine k7 _ ?_
      refine AW.seq fun _ k8 => ?_
      refine AW.block ?_
      refine AW.seq fun _ k9 => AW.region [] Θ_ok ?_
      simp [hlt, hw]
      refine k9 _ ?_
      refine AW.seq fun _ k10 => AW.region [] Θ_ok ?_
      simp
      refine k10 _ ?_
      by_cases hc : (w : Int) = (x : Int)
      · refine AW.cond true (by simp [Int.natCast_inj, hc]) (fun _ => ?_) (fun h => by cases h)
        refine AW.seq fun _ kr => AW.region [] Θ_ok ?_
        simp
        refine kr _ (AW.ret ?_)
        simp [Try.f88]
        refine Fin.refl ⟨?_, rfl⟩
        rw [eq_comm]
        simp only [AV.bool.injEq]
        refine (lpB_all 1 next[x] x).2 (.inr ?_)
        rw [← hc, ← hw]; exact List.getElem_mem hlt
      · refine AW.cond false (by simp [Int.natCast_inj, hc]) (fun h => by cases h) (fun _ => ?_)
        refine AW.skip ?_
        simp
        refine k8 _ ?_
        refine AW.region [] Θ_ok ?_
        simp
        exact ⟨y + 1, ⟨hlt, by rw [st]; simpa using hc⟩, by omega, GStep.eq (by simp [inc]) (subH.refl _)⟩
    · obtain rfl : y = next[x].length := by omega
      refine AW.seq fun _ k7 => AW.cond false (by simp [Int.natCast_inj]) (fun h => by cases h) (fun _ => ?_)
      refine AW.exit ?_
      simp
      refine k4 _ ?_
      refine AW.seq fun _ kr => AW.region [] Θ_ok ?_
      simp
      refine kr _ (AW.ret ?_)
      simp [Try.f88]
      exact Fin.refl ⟨by rw [hno], rfl⟩
end Go.Par

set_option linter.unusedSimpArgs false
set_option linter.unusedVariables false
set_option maxRecDepth 8000
set_option maxHeartbeats 2000000
namespace Go.Par
open Go.Proofs

/-- The low number of the one ahead is told lower. -/
def lowUp (lo : List Nat) (K0 : List (Nat × Nat)) (v : Nat) : List Nat := match K0.getLast? with
  | none => lo
  | some p => lo.set p.1 (min (nuF lo p.1) (nuF lo v))
theorem lowUp_nil (lo : List Nat) (v : Nat) : lowUp lo [] v = lo := rfl
theorem lowUp_snoc (lo : List Nat) (K1 : List (Nat × Nat)) (p : Nat × Nat) (v : Nat) : lowUp lo (K1 ++ [p]) v = lo.set p.1 (min (nuF lo p.1) (nuF lo v)) := by simp [lowUp]
@[simp] theorem lowUp_len (lo : List Nat) (K0 : List (Nat × Nat)) (v : Nat) : (lowUp lo K0 v).length = lo.length := by unfold lowUp; split <;> simp
theorem lowUp_at (lo : List Nat) (K0 : List (Nat × Nat)) (v : Nat) (h : ∀ p ∈ K0, p.1 ≠ v) : nuF (lowUp lo K0 v) v = nuF lo v := by
  rcases List.eq_nil_or_concat K0 with rfl | ⟨K1, p, e⟩
  · rfl
  · rw [List.concat_eq_append] at e; subst e
    rw [lowUp_snoc]
    have := h p (by simp)
    simp only [nuF, List.getD_eq_getElem?_getD]
    rw [List.getElem?_set_ne this]
theorem if_min (x y : Nat) : (if y < x then (y : Int) else (x : Int)) = ((min x y : Nat) : Int) := by split <;> omega

structure LvX where
  T2 : List Nat
  rest : List Nat
  o : Nat
  nn : Bool

def tjP (h : Heap) (o : Nat) (p : List Nat) (nn : Bool) (k : TN) (F : Ob) (nu lo : List Nat) (on : List Bool) (T : List Nat) (K : List (Nat × Nat)) (out : List (List Int)) : Heap := upd (tjR h k F nu lo on T K out) o (some (obTd (nI p) nn))
section
variable {h : Heap} {k : TN} {o : Nat} (N : HN h [o, k.f, k.nu, k.lo, k.on, k.st, k.ca, k.ou]) (p : List Nat) (nn : Bool) (next : List (List Int)) (a : List Bool) (F : Ob) (nu lo : List Nat) (on : List Bool) (T : List Nat) (K : List (Nat × Nat)) (out : List (List Int))
include N
omit N in
theorem tjP.ao : tjP h o p nn k F nu lo on T K out o = some (obTd (nI p) nn) := upd_same _ _ _
theorem tjP.af : tjP h o p nn k F nu lo on T K out k.f = some F := HL.at (l := (o, obTd (nI p) nn) :: _) (k := 1) N.nd rfl
theorem tjP.aon : tjP h o p nn k F nu lo on T K out k.on = some (obBk on) := HL.at (l := (o, obTd (nI p) nn) :: _) (k := 4) N.nd rfl
theorem tjP.ast : tjP h o p nn k F nu lo on T K out k.st = some (obTd (nI T) k.n1) := HL.at (l := (o, obTd (nI p) nn) :: _) (k := 5) N.nd rfl
theorem tjP.pf (m : Int) (t c ol : Nat) : upd (tjP h o p nn k F nu lo on T K out) k.f (some ⟨[.ro false (rows next), .ro false (bools a), .mu k.nu next.length, .mu k.lo next.length, .mu k.on next.length, .int .i64 m, .mu k.st t, .mu k.ca c, .mu k.ou ol], 74, 9, true⟩) = tjP h o p nn k (obFi next a k m t c ol) nu lo on T K out := HL.put (l := (o, obTd (nI p) nn) :: _) (k := 1) N.nd rfl
theorem tjP.pon (l : List Bool) : upd (tjP h o p nn k F nu lo on T K out) k.on (some (obBk l)) = tjP h o p nn k F nu lo l T K out := HL.put (l := (o, obTd (nI p) nn) :: _) (k := 4) N.nd rfl
theorem tjP.pst (l : List Nat) : upd (tjP h o p nn k F nu lo on T K out) k.st (some (obTd (nI l) k.n1)) = tjP h o p nn k F nu lo on l K out := HL.put (l := (o, obTd (nI p) nn) :: _) (k := 5) N.nd rfl
theorem tjP.go {o' : Nat} (ho : tjP h o p nn k F nu lo on T K out o' = none) (p' : List Nat) : upd (upd (tjP h o p nn k F nu lo on T K out) o none) o' (some (obTd (nI p') true)) = tjP h o' p' true k F nu lo on T K out ∧ HN h [o', k.f, k.nu, k.lo, k.on, k.st, k.ca, k.ou] :=
  HL.ren (h0 := h) (A' := obTd (nI p') true) (l := [(o, obTd (nI p) nn), (k.f, F), (k.nu, obTd (nI nu) true), (k.lo, obTd (nI lo) true), (k.on, obBk on), (k.st, obTd (nI T) k.n1), (k.ca, obVi K k.n2), (k.ou, obRo out k.n3)]) (k := 0) N rfl ho
theorem tjP.del : upd (tjP h o p nn k F nu lo on T K out) o none = tjR h k F nu lo on T K out :=
  HL.del (h0 := h) (l := [(o, obTd (nI p) nn), (k.f, F), (k.nu, obTd (nI nu) true), (k.lo, obTd (nI lo) true), (k.on, obBk on), (k.st, obTd (nI T) k.n1), (k.ca, obVi K k.n2), (k.ou, obRo out k.n3)]) (k := 0) N rfl
end
theorem tjN.of {h : Heap} {k : TN} {o : Nat} (N : HN h [o, k.f, k.nu, k.lo, k.on, k.st, k.ca, k.ou]) : tjN h k := HN.del N 0

/-- What is left behind. -/
structure LvR (next : List (List Int)) (a : List Bool) (h : Heap) (k : TN) (s : TS) (K0 : List (Nat × Nat)) (h' : Heap) : Prop where
  ex : ∃ k' s' out', tjN h k' ∧ k'.f = k.f ∧ h' = tjH h next a k' s' (out'.map nI) ∧ TI next a noEx s' ∧ TO next a s' out' ∧ s'.K = K0 ∧ s'.num = s.num ∧ s'.met = s.met

theorem fin_leave {h : Heap} {k : TN} (N : tjN h k) {next : List (List Int)} (ok : BigOk next) (a : List Bool) (s : TS) (out : List (List Nat)) {K0 : List (Nat × Nat)} {v i : Nat} (I : TI next a noEx s) (O : TO next a s out) (hK : s.K = K0 ++ [(v, i)]) (hi : i = (next.getD v []).length)
    (hT : s.T.length ≤ 12000) (hK1 : s.K.length ≤ 12000) (hO : out.length ≤ 12000) :
    AC Try.prog 76 [.ptr k.f 0, .int .i64 v] (tjH h next a k s (out.map nI)) fun _ h' => LvR next a h k s K0 h' := by
  obtain ⟨vT, q1, q2, q3⟩ := I.k0 hK
  obtain ⟨hv, _⟩ := I.dS v (I.tS v vT)
  have lK : s.K.length = K0.length + 1 := by rw [hK]; simp
  obtain ⟨U, hU⟩ : ∃ U, U = out.map nI := ⟨_, rfl⟩
  have lU : U.length ≤ 12000 := by rw [hU]; simpa using hO
  rw [← hU]
  obtain ⟨nu, lo, met, T, K⟩ := s
  simp only at vT q1 q2 q3 lK hK hT hK1
  subst hK
  refine AC.body Θ_ok Try.func76 rfl rfl (Nat.le_of_ble_eq_true rfl) ?_
  unfold tjH
  have af := tjR.af N (obFi next a k met T.length (K0 ++ [(v, i)]).length U.length) nu lo (onT next.length T) T (K0 ++ [(v, i)]) U
  have pf := tjR.pf N next a (obFi next a k met T.length (K0 ++ [(v, i)]).length U.length) nu lo (onT next.length T) T (K0 ++ [(v, i)]) U met T.length K0.length U.length
  have w1 : IntKind.i64.wrap (((K0 ++ [(v, i)]).length : Int) - 1) = (K0.length : Int) := by rw [lK, show (((K0.length + 1 : Nat) : Int) - 1) = ((K0.length : Nat) : Int) by omega]; exact wrap_nat (by omega)
  have hK0 : K0.length ≤ (K0 ++ [(v, i)]).length := by omega
  obtain ⟨kl, hkl⟩ : ∃ kl, kl = (K0 ++ [(v, i)]).length := ⟨_, rfl⟩
  simp only
  rw [← hkl] at af pf w1 hK0 ⊢
  refine AW.seq fun _ k1 => AW.draw [] 14 [] Θ_ok mixed (by kernel_rfl) (by kernel_rfl) ?_
  simp [vcDraw, vcPre, vcTail, callA, isAlloc, isLoad, effOp, obl, obA, mkOK, valA, af, w1, hK0, pf]
  refine ⟨by omega, k1 _ ?_⟩
  have aca := tjR.aca N (obFi next a k met T.length K0.length U.length) nu lo (onT next.length T) T (K0 ++ [(v, i)]) U
  refine AW.ghost (GStep.trunc aca (K0.length * 2)) ?_
  have e1 : (⟨(obVi (K0 ++ [(v, i)]) k.n2).cells.take (K0.length * 2), (obVi (K0 ++ [(v, i)]) k.n2).ty, (obVi (K0 ++ [(v, i)]) k.n2).sz, (obVi (K0 ++ [(v, i)]) k.n2).nn⟩ : Ob) = obVi K0 k.n2 := by
    simp [obVi, prF_take]
  rw [e1, tjR.pca N]
  simp only
  clear e1 aca af pf w1 hK0
  refine AW.seqTo ⟨128, [(0, .ptr k.f 0), (1, .int .i64 v)], tjR h k (obFi next a k met T.length K0.length U.length) nu (lowUp lo K0 v) (onT next.length T) T K0 U⟩ (fun _ k2 => ?_) ?_
  · have af := tjR.af N (obFi next a k met T.length K0.length U.length) nu lo (onT next.length T) T K0 U
    refine AW.seq fun _ k3 => AW.region [] Θ_ok ?_
    simp [af]
    refine k3 _ ?_
    rcases List.eq_nil_or_concat K0 with rfl | ⟨K1, p, e⟩
    · refine AW.cond false (by simp [Int.natCast_inj]) (fun h => by cases h) (fun _ => ?_)
      refine AW.skip ?_
      simp
      refine k2 _ ?_
      rw [lowUp_nil]
      exact GStep.eq (by simp) (subH.refl _)
    · rw [List.concat_eq_append] at e
      subst e
      have hlen : (0 : Int) < (((K1 ++ [p]).length : Nat) : Int) := by simp
      refine AW.cond true (by simp [Int.natCast_inj, hlen]) (fun _ => ?_) (fun h => by cases h)
      have hp := (I.dS p.1 (I.tS p.1 (I.kin p (q1 p (by simp))))).1
      have pv : p.1 ≠ v := fun e => by have := q2 p (by simp); rw [e] at this; omega
      have aca := tjR.aca N (obFi next a k met T.length (K1 ++ [p]).length U.length) nu lo (onT next.length T) T (K1 ++ [p]) U
      have w1 : IntKind.i64.wrap (((K1 ++ [p]).length : Int) - 1) = (K1.length : Int) := by
        rw [show (((K1 ++ [p]).length : Int) - 1) = ((K1.length : Nat) : Int) by simp]; exact wrap_nat (by simp at hK1; omega)
      have dK : List.drop (K1.length * 2) (prF (K1 ++ [p])) = [.int .i64 (p.1 : Int), .int .i64 (p.2 : Int)] := by
        rw [prF_drop _ _ (by simp)]; simp [pat, prF]
      have hK2 : K1.length < (K1 ++ [p]).length := by simp
      obtain ⟨kl, hkl⟩ : ∃ kl, kl = (K1 ++ [p]).length := ⟨_, rfl⟩
      have aK := prF_len (K1 ++ [p])
      have hT1 := hT
      have hkl' : K1.length + 1 = kl := by rw [hkl]; simp
      rw [← hkl] at af aca w1 hK2 aK
      simp only [← hkl]
      refine AW.seq fun _ k4 => AW.draw [] 14 [] Θ_ok mixed (by kernel_rfl) (by kernel_rfl) ?_
      simp [vcDraw, vcPre, vcTail, callA, isAlloc, isLoad, effOp, obl, obA, mkOK, valA, af, w1, hK2, aca, dK, aK]
      refine k4 _ ?_
      have hp' : p.1 < lo.length := by rw [I.ll]; exact hp
      have hv' : v < lo.length := by rw [I.ll]; exact hv
      obtain ⟨r1, d1⟩ := nI_drop lo hp'
      obtain ⟨r2, d2⟩ := nI_drop lo hv'
      have alo := tjR.alo N (obFi next a k met T.length kl U.length) nu lo (onT next.length T) T (K1 ++ [p]) U
      have plo := tjR.plo N (obFi next a k met T.length kl U.length) nu lo (onT next.length T) T (K1 ++ [p]) U (lo.set p.1 (min (nuF lo p.1) (nuF lo v)))
      have e3 : (ints (nI lo)).set p.1 (.int .i64 (if nuF lo v < nuF lo p.1 then ((nuF lo v : Nat) : Int) else ((nuF lo p.1 : Nat) : Int))) = ints (nI (lo.set p.1 (min (nuF lo p.1) (nuF lo v)))) := by
        rw [mapi_set, ← nI_set, if_min]
      rw [lowUp_snoc] at k2
      obtain ⟨lo', hlo'⟩ : ∃ l, l = lo.set p.1 (min (nuF lo p.1) (nuF lo v)) := ⟨_, rfl⟩
      rw [← hlo'] at plo e3 k2
      obtain ⟨x1, hx1⟩ : ∃ x, x = nuF lo p.1 := ⟨_, rfl⟩
      obtain ⟨x2, hx2⟩ : ∃ x, x = nuF lo v := ⟨_, rfl⟩
      rw [← hx1] at d1 e3
      rw [← hx2] at d2 e3
      refine AW.draw [] 21 [] Θ_ok mixed (by kernel_rfl) (by kernel_rfl) ?_
      simp [vcDraw, vcPre, vcTail, callA, isAlloc, isLoad, effOp, obl, obA, mkOK, valA, af, alo, hp, hv, d1, d2, e3, plo, obTd_mk]
      refine ⟨hp', k2 _ ?_⟩
      subst hkl
      exact GStep.eq (by simp) (subH.refl _)
  · have lne : ∀ p ∈ K0, p.1 ≠ v := fun p hp e => by have := q2 p hp; rw [e] at this; omega
    have l1 : (lowUp lo K0 v).length = next.length := by rw [lowUp_len]; exact I.ll
    have l2 := lowUp_at lo K0 v lne
    have hpop : ¬ nuF lo v < nuF nu v → lowUp lo K0 v = lo ∧ ∃ T1 T2, T = T1 ++ v :: T2 ∧ TI next a noEx ⟨nu, lo, met, T1, K0⟩ ∧ ∀ u, u ∈ v :: T2 ↔ Same (kE next) (kS next a) u v := fun hlt => by
      obtain ⟨T1, T2, h1, h2, h3, h4⟩ := I.pop rfl hi hlt
      refine ⟨?_, T1, T2, h1, h3, h4⟩
      rcases List.eq_nil_or_concat K0 with rfl | ⟨K1, p, e⟩
      · rfl
      · rw [List.concat_eq_append] at e; subst e
        rw [lowUp_snoc, show min (nuF lo p.1) (nuF lo v) = nuF lo p.1 from h2 p (by simp)]
        have hp := (I.dS p.1 (I.tS p.1 (I.kin p (q1 p (by simp))))).1
        have hl : p.1 < lo.length := by rw [I.ll]; exact hp
        simp [nuF, hl]
    have hstay : nuF lo v < nuF nu v → TI next a noEx ⟨nu, lowUp lo K0 v, met, T, K0⟩ := fun hlt => by
      obtain ⟨K1, p, e, h1, h2⟩ := I.stay rfl hi hlt
      subst e
      rw [lowUp_snoc]; exact h2
    have lnu : nu.length = next.length := I.ln
    obtain ⟨lo1, hlo1⟩ : ∃ l, l = lowUp lo K0 v := ⟨_, rfl⟩
    rw [← hlo1] at l1 l2 hpop hstay ⊢
    obtain ⟨r1, d1⟩ := nI_drop lo1 (show v < lo1.length by omega)
    obtain ⟨r2, d2⟩ := nI_drop nu (show v < nu.length by omega)
    rw [l2] at d1
    have af := tjR.af N (obFi next a k met T.length K0.length U.length) nu lo1 (onT next.length T) T K0 U
    have anu := tjR.anu N (obFi next a k met T.length K0.length U.length) nu lo1 (onT next.length T) T K0 U
    have alo := tjR.alo N (obFi next a k met T.length K0.length U.length) nu lo1 (onT next.length T) T K0 U
    obtain ⟨x1, hx1⟩ : ∃ x, x = nuF lo v := ⟨_, rfl⟩
    obtain ⟨x2, hx2⟩ : ∃ x, x = nuF nu v := ⟨_, rfl⟩
    rw [← hx1] at d1 hpop hstay
    rw [← hx2] at d2 hpop hstay
    refine AW.seq fun _ k5 => ?_
    refine AW.seq fun _ k6 => AW.draw [] 15 [] Θ_ok mixed (by kernel_rfl) (by kernel_rfl) ?_
    simp [vcDraw, vcPre, vcTail, callA, isAlloc, isLoad, effOp, obl, obA, mkOK, valA, af, anu, alo, d1, d2, hv]
    refine k6 _ ?_
    by_cases hlt : x1 < x2
    · refine AW.cond true (by simp [Int.natCast_inj, hlt]) (fun _ => ?_) (fun h => by cases h)
      refine AW.ret ?_
      simp [Try.f76]
      refine Fin.refl ⟨⟨k, ⟨nu, lo1, met, T, K0⟩, out, N, rfl, ?_, hstay hlt, O.same, rfl, rfl, rfl⟩⟩
      rw [← hU]; rfl
    · obtain ⟨elo, T1, T2, eT, Ip, hc⟩ := hpop hlt
      clear hpop hstay d1 d2 af anu alo hlo1 l1 l2 lne q1 q2 q3 lK
      subst elo
      refine AW.cond false (by simp [Int.natCast_inj, hlt]) (fun h => by cases h) (fun _ => ?_)
      refine AW.skip ?_
      simp
      refine k5 _ ?_
      refine AW.seq fun _ k5 => AW.region [] Θ_ok ?_
      simp
      refine k5 _ ?_
      refine AW.mine 5 3 1 rfl fun o ho => ?_
      simp only at ho ⊢
      have N0 : HN h [o, k.f, k.nu, k.lo, k.on, k.st, k.ca, k.ou] := HL.new (l := [(k.f, obFi next a k met T.length K0.length U.length), (k.nu, obTd (nI nu) true), (k.lo, obTd (nI lo1) true), (k.on, obBk (onT next.length T)), (k.st, obTd (nI T) k.n1), (k.ca, obVi K0 k.n2), (k.ou, obRo U k.n3)]) N ho
      rw [show upd (tjR h k (obFi next a k met T.length K0.length U.length) nu lo1 (onT next.length T) T K0 U) o (some ⟨[], 3, 1, false⟩) = tjP h o [] false k (obFi next a k met T.length K0.length U.length) nu lo1 (onT next.length T) T K0 U from rfl]
      have nd := I.nodup
      simp only at nd
      have nT : ∀ u ∈ T, u < next.length := fun u hu => (I.dS u (I.tS u hu)).1
      rw [eT] at nd hT nT
      refine AW.seq fun _ k8 => ?_
      refine AW.block ?_
      refine AW.loopI (X := LvX) (fun x => HN h [x.o, k.f, k.nu, k.lo, k.on, k.st, k.ca, k.ou] ∧ T2 = x.T2 ++ x.rest)
        (fun x => ⟨128, [(0, .ptr k.f 0), (1, .int .i64 v), (5, .mu x.o x.rest.length)], tjP h x.o x.rest.reverse x.nn k (obFi next a k met (T1 ++ v :: x.T2).length K0.length U.length) nu lo1 (onT next.length (T1 ++ v :: x.T2)) (T1 ++ v :: x.T2) K0 U⟩) (fun x => x.T2.length) ⟨T2, [], o, false⟩ ⟨N0, by simp⟩ (GStep.eq (by simp) (by rw [eT]; exact subH.refl _)) ?_
      clear N0 ho
      rintro ⟨T3, R, o, nn⟩ ⟨N, e3⟩
      simp only at N e3 ⊢
      refine AW.block ?_
      obtain ⟨L, w, eL⟩ : ∃ L w, T1 ++ v :: T3 = L ++ [w] := ⟨(T1 ++ v :: T3).dropLast, (T1 ++ v :: T3).getLast (by simp), (List.dropLast_concat_getLast (by simp)).symm⟩
      have nd3 : (L ++ [w]).Nodup := by
        rw [← eL]; exact nd.sublist (by rw [e3]; simp)
      have hwL : w ∉ L := fun q => by
        rw [List.nodup_append] at nd3
        exact nd3.2.2 w q w (by simp) rfl
      have hw : w < next.length := nT w (by
        have : w ∈ T1 ++ v :: T3 := by rw [eL]; simp
        rw [e3]; simp at this ⊢; rcases this with h1 | h1 | h1
        · exact .inl h1
        · exact .inr (.inl h1)
        · exact .inr (.inr (.inl h1)))
      have lL : L.length ≤ 12000 := by
        have h1 : (T1 ++ v :: T3).length = (L ++ [w]).length := by rw [eL]
        rw [e3] at hT; simp at h1 hT; omega
      have lR : R.length ≤ 12000 := by rw [e3] at hT; simp at hT; omega
      rw [eL]
      have af := tjP.af N R.reverse nn (obFi next a k met (L ++ [w]).length K0.length U.length) nu lo1 (onT next.length (L ++ [w])) (L ++ [w]) K0 U
      have ast := tjP.ast N R.reverse nn (obFi next a k met (L ++ [w]).length K0.length U.length) nu lo1 (onT next.length (L ++ [w])) (L ++ [w]) K0 U
      have w1 : IntKind.i64.wrap (((L ++ [w]).length : Int) - 1) = (L.length : Int) := by
        rw [show (((L ++ [w]).length : Int) - 1) = ((L.length : Nat) : Int) by simp]; exact wrap_nat (by omega)
      have dL : List.drop L.length (ints (nI (L ++ [w]))) = [.int .i64 (w : Int)] := by simp [nI, ints]
      have hk : L.length < (L ++ [w]).length := by simp
      have pf := tjP.pf N R.reverse nn next a (obFi next a k met (L ++ [w]).length K0.length U.length) nu lo1 (onT next.length (L ++ [w])) (L ++ [w]) K0 U met L.length K0.length U.length
      have lX := nI_len (L ++ [w])
      obtain ⟨kl, hkl⟩ : ∃ kl, kl = (L ++ [w]).length := ⟨_, rfl⟩
      rw [← hkl] at af ast w1 hk pf lX ⊢
      refine AW.seq fun _ k9 => AW.draw [] 13 [] Θ_ok mixed (by kernel_rfl) (by kernel_rfl) ?_
      simp [vcDraw, vcPre, vcTail, callA, isAlloc, isLoad, effOp, obl, obA, mkOK, valA, af, ast, w1, dL, hk]
      refine k9 _ ?_
      refine AW.seq fun _ k9 => AW.draw [] 14 [] Θ_ok mixed (by kernel_rfl) (by kernel_rfl) ?_
      simp [vcDraw, vcPre, vcTail, callA, isAlloc, isLoad, effOp, obl, obA, mkOK, valA, af, w1, Nat.le_of_lt hk, pf]
      refine ⟨by omega, k9 _ ?_⟩
      clear af ast pf w1
      have ast := tjP.ast N R.reverse nn (obFi next a k met L.length K0.length U.length) nu lo1 (onT next.length (L ++ [w])) (L ++ [w]) K0 U
      refine AW.ghost (GStep.trunc ast L.length) ?_
      have e4 : (⟨(obTd (nI (L ++ [w])) k.n1).cells.take L.length, (obTd (nI (L ++ [w])) k.n1).ty, (obTd (nI (L ++ [w])) k.n1).sz, (obTd (nI (L ++ [w])) k.n1).nn⟩ : Ob) = obTd (nI L) k.n1 := by simp [obTd, nI, ints]
      rw [e4, tjP.pst N]
      simp only
      clear e4 ast
      have af := tjP.af N R.reverse nn (obFi next a k met L.length K0.length U.length) nu lo1 (onT next.length (L ++ [w])) L K0 U
      have aon := tjP.aon N R.reverse nn (obFi next a k met L.length K0.length U.length) nu lo1 (onT next.length (L ++ [w])) L K0 U
      have pon := tjP.pon N R.reverse nn (obFi next a k met L.length K0.length U.length) nu lo1 (onT next.length (L ++ [w])) L K0 U (onT next.length L)
      have e4 := mapk_set (onT next.length (L ++ [w])) w false
      rw [onT_cut _ _ _ hwL] at e4
      have lon := onT_len next.length (L ++ [w])
      obtain ⟨on1, hon1⟩ : ∃ l, l = onT next.length (L ++ [w]) := ⟨_, rfl⟩
      rw [← hon1] at af aon pon e4 lon ⊢
      obtain ⟨on2, hon2⟩ : ∃ l, l = onT next.length L := ⟨_, rfl⟩
      rw [← hon2] at pon e4
      refine AW.seq fun _ k9 => AW.region [] Θ_ok ?_
      simp [af, aon, e4, obBk_mk, pon, hw, lon]
      refine ⟨by omega, k9 _ ?_⟩
      clear af aon pon e4
      have ao := tjP.ao R.reverse nn (k := k) (o := o) (h := h) (obFi next a k met L.length K0.length U.length) nu lo1 on2 L K0 U
      have g1 := fun o2 ho => tjP.go N R.reverse nn (obFi next a k met L.length K0.length U.length) nu lo1 on2 L K0 U (o' := o2) ho (R.reverse ++ [w])
      have e5 : (⟨List.take R.length (ints (nI R.reverse)) ++ [.int .i64 (w : Int)], 3, 1, true⟩ : Ob) = obTd (nI (R.reverse ++ [w])) true := by
        rw [nI_snoc]; exact obTd_snocK _ _ _ (by simp)
      refine AW.seq fun _ k9 => AW.region [] Θ_ok ?_
      simp [ao, appendA, e5]
      refine ⟨rfl, ⟨by omega, by omega⟩, fun o' ho => k9 _ ?_⟩
      obtain ⟨g2, N1⟩ := g1 o' ho
      rw [g2]
      refine AW.seq fun _ k9 => AW.region [] Θ_ok ?_
      simp
      refine k9 _ ?_
      rcases List.eq_nil_or_concat T3 with rfl | ⟨L', w', e⟩
      · obtain ⟨rfl, e6⟩ := List.append_inj' eL rfl
        obtain rfl : v = w := by simpa using e6
        have e7 : R = T2 := by rw [e3]; rfl
        subst e7
        refine AW.cond true (by simp [Int.natCast_inj]) (fun _ => ?_) (fun h => by cases h)
        refine AW.exit ?_
        simp
        refine k8 _ ?_
        have ao := tjP.ao (R.reverse ++ [v]) true (k := k) (o := o') (h := h) (obFi next a k met T1.length K0.length U.length) nu lo1 on2 T1 K0 U
        refine AW.freeze 5 (n := R.length + 1) false rfl ao (fun e => by cases e) rfl (by simp) (fun u hu => by obtain ⟨z, _, rfl⟩ := List.mem_map.1 hu; rfl) ?_
        simp only
        rw [tjP.del N1]
        have N2 := tjN.of N1
        clear ao N1 N g1 g2 e5 dL hk eL nd3 hwL
        have memP : ∀ u, u ∈ R.reverse ++ [v] ↔ u ∈ v :: R := fun u => by simp [or_comm]
        have ndP : (R.reverse ++ [v]).Nodup := by
          have := (List.nodup_append.1 nd).2.1
          rw [show R.reverse ++ [v] = (v :: R).reverse by simp]
          exact (List.reverse_perm _).nodup_iff.2 this
        obtain ⟨x, p, hp⟩ : ∃ x p, R.reverse ++ [v] = x :: p := by
          cases hh : R.reverse ++ [v] with
          | nil => simp at hh
          | cons x p => exact ⟨x, p, rfl⟩
        have hxm : x ∈ v :: R := (memP x).1 (by rw [hp]; simp)
        have hx : x < next.length := nT x (by simp at hxm ⊢; exact .inr hxm)
        have lp : p.length + 1 = (R.reverse ++ [v]).length := by rw [hp]; simp
        have hSP : ∀ u ∈ R.reverse ++ [v], kS next a u := fun u hu => I.dS u (I.tS u (by
          have := (memP u).1 hu
          simp only at *; rw [eT]; exact List.mem_append_right _ this))
        have hb := loop_iff ndP (fun u => (memP u).trans (hc u)) (w := x) (by rw [hp]; simp) hSP
        rw [← lp] at hb
        have hb2 := lpB_all (p.length + 1) next[x] x
        have hE : kE next x x ↔ (x : Int) ∈ next[x] := by unfold kE; simp [hx]
        rw [hE, ← hb2] at hb
        have af := tjR.af N2 (obFi next a k met T1.length K0.length U.length) nu lo1 on2 T1 K0 U
        have sL := fin_loops af ok x p hx (by simp at lp; omega)
        have O' := O.pop (low := lo1) (met := met) (K0 := K0) eT I.tS I.nodup hc hb.symm
        rw [show (v :: R).reverse = R.reverse ++ [v] by simp] at O'
        rw [show (obTd (nI (R.reverse ++ [v])) true).cells = ints (nI (x :: p)) by rw [hp]; rfl]
        rw [hp] at O'
        generalize lpB (p.length + 1) next[x] x next[x].length = b at *
        subst hon2
        refine AW.seq fun _ k9 => AW.region [] Θ_ok ?_
        simp
        refine sL.mono ?_
        rintro r h' ⟨rfl, rfl⟩
        try simp
        refine k9 _ ?_
        cases b with
        | false =>
          refine AW.cond false (by simp [Int.natCast_inj]) (fun h => by cases h) (fun _ => ?_)
          refine AW.skip ?_
          simp [Try.f76]
          refine Fin.refl ⟨⟨k, ⟨nu, lo1, met, T1, K0⟩, out, N2, rfl, ?_, Ip, O', rfl, rfl, rfl⟩⟩
          rw [← hU]; rfl
        | true =>
          have aou := tjR.aou N2 (obFi next a k met T1.length K0.length U.length) nu lo1 (onT next.length T1) T1 K0 U
          have g1 := fun o2 ho => tjR.gou N2 (obFi next a k met T1.length K0.length U.length) nu lo1 (onT next.length T1) T1 K0 U (o' := o2) ho (U ++ [nI (x :: p)])
          have e5 : (⟨List.take U.length (rows U) ++ [.ro false (ints (nI (x :: p)))], 28, 1, true⟩ : Ob) = obRo (U ++ [nI (x :: p)]) true := by
            rw [List.take_of_length_le (by simp)]; simp [obRo, rows]
          refine AW.cond true (by simp [Int.natCast_inj]) (fun _ => ?_) (fun h => by cases h)
          refine AW.region [] Θ_ok ?_
          simp [af, aou, appendA]
          refine ⟨rfl, ⟨by omega, by omega⟩, fun o2 ho2 => ?_⟩
          obtain ⟨g2, N3⟩ := g1 o2 ho2
          rw [e5, g2]
          have af2 := tjR.af N3 (obFi next a k met T1.length K0.length U.length) nu lo1 (onT next.length T1) T1 K0 (U ++ [nI (x :: p)])
          have p2 := tjR.pf N3 next a (obFi next a k met T1.length K0.length U.length) nu lo1 (onT next.length T1) T1 K0 (U ++ [nI (x :: p)]) met T1.length K0.length (U.length + 1)
          simp only at p2 af2
          simp [af2, p2]
          refine Fin.refl ⟨⟨_, ⟨nu, lo1, met, T1, K0⟩, out ++ [x :: p], N3, rfl, ?_, Ip, O', rfl, rfl, rfl⟩⟩
          unfold tjH
          rw [hU]
          simp
      · rw [List.concat_eq_append] at e
        subst e
        have e8 : L = T1 ++ v :: L' ∧ w = w' := by
          have : (T1 ++ v :: L') ++ [w'] = L ++ [w] := by rw [← eL]; simp
          obtain ⟨h1, h2⟩ := List.append_inj' this rfl
          simp at h2
          exact ⟨h1.symm, h2.symm⟩
        obtain ⟨rfl, rfl⟩ := e8
        have hne : ¬ (w : Int) = (v : Int) := fun e => hwL (by rw [show w = v by omega]; simp)
        refine AW.cond false (by simp [Int.natCast_inj, hne]) (fun h => by cases h) (fun _ => ?_)
        refine AW.skip ?_
        simp
        subst hon2
        refine ⟨⟨L', w :: R, o', true⟩, ⟨N1, by rw [e3]; simp⟩, by simp, GStep.eq (by simp) ?_⟩
        rw [List.reverse_cons]
        exact subH.refl _
end Go.Par

set_option linter.unusedSimpArgs false
set_option linter.unusedVariables false
set_option maxRecDepth 8000
set_option maxHeartbeats 2000000
namespace Go.Par
open Go.Proofs

def visB (num : List Nat) : List Bool := num.map fun x => decide (x ≠ 0)
@[simp] theorem visB_len (num : List Nat) : (visB num).length = num.length := by simp [visB]
theorem visB_set (num : List Nat) (v x : Nat) (h : x ≠ 0) : visB (num.set v x) = (visB num).set v true := by simp [visB, List.map_set, h]
theorem visB_at (num : List Nat) (v : Nat) : (visB num).getD v false = decide (0 < nuF num v) := by
  simp only [visB, nuF, List.getD_eq_getElem?_getD, List.getElem?_map]
  cases num[v]? with
  | none => rfl
  | some x => simp [Nat.pos_iff_ne_zero]
def tjM (next : List (List Int)) (s : TS) : Nat := leftU next (visB s.num) + leftK next s.K
/-- How many are met. -/
def TM (s : TS) : Prop := s.met + (visB s.num).count false = s.num.length

section
variable {next : List (List Int)} {a : List Bool} {s : TS} {out : List (List Nat)} {ex : Nat → Nat → Prop}
theorem TM.enter (M : TM s) {v : Nat} (hv : v < s.num.length) (h0 : nuF s.num v = 0) : TM (s.enter v) := by
  have e := visB_set s.num v (s.met + 1) (by omega)
  have hv' : v < (visB s.num).length := by simpa using hv
  have hb : (visB s.num)[v] = false := by
    have := visB_at s.num v
    rw [h0] at this
    simpa [List.getD_eq_getElem?_getD, hv] using this
  have c := count_set (visB s.num) v hv' hb
  unfold TM at M ⊢
  show s.met + 1 + (visB (s.num.set v (s.met + 1))).count false = (s.num.set v (s.met + 1)).length
  rw [e, List.length_set]; omega
theorem TI.fewT (I : TI next a ex s) : s.T.length ≤ next.length := nodup_lt_len I.nodup fun x hx => (I.dS x (I.tS x hx)).1
theorem TI.fewK (I : TI next a ex s) : s.K.length ≤ next.length := by
  have := nodup_lt_len (n := next.length) (l := s.K.map Prod.fst) (by
    rw [List.Nodup, List.pairwise_map]
    exact I.kinc.imp fun {x y} h e => by rw [e] at h; omega) (fun x hx => by
    obtain ⟨p, hp, rfl⟩ := List.mem_map.1 hx
    exact (I.dS p.1 (I.tS p.1 (I.kin p hp))).1)
  simpa using this
theorem flat_few : ∀ (out : List (List Nat)), (∀ p ∈ out, p ≠ []) → out.length ≤ out.flatten.length
  | [], _ => Nat.le_refl _
  | p :: l, h => by
    have := flat_few l fun q hq => h q (by simp [hq])
    have hp := List.length_pos_iff.2 (h p (by simp))
    simp only [List.length_cons, List.flatten_cons, List.length_append]; omega
theorem TO.few (O : TO next a s out) (I : TI next a ex s) : out.length ≤ next.length := by
  refine Nat.le_trans (flat_few out fun p hp e => ?_) (nodup_lt_len O.nd fun x hx => (I.dS x (O.fin x hx).1).1)
  obtain ⟨r, _, h⟩ := O.comp p hp
  have := (h r).2 (.inl rfl)
  rw [e] at this; cases this
theorem tjM_enter {v : Nat} (hv : v < next.length) (hl : s.num.length = next.length) (h0 : nuF s.num v = 0) : tjM next (s.enter v) < tjM next s + 1 := by
  have e := visB_set s.num v (s.met + 1) (by omega)
  have hb : (visB s.num).getD v false = false := by rw [visB_at, h0]; rfl
  have h1 := leftU_set next (visB s.num) v hv (by simp; omega) hb
  have h2 := leftK_snoc next s.K (v, 0)
  have e2 : (next.getD v []) = next[v] := by simp [hv]
  simp only [e2] at h2
  unfold tjM
  show leftU next (visB (s.num.set v (s.met + 1))) + leftK next (s.K ++ [(v, 0)]) < _
  rw [e]; omega
end

/-- What a step leaves behind. -/
structure StR (next : List (List Int)) (a : List Bool) (h : Heap) (k : TN) (s : TS) (h' : Heap) : Prop where
  ex : ∃ k' s' out', tjN h k' ∧ k'.f = k.f ∧ h' = tjH h next a k' s' (out'.map nI) ∧ TI next a noEx s' ∧ TO next a s' out' ∧ TM s' ∧ tjM next s' < tjM next s ∧ ∀ u, 0 < nuF s.num u → 0 < nuF s'.num u

theorem fin_step {h : Heap} {k : TN} (N : tjN h k) {next : List (List Int)} (ok : BigOk next) {a : List Bool} (ha : a.length = next.length) (s : TS) (out : List (List Nat)) (I : TI next a noEx s) (O : TO next a s out) (M : TM s) (hne : s.K ≠ []) :
    AC Try.prog 55 [.ptr k.f 0] (tjH h next a k s (out.map nI)) fun _ h' => StR next a h k s h' := by
  have hT := I.fewT
  have hKl := I.fewK
  have hO := O.few I
  have hn := ok.len
  obtain ⟨K0, v, i, hK⟩ : ∃ K0 v i, s.K = K0 ++ [(v, i)] := ⟨s.K.dropLast, (s.K.getLast hne).1, (s.K.getLast hne).2, (List.dropLast_concat_getLast hne).symm⟩
  obtain ⟨vT, q1, q2, q3⟩ := I.k0 hK
  obtain ⟨hv, hva⟩ := I.dS v (I.tS v vT)
  have hi := I.kbd _ q3
  have hrow := ok.row _ (List.getElem_mem hv)
  have hlt := ok.lt _ (List.getElem_mem hv)
  have eg : next.getD v [] = next[v] := by simp [hv]
  simp only [eg] at hi
  have lK : s.K.length = K0.length + 1 := by rw [hK]; simp
  obtain ⟨U, hU⟩ : ∃ U, U = out.map nI := ⟨_, rfl⟩
  have lU : U.length ≤ 12000 := by rw [hU]; simp; omega
  refine AC.body Θ_ok Try.func55 rfl rfl (Nat.le_of_ble_eq_true rfl) ?_
  unfold tjH
  have af := tjR.af N (obFi next a k s.met s.T.length s.K.length U.length) s.num s.low (onT next.length s.T) s.T s.K U
  have aca := tjR.aca N (obFi next a k s.met s.T.length s.K.length U.length) s.num s.low (onT next.length s.T) s.T s.K U
  have w1 : IntKind.i64.wrap ((s.K.length : Int) - 1) = (K0.length : Int) := by rw [lK, show (((K0.length + 1 : Nat) : Int) - 1) = ((K0.length : Nat) : Int) by omega]; exact wrap_nat (by omega)
  have dK : List.drop (K0.length * 2) (prF s.K) = [.int .i64 (v : Int), .int .i64 (i : Int)] := by
    rw [hK, prF_drop _ _ (by simp)]; simp [pat, prF]
  have dK1 : List.drop (K0.length * 2 + 1) (prF s.K) = [.int .i64 (i : Int)] := by
    rw [hK, prF_drop1 _ _ (by simp)]; simp [pat, prF]
  have hk0 : K0.length < s.K.length := by omega
  have aK := prF_len s.K
  obtain ⟨kl, hkl⟩ : ∃ kl, kl = s.K.length := ⟨_, rfl⟩
  rw [← hU]
  rw [← hkl] at af aca w1 hk0 aK ⊢
  refine AW.seq fun _ k1 => AW.draw [] 12 [] Θ_ok mixed (by kernel_rfl) (by kernel_rfl) ?_
  simp [vcDraw, vcPre, vcTail, callA, isAlloc, isLoad, effOp, obl, obA, mkOK, valA, af, w1, hk0, aca]
  refine k1 _ ?_
  refine AW.seq fun _ k2 => ?_
  refine AW.seq fun _ k3 => AW.draw [] 16 [] Θ_ok mixed (by kernel_rfl) (by kernel_rfl) ?_
  simp [vcDraw, vcPre, vcTail, callA, isAlloc, isLoad, effOp, obl, obA, mkOK, valA, af, aca, dK, dK1, aK, hv]
  refine k3 _ ?_
  by_cases hc : i = next[v].length
  · have sL := fin_leave N ok a s out I O hK (by rw [eg]; exact hc) (by omega) (by omega) (by omega)
    unfold tjH at sL
    rw [← hU, ← hkl] at sL
    refine AW.cond true (by simp [Int.natCast_inj, hc]) (fun _ => ?_) (fun h => by cases h)
    refine AW.seq fun _ kr => AW.region [] Θ_ok ?_
    simp [aca, dK, aK]
    refine sL.mono ?_
    rintro r h' ⟨⟨k', s', out', N', e1, rfl, I', O', e3, e4, e5⟩⟩
    try simp
    refine kr _ (AW.ret ?_)
    simp [Try.f55]
    refine Fin.refl ⟨⟨k', s', out', N', e1, rfl, I', O', ?_, ?_, fun u hu => by rw [e4]; exact hu⟩⟩
    · unfold TM at M ⊢; rw [e4, e5]; exact M
    · unfold tjM
      rw [e4, e3, hK, leftK_snoc, eg]
      simp only; omega
  · have hil : i < next[v].length := by omega
    obtain ⟨h0w, hwn⟩ := hlt _ (List.getElem_mem hil)
    obtain ⟨w, hw⟩ := Int.eq_ofNat_of_zero_le h0w
    have hwl : w < next.length := by omega
    have hx : kX next v i = some w := by unfold kX; rw [eg]; simp [hil, hw]
    have hE := kX_E ok hv hx
    have inc := wrap_succ (show i < 9223372036854775807 by omega)
    have e1 : (prF s.K).set (K0.length * 2 + 1) (.int .i64 ((i : Int) + 1)) = prF (K0 ++ [(v, i + 1)]) := by
      rw [hK, ← prF_append, ← prF_append, List.set_append_right _ _ (by rw [prF_len]; omega), prF_len]
      rw [show K0.length * 2 + 1 - 2 * K0.length = 1 by omega]; simp
    have pca := tjR.pca N (obFi next a k s.met s.T.length kl U.length) s.num s.low (onT next.length s.T) s.T s.K U (K0 ++ [(v, i + 1)])
    rw [obVi] at pca
    refine AW.cond false (by simp [Int.natCast_inj, hc]) (fun h => by cases h) (fun _ => ?_)
    refine AW.skip ?_
    simp
    refine k2 _ ?_
    refine AW.seq fun _ k4 => AW.draw [] 17 [] Θ_ok mixed (by kernel_rfl) (by kernel_rfl) ?_
    simp [vcDraw, vcPre, vcTail, callA, isAlloc, isLoad, effOp, obl, obA, mkOK, valA, af, aca, dK, dK1, aK, hv, hil, hw]
    refine k4 _ ?_
    refine AW.seq fun _ k4 => AW.region [] Θ_ok ?_
    simp [aca, dK1, aK, inc, e1, pca]
    refine ⟨by omega, k4 _ ?_⟩
    have I1 := I.bump hK (by rw [eg]; exact hil) hx
    have O1 : TO next a { s with K := K0 ++ [(v, i + 1)] } out := O.same
    have M1 : TM { s with K := K0 ++ [(v, i + 1)] } := M
    have m1 : tjM next { s with K := K0 ++ [(v, i + 1)] } + 1 = tjM next s := by
      unfold tjM
      simp only
      rw [hK, leftK_snoc, leftK_snoc, eg]
      simp only; omega
    have lK1 : (K0 ++ [(v, i + 1)]).length = kl := by rw [hkl, lK]; simp
    have hwa : w < a.length := by omega
    have eS : kS next a w ↔ a[w] = true := by
      unfold kS hasN
      simp [hwl, hwa]
    obtain ⟨K1, hK1⟩ : ∃ K1, K1 = K0 ++ [(v, i + 1)] := ⟨_, rfl⟩
    rw [← hK1] at I1 O1 M1 m1 lK1 ⊢
    obtain ⟨nu, lo, met, T, K⟩ := s
    simp only at *
    subst hkl
    rw [← lK1]
    clear pca e1 af aca w1 dK dK1 hk0 aK lK
    have af := tjR.af N (obFi next a k met T.length K1.length U.length) nu lo (onT next.length T) T K1 U
    refine AW.block ?_
    refine AW.seq fun _ k6 => AW.region [] Θ_ok ?_
    simp [af, hwa]
    refine k6 _ ?_
    cases hb : a[w] with
    | false =>
      refine AW.cond true (by simp [Int.natCast_inj, hb]) (fun _ => ?_) (fun h => by cases h)
      refine AW.skip ?_
      simp [Try.f55]
      refine Fin.refl ⟨⟨k, ⟨nu, lo, met, T, K1⟩, out, N, rfl, by rw [← hU]; rfl, I1.skip (fun h => by rw [eS, hb] at h; cases h), O1, M1, by omega, fun _ h => h⟩⟩
    | true =>
      have hSw := eS.2 hb
      have lnu : nu.length = next.length := I.ln
      obtain ⟨r2, d2⟩ := nI_drop nu (show w < nu.length by omega)
      have anu := tjR.anu N (obFi next a k met T.length K1.length U.length) nu lo (onT next.length T) T K1 U
      obtain ⟨y2, hy2⟩ : ∃ x, x = nuF nu w := ⟨_, rfl⟩
      rw [← hy2] at d2
      refine AW.cond false (by simp [Int.natCast_inj, hb]) (fun h => by cases h) (fun _ => ?_)
      refine AW.seq fun _ k6 => AW.region [] Θ_ok ?_
      simp [af, anu, d2, hwl]
      refine k6 _ ?_
      by_cases h0 : y2 = 0
      · have h0' : nuF nu w = 0 := by omega
        have sE := fin_enter N next a ⟨nu, lo, met, T, K1⟩ U w hwl lnu I.ll (by
          have M1' : met + (visB nu).count false = nu.length := M1
          show met ≤ 12000; omega) (by show T.length ≤ 12000; omega) (by show K1.length ≤ 12000; omega)
        unfold tjH at sE
        refine AW.cond true (by simp [Int.natCast_inj, h0]) (fun _ => ?_) (fun h => by cases h)
        refine AW.region [] Θ_ok ?_
        simp
        refine sE.mono ?_
        rintro r h' ⟨k', N', e1, rfl⟩
        try simp [Try.f55]
        have Ie := I1.enter (v := w) (fun u y h => h.2) hSw h0' (fun p hp => by
          simp only at hp
          rw [hK1] at hp; simp at hp; rw [← hp]; exact hE)
        have Oe := O1.enter (v := w) (show w < nu.length by omega) h0'
        have Me := M1.enter (v := w) (show w < nu.length by omega) h0'
        have me := tjM_enter (s := ⟨nu, lo, met, T, K1⟩) hwl lnu h0'
        refine Fin.refl ⟨⟨k', _, out, N', e1, by rw [← hU]; rfl, Ie, Oe, Me, by omega, fun u hu => ?_⟩⟩
        have nu' : nuF (TS.enter ⟨nu, lo, met, T, K1⟩ w).num u = if u = w then met + 1 else nuF nu u := nuF_set _ _ _ _ (show w < nu.length by omega)
        rw [nu']
        split
        · omega
        · exact hu
      · have aon := tjR.aon N (obFi next a k met T.length K1.length U.length) nu lo (onT next.length T) T K1 U
        have lon := onT_len next.length T
        have eon : ∀ h, (onT next.length T)[w]'h = decide (w ∈ T) := fun h => onT_at h
        obtain ⟨on1, hon1⟩ : ∃ l, l = onT next.length T := ⟨_, rfl⟩
        rw [← hon1] at aon lon eon af anu
        have dk := mapk_drop on1 (show w < on1.length by omega)
        rw [eon] at dk
        have h0' : 0 < nuF nu w := by omega
        refine AW.cond false (by simp [Int.natCast_inj, h0]) (fun h => by cases h) (fun _ => ?_)
        rw [← hon1]
        refine AW.seq fun _ k6 => AW.region [] Θ_ok ?_
        simp [af, aon, dk, hwl, lon]
        refine k6 _ ?_
        by_cases hw2 : w ∈ T
        · have dK : List.drop (K0.length * 2) (prF K1) = [.int .i64 (v : Int), .int .i64 ((i + 1 : Nat) : Int)] := by
            rw [hK1, prF_drop _ _ (by simp)]; simp [pat, prF]
          have aK := prF_len K1
          have aca := tjR.aca N (obFi next a k met T.length K1.length U.length) nu lo on1 T K1 U
          have alo := tjR.alo N (obFi next a k met T.length K1.length U.length) nu lo on1 T K1 U
          have llo : lo.length = next.length := I.ll
          obtain ⟨r1, d1⟩ := nI_drop lo (show v < lo.length by omega)
          have plo := tjR.plo N (obFi next a k met T.length K1.length U.length) nu lo on1 T K1 U (lo.set v (min (nuF lo v) (nuF nu w)))
          have e3 : (ints (nI lo)).set v (.int .i64 (if nuF nu w < nuF lo v then ((nuF nu w : Nat) : Int) else ((nuF lo v : Nat) : Int))) = ints (nI (lo.set v (min (nuF lo v) (nuF nu w)))) := by
            rw [mapi_set, ← nI_set, if_min]
          have m1' : tjM next ⟨nu, lo.set v (min (nuF lo v) (nuF nu w)), met, T, K1⟩ < tjM next ⟨nu, lo, met, T, K⟩ := by
            have : tjM next ⟨nu, lo.set v (min (nuF lo v) (nuF nu w)), met, T, K1⟩ = tjM next ⟨nu, lo, met, T, K1⟩ := rfl
            omega
          have I2 := I1.lower ok (i := i + 1) (K0 := K0) hK1 hE hw2
          simp only at I2
          obtain ⟨lo2, hlo2⟩ : ∃ l, l = lo.set v (min (nuF lo v) (nuF nu w)) := ⟨_, rfl⟩
          rw [← hlo2] at plo e3 I2 m1'
          obtain ⟨x1, hx1⟩ : ∃ x, x = nuF lo v := ⟨_, rfl⟩
          rw [← hx1, ← hy2] at e3
          rw [← hx1] at d1
          have lk : K0.length < K1.length := by rw [hK1]; simp
          obtain ⟨kl, hkl⟩ : ∃ kl, kl = K1.length := ⟨_, rfl⟩
          rw [← hkl] at aca alo plo af anu aK lk ⊢
          refine AW.cond true (by simp [Int.natCast_inj, hw2]) (fun _ => ?_) (fun h => by cases h)
          refine AW.draw [] 27 [] Θ_ok mixed (by kernel_rfl) (by kernel_rfl) ?_
          simp [vcDraw, vcPre, vcTail, callA, isAlloc, isLoad, effOp, obl, obA, mkOK, valA, af, aca, alo, anu, dK, aK, d1, d2, hv, hwl, e3, plo, obTd_mk]
          refine ⟨by omega, Fin.refl ⟨⟨k, ⟨nu, lo2, met, T, K1⟩, out, N, rfl, by rw [← hU, hon1, hkl]; rfl, I2, O1.same, M1, m1' , fun _ h => h⟩⟩⟩
        · refine AW.cond false (by simp [Int.natCast_inj, hw2]) (fun h => by cases h) (fun _ => ?_)
          refine AW.skip ?_
          simp [Try.f55]
          refine Fin.refl ⟨⟨k, ⟨nu, lo, met, T, K1⟩, out, N, rfl, by rw [← hU, hon1]; rfl, I1.skip (fun h => ⟨h0', hw2⟩), O1, M1, by omega, fun _ h => h⟩⟩
end Go.Par

set_option linter.unusedSimpArgs false
set_option linter.unusedVariables false
set_option maxRecDepth 8000
set_option maxHeartbeats 2000000
namespace Go.Par
open Go.Proofs

def ts0 (n : Nat) : TS := ⟨List.replicate n 0, List.replicate n 0, 0, [], []⟩
theorem TM.init (n : Nat) : TM (ts0 n) := by
  unfold TM ts0 visB
  simp
theorem HN.perm {h : Heap} {l l' : List Nat} (p : l.Perm l') (N : HN h l) : HN h l' := ⟨p.nodup_iff.1 N.nd, fun o ho => N.free o (p.mem_iff.2 ho)⟩
theorem perm7 {α : Type} (a b c d e f g : α) : List.Perm [g, f, e, d, c, b, a] [d, a, b, c, e, f, g] := by
  have h1 : List.Perm [g, f, e, d, c, b, a] [a, b, c, d, e, f, g] := (List.reverse_perm [a, b, c, d, e, f, g])
  exact h1.trans (List.perm_middle (l₁ := [a, b, c]) (a := d) (l₂ := [e, f, g]))
theorem tj_start {h : Heap} {f nu lo on st ca ou : Nat} (N : HN h [ou, ca, st, f, on, lo, nu]) (F : Ob) (A B C D E G : Ob) : HN h [f, nu, lo, on, st, ca, ou] ∧ HL h [(ou, G), (ca, E), (st, D), (f, F), (on, C), (lo, B), (nu, A)] = HL h [(f, F), (nu, A), (lo, B), (on, C), (st, D), (ca, E), (ou, G)] :=
  ⟨N.perm (perm7 nu lo on f st ca ou), HL.perm (perm7 (nu, A) (lo, B) (on, C) (f, F) (st, D) (ca, E) (ou, G)) N.nd⟩

theorem AW.mineL {P : Program} {c : Code} {Q : Exit → St → Prop} {n : Nat} {tm : Tm} {h0 : Heap} {l : List (Nat × Ob)} (k j a : Nat) (A : Ob) (e : TypeId) (s : Nat) (N : HN h0 (nms l)) (hk : l[k]? = some (a, A)) (hj : A.cells[j]? = some .nils)
    (h : ∀ o, HN h0 (o :: nms l) → AW P c Q ⟨n, tm, HL h0 ((o, ⟨[], e, s, false⟩) :: l.set k (a, ⟨A.cells.set j (.mu o 0), A.ty, A.sz, A.nn⟩))⟩) : AW P c Q ⟨n, tm, HL h0 l⟩ := by
  refine AW.mineCell a j A e s (HL.at N.nd hk) hj fun o ho => ?_
  rw [HL.put N.nd hk]
  exact h o (HL.new N ho)
structure PaX where
  k : TN
  s : TS
  out : List (List Nat)
  x : Nat
structure PaI (next : List (List Int)) (a : List Bool) (h : Heap) (f : Nat) (t : PaX) : Prop where
  N : tjN h t.k
  f : t.k.f = f
  I : TI next a noEx t.s
  O : TO next a t.s t.out
  M : TM t.s
  v : ∀ u, u < t.x → hasN a u = true → 0 < nuF t.s.num u

/-- What parts gives: a slice of one's own. -/
structure PaR (next : List (List Int)) (a : List Bool) (h : Heap) (r : AV) (h' : Heap) : Prop where
  ex : ∃ o out nn, h o = none ∧ r = .mu o out.length ∧ PartsOk (kE next) (kS next a) out ∧ h' = upd h o (some (obRo (out.map nI) nn))

theorem proof_partsM (next : List (List Int)) (ok : BigOk next) (a : List Bool) (ha : a.length = next.length) : ∀ h, AC Try.prog 27 [.ro false (rows next), .ro false (bools a)] h fun r h' => PaR next a h r h' := by
  have hl := ok.len
  have b1 : (next.length : Int) ≤ 17592186044416 := by omega
  have b2 : 8 * (next.length : Int) ≤ 140737488355328 := by omega
  have b3 : (next.length : Int) ≤ 140737488355328 := by omega
  intro h
  refine AC.body Θ_ok Try.func27 rfl rfl (Nat.le_of_ble_eq_true rfl) ?_
  refine AW.seq fun _ k1 => AW.region [] Θ_ok ?_
  simp
  refine k1 _ ?_
  refine AW.seq fun _ k1 => AW.region [] Θ_ok ?_
  simp
  refine k1 _ ?_
  refine AW.seq fun _ k1 => AW.draw [14, 16, 18, 20] 8 [] Θ_ok mixed (by kernel_rfl) (by kernel_rfl) ?_
  simp [vcDraw, vcPre, vcTail, callA, isAlloc, isLoad, effOp, obl, obA, mkOK, valA, newA]
  have e1 : List.flatMap AV.flat (List.replicate next.length (AV.int .i64 0)) = ints (nI (List.replicate next.length 0)) := by
    rw [flat_ones (fun u hu => by rw [(List.mem_replicate.1 hu).2]; rfl)]; simp [nI, ints]
  have e2 : List.flatMap AV.flat (List.replicate next.length (AV.bool false)) = (onT next.length []).map AV.bool := by
    rw [flat_ones (fun u hu => by rw [(List.mem_replicate.1 hu).2]; rfl)]
    rw [show onT next.length [] = List.replicate next.length false by unfold onT; rw [replicate_tab]; exact tab_congr fun i _ => by simp]
    simp
  rw [e1, e2, obTd_mk, obBk_mk]
  refine ⟨⟨b2, b3⟩, fun nu hnu => ⟨⟨b2, b3⟩, fun lo hlo => ⟨b3, fun on hon f hf => k1 _ ?_⟩⟩⟩
  clear e1 e2
  have N1 : HN h [f, on, lo, nu] := HL.new (l := [(on, obBk (onT next.length [])), (lo, obTd (nI (List.replicate next.length 0)) true), (nu, obTd (nI (List.replicate next.length 0)) true)]) (HL.new (l := [(lo, obTd (nI (List.replicate next.length 0)) true), (nu, obTd (nI (List.replicate next.length 0)) true)]) (HL.new (l := [(nu, obTd (nI (List.replicate next.length 0)) true)]) (HL.new (l := []) ⟨List.nodup_nil, fun o ho => by cases ho⟩ hnu) hlo) hon) hf
  clear hnu hlo hon hf
  obtain ⟨A, hA⟩ : ∃ A, A = obTd (nI (List.replicate next.length 0)) true := ⟨_, rfl⟩
  obtain ⟨C, hC⟩ : ∃ C, C = obBk (onT next.length []) := ⟨_, rfl⟩
  rw [← hA, ← hC]
  have z := fun F => (show upd (upd (upd (upd h nu (some A)) lo (some A)) on (some C)) f (some F) = HL h [(f, F), (on, C), (lo, A), (nu, A)] from rfl)
  rw [z]
  clear z
  refine AW.mineL 0 6 f _ 3 1 N1 rfl rfl fun st N2 => ?_
  simp only [List.set_cons_succ, List.set_cons_zero]
  refine AW.mineL 1 7 f _ 90 2 N2 rfl rfl fun ca N3 => ?_
  simp only [List.set_cons_succ, List.set_cons_zero]
  refine AW.mineL 2 8 f _ 28 1 N3 rfl rfl fun ou N4 => ?_
  simp only [List.set_cons_succ, List.set_cons_zero]
  clear N1 N2 N3
  obtain ⟨N, eH⟩ := tj_start (N4 : HN h [ou, ca, st, f, on, lo, nu]) (obFi next a ⟨f, nu, lo, on, st, ca, ou, false, false, false⟩ 0 0 0 0) A A C (obTd (nI []) false) (obVi [] false) (obRo [] false)
  have eH2 : HL h [(f, obFi next a ⟨f, nu, lo, on, st, ca, ou, false, false, false⟩ 0 0 0 0), (nu, A), (lo, A), (on, C), (st, obTd (nI []) false), (ca, obVi [] false), (ou, obRo [] false)] = tjH h next a ⟨f, nu, lo, on, st, ca, ou, false, false, false⟩ (ts0 next.length) [] := by
    rw [hA, hC]; rfl
  rw [eH2] at eH
  have eH3 : HL h [(ou, ⟨[], 28, 1, false⟩), (ca, ⟨[], 90, 2, false⟩), (st, ⟨[], 3, 1, false⟩), (f, ⟨[.ro false (rows next), .ro false (bools a), .mu nu next.length, .mu lo next.length, .mu on next.length, .int .i64 0, .mu st 0, .mu ca 0, .mu ou 0], 74, 9, true⟩), (on, C), (lo, A), (nu, A)] = tjH h next a ⟨f, nu, lo, on, st, ca, ou, false, false, false⟩ (ts0 next.length) [] := eH
  rw [eH3]
  clear eH eH2 eH3 hA hC
  refine AW.seq fun _ k4 => AW.region [] Θ_ok ?_
  simp
  refine k4 _ ?_
  obtain ⟨k0, hk0⟩ : ∃ k0, k0 = (⟨f, nu, lo, on, st, ca, ou, false, false, false⟩ : TN) := ⟨_, rfl⟩
  rw [← hk0]
  have N0 : tjN h k0 := by rw [hk0]; exact N
  have f0 : k0.f = f := by rw [hk0]
  clear hk0 N
  have P0 : PaI next a h f ⟨k0, ts0 next.length, [], 0⟩ := ⟨N0, f0, TI.init rfl rfl rfl rfl, TO.init fun v => by simp [ts0, nuF, List.getD_eq_getElem?_getD, List.getElem?_replicate]; split <;> rfl, TM.init _, fun u hu => absurd hu (Nat.not_lt_zero _)⟩
  refine AW.seq fun _ k5 => ?_
  refine AW.seq fun _ k6 => AW.region [] Θ_ok ?_
  simp
  refine k6 _ ?_
  refine AW.block ?_
  refine AW.loopI (X := PaX) (fun t => PaI next a h f t ∧ t.s.K = [] ∧ t.x ≤ next.length) (fun t => ⟨59, [(1, .ro false (bools a)), (6, .ptr f 0), (7, .bnd 55 [.ptr f 0]), (24, .int .i64 next.length), (25, .int .i64 t.x)], tjH h next a t.k t.s (t.out.map nI)⟩) (fun t => next.length - t.x) ⟨k0, ts0 next.length, [], 0⟩ ⟨P0, rfl, Nat.zero_le _⟩ (GStep.eq (by simp) (subH.refl _)) ?_
  clear P0 N0 f0 k0
  rintro ⟨k, s, out, x⟩ ⟨⟨N, e0, I, O, M, hvis⟩, eK, hx⟩
  simp only at N e0 I O M hvis eK hx ⊢
  subst e0
  refine AW.seq fun _ k7 => AW.region [] Θ_ok ?_
  simp
  refine k7 _ ?_
  by_cases hlt : x < next.length
  · have inc := wrap_succ (show x < 9223372036854775807 by omega)
    have hxa : x < a.length := by omega
    have lnu : s.num.length = next.length := I.ln
    obtain ⟨r2, d2⟩ := nI_drop s.num (show x < s.num.length by omega)
    have af : tjH h next a k s (out.map nI) k.f = some (obFi next a k s.met s.T.length s.K.length (out.map nI).length) := tjR.af N _ _ _ _ _ _ _
    have anu : tjH h next a k s (out.map nI) k.nu = some (obTd (nI s.num) true) := tjR.anu N _ _ _ _ _ _ _
    obtain ⟨y2, hy2⟩ : ∃ y, y = nuF s.num x := ⟨_, rfl⟩
    rw [← hy2] at d2
    refine AW.seq fun _ k8 => AW.cond true (by simp [Int.natCast_inj, hlt]) (fun _ => ?_) (fun h => by cases h)
    refine AW.skip ?_
    simp
    refine k8 _ ?_
    refine AW.seq fun _ k9 => ?_
    refine AW.block ?_
    refine AW.seq fun _ k10 => AW.region [] Θ_ok ?_
    simp
    refine k10 _ ?_
    refine AW.seq fun _ k11 => ?_
    cases hb : a[x] with
    | false =>
      refine AW.seq fun _ k12 => AW.region [] Θ_ok ?_
      simp [hxa, hb]
      refine k12 _ ?_
      refine AW.cond true (by simp [Int.natCast_inj]) (fun _ => ?_) (fun h => by cases h)
      refine AW.exit ?_
      simp
      refine k9 _ ?_
      refine AW.region [] Θ_ok ?_
      simp
      refine ⟨⟨k, s, out, x + 1⟩, ⟨⟨N, rfl, I, O, M, fun u hu hua => ?_⟩, eK, by simp only; omega⟩, by simp only; omega, GStep.eq (by simp [inc]) (subH.refl _)⟩
      by_cases e : u = x
      · subst e; unfold hasN at hua; simp [hxa, hb] at hua
      · exact hvis u (by simp only at hu; omega) hua
    | true =>
      refine AW.seq fun _ k12 => AW.region [] Θ_ok ?_
      simp [hxa, hb, af, anu, d2, hlt]
      refine k12 _ ?_
      by_cases h0 : 0 < y2
      · refine AW.cond true (by simp [Int.natCast_inj, h0]) (fun _ => ?_) (fun h => by cases h)
        refine AW.exit ?_
        simp
        refine k9 _ ?_
        refine AW.region [] Θ_ok ?_
        simp
        refine ⟨⟨k, s, out, x + 1⟩, ⟨⟨N, rfl, I, O, M, fun u hu hua => ?_⟩, eK, by simp only; omega⟩, by simp only; omega, GStep.eq (by simp [inc]) (subH.refl _)⟩
        by_cases e : u = x
        · subst e; show 0 < nuF s.num u; omega
        · exact hvis u (by simp only at hu; omega) hua
      · have h0' : nuF s.num x = 0 := by omega
        have hSx : kS next a x := ⟨hlt, by unfold hasN; simp [hxa, hb]⟩
        have fT := I.fewT
        have fO := O.few I
        have sE := fin_enter N next a s (out.map nI) x hlt lnu I.ll (by
          have M1' : s.met + (visB s.num).count false = s.num.length := M
          omega) (by omega) (by rw [eK]; simp)
        have Ie := I.enter (v := x) (fun u y h => h.elim) hSx h0' (fun p hp => by rw [eK] at hp; cases hp)
        have Oe := O.enter (v := x) (show x < s.num.length by omega) h0'
        have Me := M.enter (v := x) (show x < s.num.length by omega) h0'
        have nu' : ∀ u, nuF (TS.enter s x).num u = if u = x then s.met + 1 else nuF s.num u := fun u => nuF_set _ _ _ _ (show x < s.num.length by omega)
        refine AW.cond false (by simp [Int.natCast_inj, h0]) (fun h => by cases h) (fun _ => ?_)
        refine AW.skip ?_
        simp
        refine k11 _ ?_
        refine AW.seq fun _ k12 => AW.region [] Θ_ok ?_
        simp
        refine sE.mono ?_
        rintro r h' ⟨k', N', e1, rfl⟩
        try simp
        refine k12 _ ?_
        rw [← e1]
        have hv1 : ∀ u, u < x + 1 → hasN a u = true → 0 < nuF (TS.enter s x).num u := fun u hu hua => by
          rw [nu']
          split
          · omega
          · exact hvis u (by omega) hua
        refine AW.block ?_
        refine AW.loopI (X := PaX) (fun t => PaI next a h k'.f t ∧ t.x = x + 1) (fun t => ⟨59, [(1, .ro false (bools a)), (6, .ptr k'.f 0), (7, .bnd 55 [.ptr k'.f 0]), (24, .int .i64 next.length), (25, .int .i64 x)], tjH h next a t.k t.s (t.out.map nI)⟩) (fun t => tjM next t.s) ⟨k', s.enter x, out, x + 1⟩ ⟨⟨N', rfl, Ie, Oe, Me, hv1⟩, rfl⟩ (GStep.eq (by simp [e1]) (subH.refl _)) ?_
        clear hv1 nu' Me Oe Ie sE fO fT d2 af anu hvis N I O M eK lnu h0 h0' hy2 r2 y2
        generalize k'.f = f0 at *
        clear N' k'
        rintro ⟨k, s, out, x'⟩ ⟨⟨N, e0, I, O, M, hvis⟩, ex⟩
        simp only at N e0 I O M hvis ex ⊢
        subst ex
        subst e0
        have af : tjH h next a k s (out.map nI) k.f = some (obFi next a k s.met s.T.length s.K.length (out.map nI).length) := tjR.af N _ _ _ _ _ _ _
        obtain ⟨kl, hkl⟩ : ∃ kl, kl = s.K.length := ⟨_, rfl⟩
        rw [← hkl] at af
        refine AW.seq fun _ k14 => ?_
        refine AW.seq fun _ k15 => AW.region [] Θ_ok ?_
        simp [af]
        refine k15 _ ?_
        by_cases hk : 0 < kl
        · have sS := fin_step N ok ha s out I O M (fun e => by rw [e] at hkl; simp at hkl; omega)
          refine AW.cond true (by simp [Int.natCast_inj, hk]) (fun _ => ?_) (fun h => by cases h)
          refine AW.skip ?_
          simp
          refine k14 _ ?_
          refine AW.block ?_
          refine AW.region [] Θ_ok ?_
          simp
          refine sS.mono ?_
          rintro r h' ⟨⟨k2, s2, out2, N2, e2, rfl, I2, O2, M2, m2, v2⟩⟩
          try simp
          exact ⟨⟨k2, s2, out2, x + 1⟩, ⟨⟨N2, e2, I2, O2, M2, fun u hu hua => v2 u (hvis u hu hua)⟩, rfl⟩, m2, GStep.eq (by simp) (subH.refl _)⟩
        · have eK : s.K = [] := List.length_eq_zero_iff.1 (by omega)
          refine AW.cond false (by simp [Int.natCast_inj, hk]) (fun h => by cases h) (fun _ => ?_)
          refine AW.exit ?_
          simp
          refine k9 _ ?_
          refine AW.region [] Θ_ok ?_
          simp
          exact ⟨⟨k, s, out, x + 1⟩, ⟨⟨N, e1, I, O, M, hvis⟩, eK, by simp only; omega⟩, by simp only; omega, GStep.eq (by simp [inc, e1]) (subH.refl _)⟩
  · obtain rfl : x = next.length := by omega
    have hT : s.T = [] := by
      cases hh : s.T with
      | nil => rfl
      | cons u T =>
        obtain ⟨_, c, hc, _⟩ := I.und u (by rw [hh]; simp) (by rw [eK]; intro p hp; cases hp)
        rw [eK] at hc; cases hc
    have D := O.done hT fun v hv => hvis v hv.1 hv.2
    have af : tjH h next a k s (out.map nI) k.f = some (obFi next a k s.met s.T.length s.K.length (out.map nI).length) := tjR.af N _ _ _ _ _ _ _
    have aou : tjH h next a k s (out.map nI) k.ou = some (obRo (out.map nI) k.n3) := tjR.aou N _ _ _ _ _ _ _
    refine AW.seq fun _ k8 => AW.cond false (by simp [Int.natCast_inj]) (fun h => by cases h) (fun _ => ?_)
    refine AW.exit ?_
    simp
    refine k5 _ ?_
    refine AW.seq fun _ kr => AW.region [] Θ_ok ?_
    simp [af]
    refine kr _ (AW.ret ?_)
    simp [Try.f27]
    have hk : ∀ o ∈ [k.f, k.nu, k.lo, k.on, k.st, k.ca, k.ou], h o = none := N.free
    refine Fin.gv (GV.sub (h' := upd h k.ou (some (obRo (out.map nI) k.n3))) ?_) (Fin.refl ⟨⟨k.ou, out, k.n3, hk _ (by simp), by simp, D, rfl⟩⟩)
    intro y z hy
    by_cases e : y = k.ou
    · subst e; rw [upd_same] at hy; rw [← hy]; exact aou
    · rw [upd_ne _ _ e] at hy
      have hy' : tjH h next a k s (out.map nI) y = h y := HL.out fun hm => by
        have := hk y (by simpa [nms] using hm)
        rw [this] at hy; cases hy
      rw [hy']; exact hy

theorem proof_parts (next : List (List Int)) (ok : BigOk next) (a : List Bool) (ha : a.length = next.length) : ∀ h, AC Try.prog 27 [.ro false (rows next), .ro false (bools a)] h fun r h' => ∃ out, r = .ro false (rows (out.map nI)) ∧ PartsOk (kE next) (kS next a) out ∧ h' = h := fun h =>
  (proof_partsM next ok a ha h).fin fun r h' ⟨⟨o, out, nn, ho, e1, D, e2⟩⟩ => by
    subst e1 e2
    refine Fin.freeze (k := false) (upd_same _ _ _) (fun e => by cases e) rfl (by simp) (fun u hu => by obtain ⟨z, _, rfl⟩ := List.mem_map.1 hu; rfl) h (by rw [upd_upd, upd_none_id ho]; exact subH.refl _) ⟨out, by simp [rows], D, rfl⟩
end Go.Par
