/- Ranks: plain laws. -/
import Derived.Test.YtlpfokngocdanaaHpB
import Derived.Test.YtlpfokngocdanaaPlK
import Derived.Test.YtlpfokngocdanaaPlB
import Derived.Test.YtlpfokngocdanaaFnI
set_option linter.unusedSimpArgs false
set_option linter.unusedVariables false
namespace Go.Par

abbrev nx (g : G) (v : Nat) : List Int := g.next.getD v []
abbrev ow (g : G) (v : Nat) : Int := g.owner.getD v 0
def lev (g : G) (who : Int) (a : List Bool) : Nat → List Bool
  | 0 => tab g.owner.length (hasN a)
  | k + 1 => orL g (lev g who a k) (forceL g who (lev g who a k))
def lv (g : G) (who : Int) (a : List Bool) (k v : Nat) : Prop := hasN (lev g who a k) v = true
def atR (g : G) (who : Int) (a : List Bool) (v k : Nat) : Prop := lv g who a k v ∧ ∀ j, j < k → ¬ lv g who a j v

section
variable {g : G} {who : Int} {a : List Bool} {v k : Nat}
theorem lev_len : ∀ k, (lev g who a k).length = g.owner.length
  | 0 => length_tab _ _
  | k + 1 => len_or _ _ _
theorem lv_lt (h : lv g who a k v) : v < g.owner.length := by
  unfold lv hasN at h
  rcases Nat.lt_or_ge v (lev g who a k).length with q | q
  · rwa [lev_len] at q
  · simp [q] at h
theorem lv_zero (hv : v < g.owner.length) : lv g who a 0 v ↔ hasN a v = true := by
  unfold lv lev
  simp [hasN, getElem?_tab, hv]
theorem lv_succ (hv : v < g.owner.length) : lv g who a (k + 1) v ↔ lv g who a k v ∨ forceP g who (lev g who a k) v = true := by
  unfold lv
  rw [lev, has_or hv, has_force hv, Bool.or_eq_true]
theorem lv_mono {j : Nat} (h : lv g who a j v) : ∀ {k}, j ≤ k → lv g who a k v := by
  intro k hk
  induction hk with
  | refl => exact h
  | step _ ih => exact (lv_succ (lv_lt h)).2 (.inl ih)
theorem atR_le {j : Nat} (h : atR g who a v k) (q : lv g who a j v) : k ≤ j := by
  rcases Nat.lt_or_ge j k with l | l
  · exact absurd q (h.2 j l)
  · exact l
theorem atR_uniq {j : Nat} (h : atR g who a v k) (q : atR g who a v j) : k = j := Nat.le_antisymm (atR_le h q.1) (atR_le q h.1)
theorem lv_at : ∀ {k}, lv g who a k v → ∃ j, j ≤ k ∧ atR g who a v j
  | k, h => by
    induction k using Nat.strongRecOn with
    | ind k ih =>
      by_cases q : ∃ j, j < k ∧ lv g who a j v
      · obtain ⟨j, h1, h2⟩ := q
        obtain ⟨i, h3, h4⟩ := ih j h1 h2
        exact ⟨i, by omega, h4⟩
      · exact ⟨k, Nat.le_refl _, h, fun j hj hl => q ⟨j, hj, hl⟩⟩

theorem nx_ok (hm : mayE g = 0) (hv : v < g.owner.length) : (nx g v).Pairwise (· < ·) ∧ ∀ w ∈ nx g v, 0 ≤ w ∧ w < g.owner.length := by
  have h2 := (may_ok hm).2.1
  have hv' : v < g.next.length := by omega
  have := rise_iff.1 (may_rise hm hv')
  simp only [nx, List.getD_eq_getElem?_getD, List.getElem?_eq_getElem hv', Option.getD_some]
  exact ⟨this.2, fun w hw => ⟨by have := (this.1 w hw).1; omega, (this.1 w hw).2⟩⟩
theorem ow_ok (hm : mayE g = 0) (hv : v < g.owner.length) : ow g v = 0 ∨ ow g v = 1 := by
  have := (may_ok hm).2.2 v hv
  simp only [okV, Bool.and_eq_true, Bool.or_eq_true, beq_iff_eq] at this
  exact this.1
theorem force_iff {s : List Bool} : forceP g who s v = true ↔ (ow g v = who ∧ ∃ w ∈ nx g v, hasN s w.toNat = true) ∨ (ow g v ≠ who ∧ ∀ w ∈ nx g v, hasN s w.toNat = true) := by
  unfold forceP
  by_cases e : g.owner.getD v 0 = who
  · rw [if_pos e, List.any_eq_true]
    exact ⟨fun h => .inl ⟨e, h⟩, fun h => by
      rcases h with ⟨_, h⟩ | ⟨h, _⟩
      · exact h
      · exact absurd e h⟩
  · rw [if_neg e, List.all_eq_true]
    exact ⟨fun h => .inr ⟨e, h⟩, fun h => by
      rcases h with ⟨h, _⟩ | ⟨_, h⟩
      · exact absurd h e
      · exact h⟩
end

/-- While ranks are found: 'Dn v w': the way from v to w was seen; 'P': who was taken; 'c': of what rank is who is at hand, 'a'. -/
structure Inv (g : G) (who : Int) (s : List Bool) (Dn : Nat → Nat → Bool) (P : Nat → Bool) (c a : Nat) (L R : List Int) (T : List Pr) : Prop where
  lenL : L.length = g.owner.length
  lenR : R.length = g.owner.length
  heap : heapL T
  nd : T.Nodup
  l : ∀ v, v < g.owner.length → L.getD v 0 = ((nx g v).countP (fun w => !Dn v w.toNat) : Nat)
  t : ∀ p, p ∈ T ↔ p.1 < g.owner.length ∧ R.getD p.1 0 = p.2 ∧ P p.1 = false
  r : ∀ v, v < g.owner.length → ∀ k : Nat, R.getD v 0 = k → atR g who s v k
  neg : ∀ v, v < g.owner.length → R.getD v 0 < 0 → R.getD v 0 = -1
  p : ∀ v, v < g.owner.length → P v = true → 0 ≤ R.getD v 0 ∧ R.getD v 0 ≤ c
  m : ∀ p ∈ T, c ≤ p.2
  d : ∀ v w, w < g.owner.length → Dn v w = true → P w = true
  f : ∀ w, w < g.owner.length → P w = true → w ≠ a → ∀ u, Dn u w = true
  at_ : a < g.owner.length → R.getD a 0 = c

/-- What is not told yet is not to be told yet. -/
def Und (g : G) (who : Int) (s : List Bool) (Dn : Nat → Nat → Bool) (R : List Int) : Prop :=
  ∀ v, v < g.owner.length → R.getD v 0 < 0 → hasN s v = false ∧ (ow g v = who → ∀ w ∈ nx g v, Dn v w.toNat = false) ∧ (ow g v ≠ who → ∃ w ∈ nx g v, Dn v w.toNat = false)

section
variable {g : G} {who : Int} {s : List Bool} {Dn : Nat → Nat → Bool} {P : Nat → Bool} {c a : Nat} {L R : List Int} {T : List Pr}

theorem getD_set {α : Type} {l : List α} {i j : Nat} {x d : α} (h : i < l.length) : (l.set i x).getD j d = if i = j then x else l.getD j d := by
  by_cases e : i = j
  · subst e; simp [h]
  · simp [e, List.getElem?_set_ne e]

/-- Who is below the rank at hand was taken, and all its ways were seen. -/
theorem Inv.below (hm : mayE g = 0) (I : Inv g who s Dn P c a L R T) (U : Und g who s Dn R) : ∀ (j w : Nat), w < g.owner.length → lv g who s j w → (j < c ∨ T = [] ∧ ∀ u, Dn u a = true) → 0 ≤ R.getD w 0 ∧ P w = true ∧ ∀ u, Dn u w = true := by
  intro j
  induction j using Nat.strongRecOn with
  | ind j ih =>
    intro w hw hl hj
    have hR : 0 ≤ R.getD w 0 := by
      rcases Int.lt_or_le (R.getD w 0) 0 with q | q
      · exfalso
        obtain ⟨u1, u2, u3⟩ := U w hw q
        have hjk : ∀ k, k ≤ j → ¬ lv g who s k w := by
          intro k
          induction k with
          | zero => intro _ h; rw [lv_zero hw, u1] at h; cases h
          | succ k ihk =>
            intro hk h
            rcases (lv_succ hw).1 h with h | h
            · exact ihk (by omega) h
            · have hb : ∀ x ∈ nx g w, hasN (lev g who s k) x.toNat = true → Dn w x.toNat = true := fun x hx hq => by
                obtain ⟨x0, x1⟩ := (nx_ok hm hw).2 x hx
                exact (ih k (by omega) x.toNat (by omega) hq (by rcases hj with hj | hj; exact .inl (by omega); exact .inr hj)).2.2 w
              rcases force_iff.1 h with ⟨h1, x, hx, hq⟩ | ⟨h1, h2⟩
              · have := hb x hx hq
                rw [u2 h1 x hx] at this
                cases this
              · obtain ⟨x, hx, hq⟩ := u3 h1
                rw [hb x hx (h2 x hx)] at hq
                cases hq
        exact hjk j (Nat.le_refl _) hl
      · exact q
    obtain ⟨k, hk⟩ : ∃ k : Nat, R.getD w 0 = k := ⟨(R.getD w 0).toNat, by omega⟩
    have hkj := atR_le (I.r w hw k hk) hl
    have hP : P w = true := by
      cases q : P w with
      | true => rfl
      | false =>
        have := (I.t (w, k)).2 ⟨hw, hk, q⟩
        rcases hj with hj | hj
        · have := I.m _ this; simp only at this; omega
        · rw [hj.1] at this; cases this
    refine ⟨hR, hP, ?_⟩
    by_cases e : w = a
    · subst e
      rcases hj with hj | hj
      · have := I.at_ hw; omega
      · exact hj.2
    · exact I.f w hw hP e

/-- A rank given. -/
theorem Inv.give (I : Inv g who s Dn P c a L R T) {v k : Nat} (hv : v < g.owner.length) (h : R.getD v 0 < 0) (hc : c ≤ k) (hk : atR g who s v k) : Inv g who s Dn P c a L (R.set v k) (pushL T (v, k)) := by
  have hl : v < R.length := by rw [I.lenR]; exact hv
  have hP : P v = false := by
    cases q : P v with
    | false => rfl
    | true => have := (I.p v hv q).1; omega
  obtain ⟨g1, g2⟩ := heap_push I.heap (v, k)
  have gs : ∀ u, (R.set v (k : Int)).getD u 0 = if v = u then (k : Int) else R.getD u 0 := fun u => getD_set hl
  have hnew : (v, k) ∉ T := fun q => by have := ((I.t _).1 q).2.1; simp only at this; omega
  refine ⟨I.lenL, by simp [I.lenR], g1, ?_, I.l, ?_, ?_, ?_, ?_, ?_, I.d, I.f, ?_⟩
  · exact g2.nodup_iff.2 (List.nodup_cons.2 ⟨hnew, I.nd⟩)
  · intro p
    rw [g2.mem_iff, List.mem_cons, I.t, gs]
    by_cases e : v = p.1
    · rw [if_pos e]
      constructor
      · rintro (rfl | ⟨q1, q2, q3⟩)
        · exact ⟨hv, rfl, hP⟩
        · rw [← e] at q2; omega
      · rintro ⟨q1, q2, q3⟩
        exact .inl (Prod.ext e.symm (by omega))
    · rw [if_neg e]
      constructor
      · rintro (rfl | q)
        · exact absurd rfl e
        · exact q
      · exact .inr
  · intro u hu j hj
    rw [gs] at hj
    by_cases e : v = u
    · subst e
      rw [if_pos rfl] at hj
      rw [show j = k by omega]; exact hk
    · rw [if_neg e] at hj
      exact I.r u hu j hj
  · intro u hu hq
    rw [gs] at hq ⊢
    by_cases e : v = u
    · rw [if_pos e] at hq; omega
    · rw [if_neg e] at hq ⊢; exact I.neg u hu hq
  · intro u hu hq
    rw [gs]
    by_cases e : v = u
    · subst e; rw [hP] at hq; cases hq
    · rw [if_neg e]; exact I.p u hu hq
  · intro p hp
    rcases List.mem_cons.1 (g2.mem_iff.1 hp) with rfl | q
    · exact hc
    · exact I.m p q
  · intro ha
    rw [gs]
    by_cases e : v = a
    · subst e
      have := I.at_ ha; omega
    · rw [if_neg e]; exact I.at_ ha

theorem Und.give (U : Und g who s Dn R) {v k : Nat} (hl : v < R.length) : Und g who s Dn (R.set v (k : Int)) := by
  intro u hu hq
  rw [getD_set hl] at hq
  by_cases e : v = u
  · rw [if_pos e] at hq; omega
  · rw [if_neg e] at hq; exact U u hu hq

/-- One is taken. -/
theorem Inv.pop (I : Inv g who s Dn P c a L R T) (hf : ∀ w, w < g.owner.length → P w = true → ∀ u, Dn u w = true) (hT : 0 < T.length) :
    (popV T).1 < g.owner.length ∧ P (popV T).1 = false ∧ c ≤ (popV T).2 ∧ atR g who s (popV T).1 (popV T).2 ∧ Inv g who s Dn (fun w => P w || w == (popV T).1) (popV T).2 (popV T).1 L R (popL T) := by
  obtain ⟨g1, g2, g3⟩ := heap_pop I.heap hT
  have hin : popV T ∈ T := g2.mem_iff.2 (by simp)
  obtain ⟨h1, h2, h3⟩ := (I.t _).1 hin
  have hnd := g2.nodup_iff.1 I.nd
  obtain ⟨n1, n2⟩ := List.nodup_cons.1 hnd
  generalize popV T = o at *
  have hc := I.m o hin
  refine ⟨h1, h3, hc, I.r _ h1 _ h2, I.lenL, I.lenR, g1, n2, I.l, ?_, I.r, I.neg, ?_, ?_, ?_, ?_, fun _ => h2⟩
  · intro p
    have : p ∈ popL T ↔ p ∈ T ∧ p ≠ o := by
      rw [g2.mem_iff, List.mem_cons]
      constructor
      · intro q; exact ⟨.inr q, fun e => n1 (e ▸ q)⟩
      · rintro ⟨q | q, e⟩
        · exact absurd q e
        · exact q
    rw [this, I.t]
    simp only [Bool.or_eq_false_iff, beq_eq_false_iff_ne, ne_eq]
    constructor
    · rintro ⟨⟨q1, q2, q3⟩, e⟩
      refine ⟨q1, q2, q3, fun e2 => e (Prod.ext e2 ?_)⟩
      rw [e2] at q2; omega
    · rintro ⟨q1, q2, q3, e⟩
      exact ⟨⟨q1, q2, q3⟩, fun e2 => e (by rw [e2])⟩
  · intro v hv hq
    simp only [Bool.or_eq_true, beq_iff_eq] at hq
    rcases hq with hq | rfl
    · have := I.p v hv hq
      omega
    · omega
  · intro p hp
    have := g3 p (g2.mem_iff.2 (by simp [hp]))
    rw [nless_iff] at this; omega
  · intro v w hw hq
    simp [I.d v w hw hq]
  · intro w hw hq e u
    simp only [Bool.or_eq_true, beq_iff_eq] at hq
    rcases hq with hq | hq
    · exact hf w hw hq u
    · exact absurd hq e

theorem countP_but {l : List Int} {p q : Int → Bool} {x : Int} (hn : l.Nodup) (hx : x ∈ l) (h1 : p x = true) (h2 : q x = false) (h : ∀ y ∈ l, y ≠ x → q y = p y) : l.countP p = l.countP q + 1 := by
  induction l with
  | nil => cases hx
  | cons y l ih =>
    obtain ⟨n1, n2⟩ := List.nodup_cons.1 hn
    rw [List.countP_cons, List.countP_cons]
    rcases List.mem_cons.1 hx with rfl | hx'
    · have : l.countP p = l.countP q := List.countP_congr fun y hy => by
        rw [h y (by simp [hy]) (fun e => n1 (e ▸ hy))]
      simp [h1, h2, this]
    · have e1 : y ≠ x := fun e => n1 (e ▸ hx')
      rw [ih n2 hx' (fun z hz => h z (by simp [hz])), h y (by simp) e1]
      omega

/-- A way is seen. -/
theorem Inv.see (hm : mayE g = 0) (I : Inv g who s Dn P c a L R T) {v : Nat} (hv : v < g.owner.length) (ha : a < g.owner.length) (hPa : P a = true) (hx : (a : Int) ∈ nx g v) (hd : Dn v a = false) :
    0 < L.getD v 0 ∧ L.getD v 0 ≤ 3000 ∧ Inv g who s (fun u w => Dn u w || u == v && w == a) P c a (L.set v (L.getD v 0 - 1)) R T := by
  obtain ⟨h1, h2⟩ := nx_ok hm hv
  have hn3 := (may_ok hm).1
  have hnd : (nx g v).Nodup := h1.imp (fun {x y} h => by omega)
  have hc := countP_but (p := fun w : Int => !Dn v w.toNat) (q := fun w : Int => !(Dn v w.toNat || v == v && w.toNat == a)) hnd hx (by simp [hd]) (by simp) (by
    intro y hy e
    have := h2 y hy
    have : ¬ y.toNat = a := by omega
    simp [this])
  have hl := I.l v hv
  have hlen : (nx g v).countP (fun w => !Dn v w.toNat) ≤ 3000 := by
    refine Nat.le_trans List.countP_le_length ?_
    have h2' := (may_ok hm).2.1
    have := rise_len (may_rise hm (show v < g.next.length by omega))
    have e : nx g v = g.next[v]'(by omega) := by simp [nx, show v < g.next.length by omega]
    rw [e]
    rcases this with q | q
    · rw [q]; simp
    · omega
  refine ⟨by omega, by omega, by simp [I.lenL], I.lenR, I.heap, I.nd, ?_, I.t, I.r, I.neg, I.p, I.m, ?_, ?_, I.at_⟩
  · intro u hu
    rw [getD_set (by rw [I.lenL]; exact hv)]
    by_cases e : v = u
    · subst e
      rw [if_pos rfl, hl]
      omega
    · rw [if_neg e, I.l u hu]
      have : ∀ w : Int, (Dn u w.toNat || u == v && w.toNat == a) = Dn u w.toNat := fun w => by simp [Ne.symm e]
      simp only [this]
  · intro u w hw hq
    simp only [Bool.or_eq_true, Bool.and_eq_true, beq_iff_eq] at hq
    rcases hq with hq | ⟨_, rfl⟩
    · exact I.d u w hw hq
    · exact hPa
  · intro w hw hq e u
    simp [I.f w hw hq e u]

/-- The rank of who is seen to be forced. -/
theorem Inv.rank (hm : mayE g = 0) (I : Inv g who s Dn P c a L R T) (U : Und g who s Dn R) {v : Nat} (hv : v < g.owner.length) (ha : a < g.owner.length) (hx : (a : Int) ∈ nx g v) (hR : R.getD v 0 < 0)
    (hc : ow g v = who ∨ ∀ w ∈ nx g v, w ≠ (a : Int) → Dn v w.toNat = true) : atR g who s v (c + 1) := by
  have haR := (I.r a ha c (I.at_ ha)).1
  obtain ⟨u1, u2, u3⟩ := U v hv hR
  refine ⟨(lv_succ hv).2 (.inr (force_iff.2 ?_)), ?_⟩
  · by_cases e : ow g v = who
    · exact .inl ⟨e, a, hx, haR⟩
    · refine .inr ⟨e, fun w hw => ?_⟩
      rcases hc with hc | hc
      · exact absurd hc e
      · by_cases e2 : w = (a : Int)
        · subst e2; exact haR
        · obtain ⟨w0, w1⟩ := (nx_ok hm hv).2 w hw
          have hP := I.d v w.toNat (by omega) (hc w hw e2)
          obtain ⟨p1, p2⟩ := I.p w.toNat (by omega) hP
          obtain ⟨k, hk⟩ : ∃ k : Nat, R.getD w.toNat 0 = k := ⟨(R.getD w.toNat 0).toNat, by omega⟩
          exact lv_mono (I.r w.toNat (by omega) k hk).1 (by omega)
  · have hjk : ∀ k, k ≤ c → ¬ lv g who s k v := by
      intro k
      induction k with
      | zero => intro _ h; rw [lv_zero hv, u1] at h; cases h
      | succ k ihk =>
        intro hk h
        rcases (lv_succ hv).1 h with h | h
        · exact ihk (by omega) h
        · have hb : ∀ x ∈ nx g v, hasN (lev g who s k) x.toNat = true → Dn v x.toNat = true := fun x hx hq => by
            obtain ⟨x0, x1⟩ := (nx_ok hm hv).2 x hx
            exact (I.below hm U k x.toNat (by omega) hq (.inl (by omega))).2.2 v
          rcases force_iff.1 h with ⟨h1, x, hx, hq⟩ | ⟨h1, h2⟩
          · have := hb x hx hq
            rw [u2 h1 x hx] at this
            cases this
          · obtain ⟨x, hx, hq⟩ := u3 h1
            rw [hb x hx (h2 x hx)] at hq
            cases hq
    exact fun j hj => hjk j (by omega)

/-- All ways to who was taken were seen. -/
theorem Inv.done (I : Inv g who s Dn P c a L R T) (hm : mayE g = 0) (hall : ∀ v, v < g.owner.length → (a : Int) ∈ nx g v → Dn v a = true) : Inv g who s (fun _ w => P w) P c a L R T := by
  refine ⟨I.lenL, I.lenR, I.heap, I.nd, ?_, I.t, I.r, I.neg, I.p, I.m, fun _ _ _ h => h, fun _ _ h _ _ => h, I.at_⟩
  intro v hv
  rw [I.l v hv]
  congr 1
  refine List.countP_congr fun w hw => ?_
  obtain ⟨w0, w1⟩ := (nx_ok hm hv).2 w hw
  have : Dn v w.toNat = P w.toNat := by
    cases q : P w.toNat with
    | true =>
      by_cases e : w.toNat = a
      · subst e; exact hall v hv (by rwa [Int.toNat_of_nonneg w0])
      · exact I.f _ (by omega) q e v
    | false =>
      cases q2 : Dn v w.toNat with
      | false => rfl
      | true => rw [I.d v _ (by omega) q2] at q; cases q
  rw [this]
theorem Und.done (I : Inv g who s Dn P c a L R T) (U : Und g who s Dn R) (hm : mayE g = 0) (hall : ∀ v, v < g.owner.length → (a : Int) ∈ nx g v → Dn v a = true) : Und g who s (fun _ w => P w) R := by
  have key : ∀ v, v < g.owner.length → ∀ w ∈ nx g v, Dn v w.toNat = P w.toNat := by
    intro v hv w hw
    obtain ⟨w0, w1⟩ := (nx_ok hm hv).2 w hw
    cases q : P w.toNat with
    | true =>
      by_cases e : w.toNat = a
      · subst e; exact hall v hv (by rwa [Int.toNat_of_nonneg w0])
      · exact I.f _ (by omega) q e v
    | false =>
      cases q2 : Dn v w.toNat with
      | false => rfl
      | true => rw [I.d v _ (by omega) q2] at q; cases q
  intro v hv hq
  obtain ⟨u1, u2, u3⟩ := U v hv hq
  refine ⟨u1, fun e w hw => by show P w.toNat = false; rw [← key v hv w hw]; exact u2 e w hw, fun e => ?_⟩
  obtain ⟨w, hw, q⟩ := u3 e
  exact ⟨w, hw, by show P w.toNat = false; rw [← key v hv w hw]; exact q⟩

noncomputable def rkN (g : G) (who : Int) (s : List Bool) (v : Nat) : Int := open Classical in if h : ∃ k, atR g who s v k then (Classical.choose h : Nat) else -1
noncomputable def ranksL (g : G) (who : Int) (s : List Bool) : List Int := tab g.owner.length (rkN g who s)
theorem rk_at {v k : Nat} (h : atR g who s v k) : rkN g who s v = k := by
  have h' : ∃ k, atR g who s v k := ⟨k, h⟩
  unfold rkN
  rw [dif_pos h', atR_uniq (Classical.choose_spec h') h]
theorem rk_no {v : Nat} (h : ∀ k, ¬ lv g who s k v) : rkN g who s v = -1 := by
  unfold rkN
  rw [dif_neg]
  rintro ⟨k, hk⟩
  exact h k hk.1
theorem rk_cases (v : Nat) : (rkN g who s v = -1 ∧ ∀ k, ¬ lv g who s k v) ∨ ∃ k : Nat, rkN g who s v = k ∧ atR g who s v k := by
  by_cases h : ∃ k, lv g who s k v
  · obtain ⟨k, hk⟩ := h
    obtain ⟨j, _, hj⟩ := lv_at hk
    exact .inr ⟨j, rk_at hj, hj⟩
  · exact .inl ⟨rk_no fun k hk => h ⟨k, hk⟩, fun k hk => h ⟨k, hk⟩⟩

/-- In the end. -/
theorem Inv.fin (I : Inv g who s Dn P c a L R []) (hm : mayE g = 0) (U : Und g who s Dn R) (hd : ∀ u, Dn u a = true) : R = ranksL g who s := by
  refine tab_ext I.lenR fun v hv => ?_
  have hl : v < R.length := by rw [I.lenR]; exact hv
  have e : R[v]? = some (R.getD v 0) := by simp [hl]
  rw [e]
  congr 1
  rcases Int.lt_or_le (R.getD v 0) 0 with q | q
  · rw [I.neg v hv q, rk_no]
    intro k hk
    have := (I.below hm U k v hv hk (.inr ⟨rfl, hd⟩)).1
    omega
  · obtain ⟨k, hk⟩ : ∃ k : Nat, R.getD v 0 = k := ⟨(R.getD v 0).toNat, by omega⟩
    rw [hk, rk_at (I.r v hv k hk)]

theorem nodup_len : ∀ {n : Nat} {l : List Nat}, l.Nodup → (∀ x ∈ l, x < n) → l.length ≤ n
  | 0, [], _, _ => Nat.le_refl _
  | 0, x :: l, _, h => by have := h x (by simp); omega
  | n + 1, l, hn, h => by
    have h1 := nodup_len (n := n) (l := l.erase n) (hn.erase n) (fun x hx => by
      have hx' := List.mem_of_mem_erase hx
      have := h x hx'
      have : x ≠ n := by rintro rfl; exact (List.Nodup.mem_erase_iff hn).1 hx |>.1 rfl
      omega)
    have : l.length ≤ (l.erase n).length + 1 := by rw [List.length_erase]; split <;> omega
    omega
theorem Inv.len (I : Inv g who s Dn P c a L R T) : T.length ≤ g.owner.length := by
  have h := nodup_len (n := g.owner.length) (l := T.map Prod.fst) (by
    rw [List.nodup_iff_pairwise_ne, List.pairwise_map]
    refine List.Pairwise.imp_of_mem ?_ (List.nodup_iff_pairwise_ne.1 I.nd)
    intro p q hp hq hne e
    have h1 := ((I.t p).1 hp).2.1
    have h2 := ((I.t q).1 hq).2.1
    rw [e, h2] at h1
    exact hne (Prod.ext e (by omega))) (by
    intro x hx
    obtain ⟨p, hp, rfl⟩ := List.mem_map.1 hx
    exact ((I.t p).1 hp).1)
  simpa using h

/-- No rank is greater than how many vertices there are. -/
theorem rank_le {v k : Nat} (h : atR g who s v k) : k ≤ g.owner.length := by
  have key : ∀ j, j ≤ k → j ≤ cntS (lev g who s j) := by
    intro j
    induction j with
    | zero => intro _; omega
    | succ j ih =>
      intro hj
      have ih := ih (by omega)
      have hle : leS g.owner.length (lev g who s j) (lev g who s (j + 1)) := fun u hu q => lv_mono (k := j + 1) q (by omega)
      have hne : lev g who s j ≠ lev g who s (j + 1) := by
        intro e
        have hst : ∀ i, lev g who s (j + i) = lev g who s j := by
          intro i
          induction i with
          | zero => rfl
          | succ i ihi =>
            rw [← Nat.add_assoc, lev, ihi, ← lev]
            exact e.symm
        have := h.1
        unfold lv at this
        rw [show k = j + (k - j) by omega, hst] at this
        exact h.2 j (by omega) this
      have := (cnt_mono (lev_len j) (lev_len (j + 1)) hle).2 hne
      omega
  have h1 := key k (Nat.le_refl _)
  have h2 := cntS_le (lev g who s k)
  rw [lev_len] at h2
  omega
end
end Go.Par
