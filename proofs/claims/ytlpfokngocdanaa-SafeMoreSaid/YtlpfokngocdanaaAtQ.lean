/- The rounds in which ranks are found: plain laws. -/
import Derived.Test.YtlpfokngocdanaaAtP
set_option linter.unusedSimpArgs false
set_option linter.unusedVariables false
namespace Go.Par

def giveR (R : List Int) (v k : Nat) : List Int := if R.getD v 0 < 0 then R.set v (k : Int) else R
def giveT (R : List Int) (T : List Pr) (v k : Nat) : List Pr := if R.getD v 0 < 0 then pushL T (v, k) else T
def lensL (g : G) : List Int := tab g.owner.length fun v => ((nx g v).length : Int)

section
variable {g : G} {who : Int} {s : List Bool} {L R : List Int} {T : List Pr}

def Ph1 (g : G) (who : Int) (s : List Bool) (x : Nat) (R : List Int) (T : List Pr) : Prop :=
  Inv g who s (fun _ _ => false) (fun _ => false) 0 g.owner.length (lensL g) R T ∧ ∀ v, v < g.owner.length → v < x → R.getD v 0 < 0 → hasN s v = false
def Ph2 (g : G) (who : Int) (s : List Bool) (x : Nat) (R : List Int) (T : List Pr) : Prop :=
  Ph1 g who s g.owner.length R T ∧ ∀ v, v < g.owner.length → v < x → R.getD v 0 < 0 → deadP g (1 - who) v = false

theorem ph1_zero : Ph1 g who s 0 (tab g.owner.length fun _ => -1) [] := by
  have hR : ∀ v, v < g.owner.length → (tab g.owner.length fun _ => (-1 : Int)).getD v 0 = -1 := fun v hv => by rw [getD_tab, if_pos hv]
  refine ⟨⟨length_tab _ _, length_tab _ _, heap_nil, List.nodup_nil, ?_, ?_, ?_, ?_, ?_, ?_, ?_, ?_, ?_⟩, fun v _ h => by omega⟩
  · intro v hv
    rw [lensL, getD_tab, if_pos hv]
    simp
  · intro p
    constructor
    · intro h; cases h
    · rintro ⟨h1, h2, _⟩
      rw [hR _ h1] at h2; omega
  · intro v hv k hk; rw [hR v hv] at hk; omega
  · intro v hv _; exact hR v hv
  · intro v hv h; cases h
  · intro p h; cases h
  · intro v w hw h; cases h
  · intro w hw h; cases h
  · intro h; omega

theorem ph1_step {x : Nat} (hx : x < g.owner.length) (h : Ph1 g who s x R T) : (hasN s x = true → Ph1 g who s (x + 1) (giveR R x 0) (giveT R T x 0)) ∧ (hasN s x = false → Ph1 g who s (x + 1) R T) := by
  obtain ⟨I, h⟩ := h
  have hl : x < R.length := by rw [I.lenR]; exact hx
  refine ⟨fun hs => ?_, fun hs => ⟨I, fun v hv h1 h2 => ?_⟩⟩
  · unfold giveR giveT
    by_cases q : R.getD x 0 < 0
    · rw [if_pos q, if_pos q]
      refine ⟨I.give hx q (Nat.le_refl 0) ⟨(lv_zero hx).2 hs, fun j hj => by omega⟩, fun v hv h1 h2 => ?_⟩
      rw [getD_set hl] at h2
      by_cases e : x = v
      · rw [if_pos e] at h2; simp at h2
      · rw [if_neg e] at h2; exact h v hv (by omega) h2
    · rw [if_neg q, if_neg q]
      refine ⟨I, fun v hv h1 h2 => ?_⟩
      by_cases e : x = v
      · subst e; exact absurd h2 q
      · exact h v hv (by omega) h2
  · by_cases e : x = v
    · subst e; exact hs
    · exact h v hv (by omega) h2

theorem ph2_step {x : Nat} (hm : mayE g = 0) (hw : who = 0 ∨ who = 1) (hx : x < g.owner.length) (h : Ph2 g who s x R T) :
    (deadP g (1 - who) x = true → Ph2 g who s (x + 1) (giveR R x 1) (giveT R T x 1)) ∧ (deadP g (1 - who) x = false → Ph2 g who s (x + 1) R T) := by
  obtain ⟨⟨I, h1⟩, h2⟩ := h
  have hl : x < R.length := by rw [I.lenR]; exact hx
  refine ⟨fun hs => ?_, fun hs => ⟨⟨I, h1⟩, fun v hv k1 k2 => ?_⟩⟩
  · unfold giveR giveT
    by_cases q : R.getD x 0 < 0
    · rw [if_pos q, if_pos q]
      have hin := h1 x hx hx q
      have hk : atR g who s x 1 := by
        refine ⟨(lv_succ hx).2 (.inr (force_iff.2 (.inr ?_))), fun j hj hl => ?_⟩
        · simp only [deadP, Bool.and_eq_true, beq_iff_eq] at hs
          obtain ⟨d1, d2⟩ := hs
          refine ⟨fun e => ?_, fun w hw => ?_⟩
          · have d1' : ow g x = 1 - who := d1
            rw [e] at d1'; omega
          · have : nx g x = [] := List.eq_nil_of_length_eq_zero d2
            rw [this] at hw; cases hw
        · obtain rfl : j = 0 := by omega
          rw [lv_zero hx, hin] at hl; cases hl
      refine ⟨⟨I.give hx q (Nat.zero_le _) hk, fun v hv k1 k2 => ?_⟩, fun v hv k1 k2 => ?_⟩
      · rw [getD_set hl] at k2
        by_cases e : x = v
        · rw [if_pos e] at k2; simp at k2
        · rw [if_neg e] at k2; exact h1 v hv k1 k2
      · rw [getD_set hl] at k2
        by_cases e : x = v
        · rw [if_pos e] at k2; simp at k2
        · rw [if_neg e] at k2; exact h2 v hv (by omega) k2
    · rw [if_neg q, if_neg q]
      refine ⟨⟨I, h1⟩, fun v hv k1 k2 => ?_⟩
      by_cases e : x = v
      · subst e; exact absurd k2 q
      · exact h2 v hv (by omega) k2
  · by_cases e : x = v
    · subst e; exact hs
    · exact h2 v hv (by omega) k2

/-- Between two rounds. -/
def InO (g : G) (who : Int) (s : List Bool) (P : Nat → Bool) (L R : List Int) (T : List Pr) : Prop :=
  ∃ c a, Inv g who s (fun _ w => P w) P c a L R T ∧ Und g who s (fun _ w => P w) R

theorem ino_zero (hm : mayE g = 0) (hw : who = 0 ∨ who = 1) (h : Ph2 g who s g.owner.length R T) : InO g who s (fun _ => false) (lensL g) R T := by
  obtain ⟨⟨I, h1⟩, h2⟩ := h
  refine ⟨0, g.owner.length, I, fun v hv hq => ⟨h1 v hv hv hq, fun _ _ _ => rfl, fun e => ?_⟩⟩
  have hd := h2 v hv hv hq
  have ho := ow_ok hm hv
  cases hn : nx g v with
  | nil =>
    exfalso
    have : deadP g (1 - who) v = true := by
      have e1 : g.owner.getD v 0 = 1 - who := by
        have : ow g v = 1 - who := by omega
        exact this
      have e2 : (g.next.getD v []).length = 0 := by
        have := congrArg List.length hn
        simpa using this
      simp only [deadP, e1, e2]; simp
    rw [hd] at this; cases this
  | cons w l => exact ⟨w, by simp, rfl⟩

def Dny (g : G) (Po : Nat → Bool) (a y : Nat) (u w : Nat) : Bool := Po w || (w == a && ((bef g a).take y).contains (u : Int))
def InE (g : G) (who : Int) (s : List Bool) (Po : Nat → Bool) (c a y : Nat) (L R : List Int) (T : List Pr) : Prop :=
  Inv g who s (Dny g Po a y) (fun w => Po w || w == a) c a L R T ∧ Und g who s (Dny g Po a y) R ∧ a < g.owner.length ∧ Po a = false ∧ atR g who s a c

theorem ine_zero {P : Nat → Bool} (h : InO g who s P L R T) (hT : 0 < T.length) : InE g who s P (popV T).2 (popV T).1 0 L R (popL T) := by
  obtain ⟨c, a, I, U⟩ := h
  obtain ⟨h1, h2, h3, h4, J⟩ := I.pop (fun w _ h _ => h) hT
  have e : Dny g P (popV T).1 0 = fun _ w => P w := by
    funext u w
    simp [Dny]
  unfold InE
  rw [e]
  exact ⟨J, U, h1, h2, h4⟩

theorem mem_bef {a : Nat} {u : Int} (hm : mayE g = 0) : u ∈ bef g a ↔ ∃ v : Nat, u = v ∧ v < g.owner.length ∧ (a : Int) ∈ nx g v := by
  unfold bef
  rw [(may_ok hm).2.1]
  simp only [List.mem_map, List.mem_filter, List.mem_range, List.contains_iff_mem]
  constructor
  · rintro ⟨v, ⟨h1, h2⟩, rfl⟩; exact ⟨v, rfl, h1, by simpa using h2⟩
  · rintro ⟨v, rfl, h1, h2⟩; exact ⟨v, ⟨h1, by simpa using h2⟩, rfl⟩
theorem nodup_bef {a : Nat} : (bef g a).Nodup := by
  unfold bef
  rw [List.nodup_iff_pairwise_ne, List.pairwise_map]
  refine List.Pairwise.imp ?_ (List.Pairwise.filter _ (List.nodup_iff_pairwise_ne.1 List.nodup_range))
  intro x y h e
  exact h (Int.ofNat.inj e)

theorem ine_step {Po : Nat → Bool} {c a y : Nat} (hm : mayE g = 0) (h : InE g who s Po c a y L R T) (hy : y < (bef g a).length) : ∃ v : Nat, (bef g a)[y] = v ∧ v < g.owner.length ∧ 0 < L.getD v 0 ∧ L.getD v 0 ≤ 3000 ∧
    ((ow g v = who ∨ L.getD v 0 - 1 = 0) → InE g who s Po c a (y + 1) (L.set v (L.getD v 0 - 1)) (giveR R v (c + 1)) (giveT R T v (c + 1))) ∧
    (¬ (ow g v = who ∨ L.getD v 0 - 1 = 0) → InE g who s Po c a (y + 1) (L.set v (L.getD v 0 - 1)) R T) := by
  obtain ⟨I, U, ha, hPa, hac⟩ := h
  obtain ⟨v, hv, hvn, hx⟩ := (mem_bef hm).1 (List.getElem_mem hy)
  have hnotin : (v : Int) ∉ (bef g a).take y := by
    intro q
    have hd := nodup_bef (g := g) (a := a)
    rw [← List.take_append_drop y (bef g a), List.drop_eq_getElem_cons hy, hv] at hd
    exact (List.nodup_append.1 hd).2.2 _ q _ (by simp) rfl
  have hd : Dny g Po a y v a = false := by
    simp only [Dny, hPa, Bool.false_or, beq_self_eq_true, Bool.true_and]
    simpa using hnotin
  have e : (fun u w => Dny g Po a y u w || u == v && w == a) = Dny g Po a (y + 1) := by
    funext u w
    simp only [Dny, List.take_succ_eq_append_getElem hy, hv, List.contains_eq_mem, List.mem_append, List.mem_singleton, Int.natCast_inj, Bool.decide_or]
    by_cases e2 : w = a
    · by_cases e1 : u = v <;> simp [e1, e2]
    · have e3 : (w == a) = false := by simp [e2]
      simp [e3]
  obtain ⟨x0, x1, J⟩ := I.see hm hvn ha (by simp) hx hd
  rw [e] at J
  have hlR : v < R.length := by rw [I.lenR]; exact hvn
  have hcount := J.l v hvn
  rw [getD_set (by rw [I.lenL]; exact hvn), if_pos rfl] at hcount
  have same : ∀ u, u ≠ v → ∀ w, Dny g Po a (y + 1) u w = Dny g Po a y u w := by
    intro u hu w
    rw [← e]; simp [hu]
  have Ug : ∀ k : Nat, Und g who s (Dny g Po a (y + 1)) (R.set v (k : Int)) := by
    intro k u hu hq
    rw [getD_set hlR] at hq
    by_cases e1 : v = u
    · rw [if_pos e1] at hq; omega
    · rw [if_neg e1] at hq
      obtain ⟨q1, q2, q3⟩ := U u hu hq
      refine ⟨q1, fun q w hw => by rw [same u (Ne.symm e1)]; exact q2 q w hw, fun q => ?_⟩
      obtain ⟨w, hw, hq⟩ := q3 q
      exact ⟨w, hw, by rw [same u (Ne.symm e1)]; exact hq⟩
  have Un : (R.getD v 0 < 0 → ow g v ≠ who ∧ L.getD v 0 - 1 ≠ 0) → Und g who s (Dny g Po a (y + 1)) R := by
    intro hc u hu hq
    by_cases e1 : v = u
    · subst e1
      obtain ⟨c1, c2⟩ := hc hq
      refine ⟨(U v hu hq).1, fun q => absurd q c1, fun _ => ?_⟩
      have hpos : 0 < (nx g v).countP (fun w => !Dny g Po a (y + 1) v w.toNat) := by omega
      obtain ⟨w, hw, hq⟩ := List.countP_pos_iff.1 hpos
      exact ⟨w, hw, by simpa using hq⟩
    · obtain ⟨q1, q2, q3⟩ := U u hu hq
      refine ⟨q1, fun q w hw => by rw [same u (Ne.symm e1)]; exact q2 q w hw, fun q => ?_⟩
      obtain ⟨w, hw, hq⟩ := q3 q
      exact ⟨w, hw, by rw [same u (Ne.symm e1)]; exact hq⟩
  refine ⟨v, hv, hvn, x0, x1, fun hc => ?_, fun hc => ⟨J, Un fun _ => ⟨fun q => hc (.inl q), fun q => hc (.inr q)⟩, ha, hPa, hac⟩⟩
  unfold giveR giveT
  by_cases q : R.getD v 0 < 0
  · rw [if_pos q, if_pos q]
    have hk : atR g who s v (c + 1) := I.rank hm U hvn ha hx q (by
      rcases hc with hc | hc
      · exact .inl hc
      · refine .inr fun w hw hwa => ?_
        obtain ⟨w0, w1⟩ := (nx_ok hm hvn).2 w hw
        have hz : (nx g v).countP (fun w => !Dny g Po a (y + 1) v w.toNat) = 0 := by omega
        have := List.countP_eq_zero.1 hz w hw
        have e3 : ¬ w.toNat = a := by omega
        rw [← e] at this
        simpa [e3] using this)
    exact ⟨J.give hvn q (by omega) hk, Ug (c + 1), ha, hPa, hac⟩
  · rw [if_neg q, if_neg q]
    exact ⟨J, Un fun h => absurd h q, ha, hPa, hac⟩

theorem ine_done {Po : Nat → Bool} {c a : Nat} (hm : mayE g = 0) (h : InE g who s Po c a (bef g a).length L R T) : InO g who s (fun w => Po w || w == a) L R T := by
  obtain ⟨I, U, ha, hPa, hac⟩ := h
  have hall : ∀ v, v < g.owner.length → (a : Int) ∈ nx g v → Dny g Po a (bef g a).length v a = true := by
    intro v hv hx
    simp only [Dny, List.take_length, beq_self_eq_true, Bool.true_and, Bool.or_eq_true]
    right
    rw [List.contains_iff_mem]
    exact (mem_bef hm).2 ⟨v, rfl, hv, hx⟩
  exact ⟨c, a, I.done hm hall, U.done I hm hall⟩

theorem ino_fin {P : Nat → Bool} (hm : mayE g = 0) (h : InO g who s P L R []) : R = ranksL g who s := by
  obtain ⟨c, a, I, U⟩ := h
  refine tab_ext I.lenR fun v hv => ?_
  have hl : v < R.length := by rw [I.lenR]; exact hv
  have e : R[v]? = some (R.getD v 0) := by simp [hl]
  rw [e]
  congr 1
  have I' : Inv g who s (fun _ w => P w) P c g.owner.length L R [] := { I with f := fun w hw h _ _ => h, at_ := fun h => by omega }
  rcases Int.lt_or_le (R.getD v 0) 0 with q | q
  · rw [I.neg v hv q, rk_no]
    intro k hk
    have key : ∀ (j w : Nat), w < g.owner.length → lv g who s j w → 0 ≤ R.getD w 0 ∧ P w = true := by
      intro j
      induction j using Nat.strongRecOn with
      | ind j ih =>
        intro w hw hl
        have hR : 0 ≤ R.getD w 0 := by
          rcases Int.lt_or_le (R.getD w 0) 0 with q | q
          · exfalso
            obtain ⟨u1, u2, u3⟩ := U w hw q
            have hjk : ∀ k, k ≤ j → ¬ lv g who s k w := by
              intro k
              induction k with
              | zero => intro _ h; rw [lv_zero hw, u1] at h; cases h
              | succ k ihk =>
                intro hk h
                rcases (lv_succ hw).1 h with h | h
                · exact ihk (by omega) h
                · have hb : ∀ x ∈ nx g w, hasN (lev g who s k) x.toNat = true → P x.toNat = true := fun x hx hq => by
                    obtain ⟨x0, x1⟩ := (nx_ok hm hw).2 x hx
                    exact (ih k (by omega) x.toNat (by omega) hq).2
                  rcases force_iff.1 h with ⟨h1, x, hx, hq⟩ | ⟨h1, h2⟩
                  · have := hb x hx hq
                    have q2 : P x.toNat = false := u2 h1 x hx
                    rw [q2] at this
                    cases this
                  · obtain ⟨x, hx, hq⟩ := u3 h1
                    have q2 : P x.toNat = false := hq
                    rw [hb x hx (h2 x hx)] at q2
                    cases q2
            exact hjk j (Nat.le_refl _) hl
          · exact q
        refine ⟨hR, ?_⟩
        obtain ⟨k, hk⟩ : ∃ k : Nat, R.getD w 0 = k := ⟨(R.getD w 0).toNat, by omega⟩
        cases q : P w with
        | true => rfl
        | false => exact absurd ((I.t (w, k)).2 ⟨hw, hk, q⟩) (by simp)
    have := (key k v hv hk).1
    omega
  · obtain ⟨k, hk⟩ : ∃ k : Nat, R.getD v 0 = k := ⟨(R.getD v 0).toNat, by omega⟩
    rw [hk, rk_at (I.r v hv k hk)]
end
end Go.Par
