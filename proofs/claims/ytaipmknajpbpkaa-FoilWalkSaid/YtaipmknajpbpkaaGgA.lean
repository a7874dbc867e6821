/- Texts GcA GcB GcC, one behind another. -/
import Derived.Test.YtaipmknajpbpkaaPlL
import Derived.Test.YtaipmknajpbpkaaCgA
import Derived.Test.YtaipmknajpbpkaaPyC
set_option linter.unusedSimpArgs false
set_option linter.unusedVariables false
set_option maxRecDepth 8000
namespace Go.Par

section
variable {E : Nat → Nat → Prop} {S : Nat → Prop} {c : Nat}
/-- What holds where one goes on along a circle, holds all along it. -/
theorem Way.strong {P : Nat → Prop} (h : Way E S c c) (hP : ∀ a b, S a → S b → E a b → P a) : Way E (fun a => S a ∧ P a) c c := by
  refine h.circle.sub fun a q => ⟨q.1, ?_⟩
  obtain ⟨w, h1, h2, _⟩ := q.2.2.head
  exact hP a w q.1 h1 h2
/-- A counter that does not go on at one place does not go on at all, along a circle. -/
theorem Way.ring {m t : Nat} {f : Nat → Nat} {M : Nat → Prop} (ht : t < m) (hf : ∀ a, S a → f a < m) (hs : ∀ a b, S a → S b → E a b → (M a → f b = (f a + 1) % m) ∧ (¬ M a → f b = f a)) (hno : ∀ a, S a → f a = t → ¬ M a) (h : Way E S c c) : Way E (fun a => S a ∧ ¬ M a) c c := by
  obtain ⟨d, hd⟩ : ∃ d : Nat → Nat, ∀ a, d a = if f a ≤ t then t - f a else t + m - f a := ⟨fun a => if f a ≤ t then t - f a else t + m - f a, fun a => rfl⟩
  have key : ∀ a b, S a → S b → E a b → (M a → d b < d a) ∧ (¬ M a → d b = d a) := by
    intro a b ha hb e
    obtain ⟨h1, h2⟩ := hs a b ha hb e
    refine ⟨fun hM => ?_, fun hM => by rw [hd, hd, h2 hM]⟩
    have q := h1 hM
    have n := hno a ha
    have fa := hf a ha
    have ne : f a ≠ t := fun z => n z hM
    by_cases w : f a + 1 < m
    · rw [Nat.mod_eq_of_lt w] at q
      rw [hd, hd, q]
      split <;> split <;> omega
    · have e1 : f a + 1 = m := by omega
      rw [e1, Nat.mod_self] at q
      rw [hd, hd, q]
      split <;> split <;> omega
  have fl := h.flat d fun a b ha hb e => by
    by_cases q : M a
    · exact Nat.le_of_lt ((key a b ha hb e).1 q)
    · exact Nat.le_of_eq ((key a b ha hb e).2 q)
  refine (fl.strong (P := fun a => ¬ M a) fun a b ha hb e q => ?_).sub fun a q => ⟨q.1.1, q.2⟩
  have := (key a b ha.1 hb.1 e).1 q
  rw [ha.2, hb.2] at this
  omega
end

/-! ### Least and greatest, step by step -/
def itL (F : List Bool → List Bool) (x : List Bool) : Nat → List Bool
  | 0 => x
  | k + 1 => F (itL F x k)
theorem itL_shift (F : List Bool → List Bool) (x : List Bool) : ∀ k, itL F (F x) k = itL F x (k + 1)
  | 0 => rfl
  | k + 1 => by rw [itL, itL_shift F x k]; rfl
theorem fixG_it (F : List Bool → List Bool) : ∀ (f : Nat) (x : List Bool), ∃ k, fixG F f x = itL F x k
  | 0, x => ⟨0, rfl⟩
  | f + 1, x => by
    by_cases e : F x = x
    · exact ⟨0, by rw [fixG_at e]; rfl⟩
    · obtain ⟨k, hk⟩ := fixG_it F f (F x)
      exact ⟨k + 1, by rw [fixG_step e, hk, itL_shift]⟩

theorem rows_len (g : G) (l : List (List Bool)) : (rowsL g l).length = max 1 l.length := by
  unfold rowsL
  split
  · rename_i e; rw [e]; rfl
  · rename_i e
    have : 0 < l.length := List.length_pos_iff.2 e
    omega
theorem top_has {g : G} {v : Nat} (hv : v < g.owner.length) : hasN (topL g) v = true := by
  rw [topL, has_not hv]; simp [hasN]
theorem bot_has {g : G} {v : Nat} (hv : v < g.owner.length) : hasN (botL g) v = false := by
  rw [botL, has_and hv]; simp [hasN]
theorem met_eq {g : G} {A : List (List Bool)} {i v : Nat} (hv : v < g.owner.length) (hi : i < max 1 A.length) : metB A i v = hasN ((rowsL g A).getD i []) v := by
  unfold metB rowsL
  by_cases e : A = []
  · subst e
    have : i = 0 := by simp at hi; omega
    subst this
    simp [top_has hv]
  · rw [if_neg e]
    have : A.isEmpty = false := by simpa using e
    rw [this, Bool.false_or]
theorem least_mono {g : G} (hm : mayE g = 0) {A : List (List Bool)} (hA : 0 < A.length) (row : List Bool) {x z : List Bool} (h : leS g.owner.length z x) : leS g.owner.length (leastL g A row z) (leastL g A row x) := by
  obtain ⟨h1, h2, h3⟩ := least_spec hm hA row x
  refine (least_spec hm hA row z).2.2 _ ?_
  have : leS g.owner.length (levelL g A (goalL g row z) (leastL g A row x)) (levelL g A (goalL g row x) (leastL g A row x)) := levelK_mono hm (or_mono (and_mono (leS.refl _) (force_mono hm h)) (leS.refl _)) _
  rw [h1] at this
  exact this

section
variable {g : G} {A : List (List Bool)} {row z : List Bool}
/-- The levels that one row of ensure is met by. -/
def lvK (g : G) (A : List (List Bool)) (row z : List Bool) (k : Nat) : List Bool := itL (levelL g A (goalL g row z)) (botL g) k
def xaK (g : G) (A : List (List Bool)) (row z : List Bool) (k a : Nat) : List Bool := great g (stepL g (sureL g (goalL g row z) (lvK g A row z k)) (A.getD a []))
theorem lvK_le (hm : mayE g = 0) (hA : 0 < A.length) : ∀ k, leS g.owner.length (lvK g A row z k) (leastL g A row z)
  | 0 => bot_le _
  | k + 1 => by
    obtain ⟨h1, _, _⟩ := least_spec hm hA row z
    have := (level_mon hm hA (goalL g row z)).mono _ _ (lvK_le hm hA k)
    rw [h1] at this
    exact this
theorem lvK_mono1 (hm : mayE g = 0) (hA : 0 < A.length) : ∀ k, leS g.owner.length (lvK g A row z k) (lvK g A row z (k + 1))
  | 0 => bot_le _
  | k + 1 => (level_mon hm hA (goalL g row z)).mono _ _ (lvK_mono1 hm hA k)
theorem lvK_mono (hm : mayE g = 0) (hA : 0 < A.length) {j k : Nat} (h : j ≤ k) : leS g.owner.length (lvK g A row z j) (lvK g A row z k) := by
  induction h with
  | refl => exact leS.refl _
  | step _ ih => exact ih.trans (lvK_mono1 hm hA _)
theorem lvK_ex (h : leastL g A row z = z) {v : Nat} (q : hasN z v = true) : ∃ k, hasN (lvK g A row z k) v = true := by
  obtain ⟨k, hk⟩ := fixG_it (levelL g A (goalL g row z)) (g.owner.length + 1) (botL g)
  refine ⟨k, ?_⟩
  unfold lvK
  rw [← hk]
  rw [← leastL, h]
  exact q
theorem lvK_has {v k : Nat} (hv : v < g.owner.length) : hasN (lvK g A row z (k + 1)) v = true ↔ ∃ a, a < A.length ∧ hasN (xaK g A row z k a) v = true := levelK_has hv _

/-- A least number. -/
theorem least_nat {P : Nat → Prop} (h : ∃ k, P k) : ∃ k, P k ∧ ∀ j, j < k → ¬ P j := by
  obtain ⟨k, hk⟩ := h
  induction k using Nat.strongRecOn with
  | _ k ih =>
    by_cases q : ∃ j, j < k ∧ P j
    · obtain ⟨j, h1, h2⟩ := q
      exact ih j h1 h2
    · exact ⟨k, hk, fun j hj hp => q ⟨j, hj, hp⟩⟩

noncomputable def leastN (P : Nat → Prop) : Nat := open Classical in if h : ∃ k, P k then Classical.choose (least_nat h) else 0
theorem leastN_spec {P : Nat → Prop} (h : ∃ k, P k) : P (leastN P) ∧ ∀ j, P j → leastN P ≤ j := by
  unfold leastN
  rw [dif_pos h]
  obtain ⟨h1, h2⟩ := Classical.choose_spec (least_nat h)
  exact ⟨h1, fun j hj => Nat.le_of_not_lt fun q => h2 j q hj⟩

noncomputable def rkV2 (g : G) (A : List (List Bool)) (row z : List Bool) (v : Nat) : Nat := leastN fun k => hasN (lvK g A row z k) v = true
noncomputable def akV (g : G) (A : List (List Bool)) (row z : List Bool) (v : Nat) : Nat := leastN fun a => a < A.length ∧ hasN (xaK g A row z (rkV2 g A row z v - 1) a) v = true

/-- One may go there, to meet the row. -/
def nearP (g : G) (A : List (List Bool)) (row z : List Bool) (v w : Nat) : Prop :=
  hasN z w = true ∧ (hasN row v = false → rkV2 g A row z w < rkV2 g A row z v ∨ (rkV2 g A row z w ≤ rkV2 g A row z v ∧ hasN (A.getD (akV g A row z v) []) v = false ∧ (rkV2 g A row z w = rkV2 g A row z v → akV g A row z w ≤ akV g A row z v)))

theorem force_nat (hm : mayE g = 0) {who : Int} {s : List Bool} {v : Nat} (hv : v < g.owner.length) : hasN (forceL g who s) v = true ↔ (ow g v = who ∧ ∃ w, gE g v w ∧ hasN s w = true) ∨ (ow g v ≠ who ∧ ∀ w, gE g v w → hasN s w = true) := by
  rw [has_force hv, force_iff]
  have nk := (nx_ok hm hv).2
  constructor
  · rintro (⟨h, w, hw, q⟩ | ⟨h, q⟩)
    · have := nk w hw
      exact .inl ⟨h, w.toNat, by show ((w.toNat : Nat) : Int) ∈ _; rw [show ((w.toNat : Nat) : Int) = w by omega]; exact hw, q⟩
    · exact .inr ⟨h, fun w hw => by have := q w hw; simpa using this⟩
  · rintro (⟨h, w, hw, q⟩ | ⟨h, q⟩)
    · exact .inl ⟨h, w, hw, by simpa using q⟩
    · exact .inr ⟨h, fun w hw => by
        have := nk w hw
        exact q w.toNat (by show ((w.toNat : Nat) : Int) ∈ _; rw [show ((w.toNat : Nat) : Int) = w by omega]; exact hw)⟩

theorem near_ex (hm : mayE g = 0) (hA : 0 < A.length) (h : leastL g A row z = z) (hz : forceL g 1 z = z) {v : Nat} (hv : v < g.owner.length) (q : hasN z v = true) :
    (ow g v = 1 → ∃ w, gE g v w ∧ nearP g A row z v w) ∧ (ow g v ≠ 1 → ∀ w, gE g v w → nearP g A row z v w) := by
  obtain ⟨r1, r2⟩ := leastN_spec (lvK_ex (row := row) (A := A) h q)
  have hr : leastN (fun k => hasN (lvK g A row z k) v = true) = rkV2 g A row z v := rfl
  rw [hr] at r1 r2
  -- what is wanted of a set that can be forced
  have go : ∀ s : List Bool, hasN (forceL g 1 s) v = true → (∀ w, w < g.owner.length → hasN s w = true → nearP g A row z v w) → (ow g v = 1 → ∃ w, gE g v w ∧ nearP g A row z v w) ∧ (ow g v ≠ 1 → ∀ w, gE g v w → nearP g A row z v w) := by
    intro s hs hp
    rcases (force_nat hm hv).1 hs with ⟨o, w, hw, k⟩ | ⟨o, k⟩
    · exact ⟨fun _ => ⟨w, hw, hp w (gE_lt hm hw hv) k⟩, fun n => absurd o n⟩
    · exact ⟨fun n => absurd n o, fun _ w hw => hp w (gE_lt hm hw hv) (k w hw)⟩
  by_cases hrow : hasN row v = true
  · refine go z (by rw [hz]; exact q) fun w hw k => ⟨k, fun n => ?_⟩
    rw [hrow] at n; cases n
  have r0 : rkV2 g A row z v ≠ 0 := fun e => by
    rw [e] at r1
    have := bot_has (g := g) hv
    rw [show lvK g A row z 0 = botL g from rfl, this] at r1
    cases r1
  obtain ⟨r, er⟩ : ∃ r, rkV2 g A row z v = r + 1 := ⟨rkV2 g A row z v - 1, by omega⟩
  rw [er] at r1
  have ex : ∃ a, a < A.length ∧ hasN (xaK g A row z (rkV2 g A row z v - 1) a) v = true := by
    rw [er]; exact (lvK_has hv).1 r1
  obtain ⟨⟨a1, a2⟩, a3⟩ := leastN_spec ex
  have ha : leastN (fun a => a < A.length ∧ hasN (xaK g A row z (rkV2 g A row z v - 1) a) v = true) = akV g A row z v := rfl
  rw [ha] at a1 a2 a3
  obtain ⟨a, ea⟩ : ∃ a, a = akV g A row z v := ⟨_, rfl⟩
  rw [← ea] at a1 a2 a3
  rw [er, show r + 1 - 1 = r from rfl] at a2
  have inz : ∀ k w, w < g.owner.length → hasN (lvK g A row z k) w = true → hasN z w = true := fun k w hw q => by
    have := lvK_le (row := row) (z := z) hm hA k w hw q
    rw [h] at this; exact this
  have e := (great_spec (step_mon hm (sureL g (goalL g row z) (lvK g A row z r)) (A.getD a []))).1
  have a2' := a2
  rw [xaK, ← e, stepL, has_or hv, Bool.or_eq_true] at a2
  rcases a2 with s | s
  · rw [sureL, has_or hv, Bool.or_eq_true] at s
    rcases s with s | s
    · rw [goalL, has_and hv, Bool.and_eq_true] at s
      exact absurd s.1 hrow
    · refine go _ s fun w hw k => ⟨inz _ w hw k, fun _ => .inl ?_⟩
      have := (leastN_spec (P := fun k => hasN (lvK g A row z k) w = true) ⟨_, k⟩).2 _ k
      have : rkV2 g A row z w ≤ r := this
      omega
  · rw [has_and hv, Bool.and_eq_true, has_not hv] at s
    refine go _ s.2 fun w hw k => ?_
    have k' : hasN (xaK g A row z r a) w = true := k
    have kl : hasN (lvK g A row z (r + 1)) w = true := (lvK_has hw).2 ⟨a, a1, k'⟩
    have le : rkV2 g A row z w ≤ r + 1 := (leastN_spec (P := fun k => hasN (lvK g A row z k) w = true) ⟨_, kl⟩).2 _ kl
    refine ⟨inz _ w hw kl, fun _ => .inr ⟨by omega, by rw [← ea]; simpa using s.1, fun eq => ?_⟩⟩
    rw [← ea]
    have er2 : rkV2 g A row z w - 1 = r := by omega
    have kw : a < A.length ∧ hasN (xaK g A row z (rkV2 g A row z w - 1) a) w = true := ⟨a1, by rw [er2]; exact k'⟩
    exact (leastN_spec (P := fun a => a < A.length ∧ hasN (xaK g A row z (rkV2 g A row z w - 1) a) w = true) ⟨_, kw⟩).2 _ kw
end
end Go.Par

set_option linter.unusedSimpArgs false
set_option linter.unusedVariables false
set_option linter.unusedSectionVars false
set_option maxRecDepth 8000
namespace Go.Par

section
variable (A E : List (List Bool))
abbrev kC : Nat := memsN A.length E.length
abbrev mC : Nat := max 1 A.length
abbrev nC : Nat := max 1 E.length
abbrev vC (p : Nat) : Nat := p / kC A E
abbrev iC (p : Nat) : Nat := p % kC A E / nC E
abbrev jC (p : Nat) : Nat := p % kC A E % nC E
abbrev MA (p : Nat) : Prop := metB A (iC A E p) (vC A E p) = true
abbrev ME (p : Nat) : Prop := metB E (jC A E p) (vC A E p) = true
end

section
variable {g : G} {A E : List (List Bool)} (h : cgErr g A E = 0) {p q : Nat}
include h
theorem cg_len : (cgG g A E).owner.length = g.owner.length * kC A E := length_tab _ _
theorem cg_ow (hp : p < g.owner.length * kC A E) : ow (cgG g A E) p = ow g (vC A E p) := by
  show (tab (g.owner.length * memsN A.length E.length) (cgOwn g (memsN A.length E.length))).getD p 0 = _
  rw [getD_tab, if_pos hp]; rfl
theorem cg_pr (hp : p < g.owner.length * kC A E) : prN (cgP g A E) p = onPrio A E (vC A E p) (p % kC A E) := by
  unfold prN
  show ((tab (g.owner.length * memsN A.length E.length) (cgPrio A E (memsN A.length E.length))).getD p 0).toNat = _
  rw [getD_tab, if_pos hp]; rfl
theorem cg_v (hp : p < g.owner.length * kC A E) : vC A E p < g.owner.length := cg_div hp
theorem cg_mem : p % kC A E < mC A * nC E := by
  have ok := cg_ok h
  exact Nat.lt_of_lt_of_eq (Nat.mod_lt p ok.k0) ok.ke
theorem cg_i : iC A E p < mC A := Nat.div_lt_of_lt_mul (by rw [Nat.mul_comm]; exact cg_mem h)
omit h in
theorem cg_j : jC A E p < nC E := Nat.mod_lt _ (by show 0 < max 1 _; omega)
theorem cg_at (w mem : Nat) (hm : mem < kC A E) : vC A E (w * kC A E + mem) = w ∧ (w * kC A E + mem) % kC A E = mem := divmod hm
theorem cg_lt {w mem : Nat} (hw : w < g.owner.length) (hm : mem < kC A E) : w * kC A E + mem < g.owner.length * kC A E := by
  have : (w + 1) * kC A E ≤ g.owner.length * kC A E := Nat.mul_le_mul_right _ hw
  rw [Nat.add_mul, Nat.one_mul] at this
  omega
theorem cg_then : onThen A E (vC A E p) (p % kC A E) < kC A E := by
  have ok := cg_ok h
  have := onThen_lt A E (vC A E p) (p % kC A E) (cg_mem h)
  rw [← ok.ke] at this
  exact this
theorem cg_edge (hp : p < g.owner.length * kC A E) : gE (cgG g A E) p q ↔ ∃ w, gE g (vC A E p) w ∧ q = w * kC A E + onThen A E (vC A E p) (p % kC A E) := by
  have ok := cg_ok h
  have nk := (nx_ok ok.m (cg_v h hp)).2
  have e : nx (cgG g A E) p = cgRow g A E (kC A E) p := by
    show (tab (g.owner.length * memsN A.length E.length) (cgRow g A E (memsN A.length E.length))).getD p [] = _
    rw [getD_tab, if_pos hp]
  unfold gE
  rw [e, cgRow, List.mem_map]
  constructor
  · rintro ⟨w, hw, hq⟩
    have := nk w hw
    obtain ⟨u, rfl⟩ : ∃ u : Nat, w = u := ⟨w.toNat, by omega⟩
    refine ⟨u, hw, ?_⟩
    have : ((u * kC A E + onThen A E (vC A E p) (p % kC A E) : Nat) : Int) = (q : Int) := by rw [← hq]; push_cast; rfl
    omega
  · rintro ⟨w, hw, rfl⟩
    exact ⟨(w : Int), hw, by push_cast; rfl⟩
theorem cg_step (hp : p < g.owner.length * kC A E) (e : gE (cgG g A E) p q) : gE g (vC A E p) (vC A E q) ∧ q < g.owner.length * kC A E ∧ q = vC A E q * kC A E + onThen A E (vC A E p) (p % kC A E) ∧
    ((MA A E p → iC A E q = (iC A E p + 1) % mC A) ∧ (¬ MA A E p → iC A E q = iC A E p)) ∧ ((ME A E p → jC A E q = (jC A E p + 1) % nC E) ∧ (¬ ME A E p → jC A E q = jC A E p)) := by
  have ok := cg_ok h
  obtain ⟨w, hw, rfl⟩ := (cg_edge h hp).1 e
  have ht := cg_then h (p := p)
  obtain ⟨e1, e2⟩ := cg_at h w _ ht
  have hwn := gE_lt ok.m hw (cg_v h hp)
  have jl := onJ_lt E (vC A E p) (p % kC A E)
  have n0 : 0 < nC E := by show 0 < max 1 _; omega
  have i1 : onThen A E (vC A E p) (p % kC A E) / nC E = onI A E (vC A E p) (p % kC A E) := by
    unfold onThen
    rw [Nat.mul_comm, Nat.mul_add_div n0, Nat.div_eq_of_lt jl, Nat.add_zero]
  have j1 : onThen A E (vC A E p) (p % kC A E) % nC E = onJ E (vC A E p) (p % kC A E) := by
    unfold onThen
    rw [Nat.mul_comm, Nat.mul_add_mod, Nat.mod_eq_of_lt jl]
  refine ⟨by rw [e1]; exact hw, cg_lt h hwn ht, by rw [e1], ?_, ?_⟩
  · show ((metB A _ _ = true → _) ∧ (¬ metB A _ _ = true → _))
    unfold iC
    rw [e2, i1, onI]
    exact ⟨fun q => by rw [if_pos q], fun q => by rw [if_neg q]⟩
  · show ((metB E _ _ = true → _) ∧ (¬ metB E _ _ = true → _))
    unfold jC
    rw [e2, j1, onJ]
    exact ⟨fun q => by rw [if_pos q], fun q => by rw [if_neg q]⟩
theorem cg_two (hp : p < g.owner.length * kC A E) : (ME A E p ∧ jC A E p = nC E - 1 → prN (cgP g A E) p = 2) ∧ (prN (cgP g A E) p = 2 → ME A E p) ∧ (prN (cgP g A E) p = 1 → MA A E p) ∧ (MA A E p ∧ iC A E p = mC A - 1 → 1 ≤ prN (cgP g A E) p) ∧ prN (cgP g A E) p ≤ 2 := by
  rw [cg_pr h hp]
  unfold onPrio
  refine ⟨fun q => ?_, fun q => ?_, fun q => ?_, fun q => ?_, ?_⟩
  · rw [if_pos]
    simp only [Bool.and_eq_true, beq_iff_eq]
    exact q
  · split at q
    · rename_i z; simp only [Bool.and_eq_true] at z; exact z.1
    · split at q <;> cases q
  · split at q
    · cases q
    · split at q
      · rename_i z; simp only [Bool.and_eq_true] at z; exact z.1
      · cases q
  · split
    · omega
    · rw [if_pos]
      · exact Nat.le_refl _
      · simp only [Bool.and_eq_true, beq_iff_eq]
        exact q
  · split
    · exact Nat.le_refl _
    · split <;> omega

theorem cg_pok : POk (cgG g A E) (cgP g A E) := by
  have e : ∀ p, fI (cgP g A E) p = if p < g.owner.length * kC A E then cgPrio A E (kC A E) p else 0 := fun p => by
    show (tab (g.owner.length * memsN A.length E.length) (cgPrio A E (memsN A.length E.length))).getD p 0 = _
    rw [getD_tab]
  refine ⟨cg_may h, by rw [cg_len h]; exact length_tab _ _, fun p => ?_, fun p => ?_⟩
  · rw [e]; split
    · exact (cgPrio_le A E _ _).1
    · omega
  · rw [e]; split
    · have := (cgPrio_le A E (kC A E) p).2; omega
    · omega

/-- From where the three fixpoints say so Sys wins, with whatever memory. -/
theorem sys_wins (hp : p < g.owner.length * kC A E) (hz : hasN (solveL g A E).1 (vC A E p) = true) : fI (winL (cgG g A E) (cgP g A E)) p = 1 := by
  have ok := cg_ok h
  have hm := ok.m
  have pok := cg_pok h
  obtain ⟨s1, s2, _, _⟩ := solve_spec hm A E
  have hA := rowsL_pos g A
  have fix := round_fix hm hA (rowsL g E) s2 s1
  have frc := solve_forced hm A E
  obtain ⟨Z, hZ⟩ : ∃ Z, Z = (solveL g A E).1 := ⟨_, rfl⟩
  rw [← hZ] at hz fix frc
  clear s1 s2
  have lA : (rowsL g A).length = mC A := rows_len g A
  have lE : (rowsL g E).length = nC E := rows_len g E
  have near := fun (p : Nat) (hp : p < g.owner.length * kC A E) (q : hasN Z (vC A E p) = true) => near_ex (row := (rowsL g E).getD (jC A E p) []) hm hA (fix _ (by rw [lE]; exact cg_j)) frc (cg_v h hp) q
  obtain ⟨T, hT⟩ : ∃ T : Nat → Int, ∀ p, (∃ w, gE g (vC A E p) w ∧ nearP g (rowsL g A) ((rowsL g E).getD (jC A E p) []) Z (vC A E p) w) → ∃ w, gE g (vC A E p) w ∧ nearP g (rowsL g A) ((rowsL g E).getD (jC A E p) []) Z (vC A E p) w ∧ T p = ((w * kC A E + onThen A E (vC A E p) (p % kC A E) : Nat) : Int) := by
    refine ⟨fun p => open Classical in if q : ∃ w, gE g (vC A E p) w ∧ nearP g (rowsL g A) ((rowsL g E).getD (jC A E p) []) Z (vC A E p) w then ((Classical.choose q * kC A E + onThen A E (vC A E p) (p % kC A E) : Nat) : Int) else 0, fun p q => ?_⟩
    refine ⟨Classical.choose q, (Classical.choose_spec q).1, (Classical.choose_spec q).2, ?_⟩
    simp only [q, dif_pos]
  have edge : ∀ p q, (p < g.owner.length * kC A E ∧ hasN Z (vC A E p) = true) → stE (gE (cgG g A E)) (ow (cgG g A E)) 1 T p q → nearP g (rowsL g A) ((rowsL g E).getD (jC A E p) []) Z (vC A E p) (vC A E q) := by
    rintro p q ⟨hp, hz⟩ ⟨e, ho⟩
    obtain ⟨st1, st2, st3, _, _⟩ := cg_step h hp e
    rw [cg_ow h hp] at ho
    obtain ⟨n1, n2⟩ := near p hp hz
    by_cases o : ow g (vC A E p) = 1
    · obtain ⟨w, w1, w2, w3⟩ := hT p (n1 o)
      have eq : q = w * kC A E + onThen A E (vC A E p) (p % kC A E) := by
        have := ho o
        rw [w3] at this
        omega
      have : vC A E q = w := by rw [eq]; exact (cg_at h w _ (cg_then h)).1
      rw [this]; exact w2
    · exact n2 o _ st1
  refine win_uniq pok (.inr rfl) (T := T) (D := fun p => p < g.owner.length * kC A E ∧ hasN Z (vC A E p) = true) (fun v hv => by rw [cg_len h]; exact hv.1) ⟨?_, ?_, ?_⟩ ⟨hp, hz⟩
  · rintro p ⟨hp, hz⟩ o
    rw [cg_ow h hp] at o
    obtain ⟨w, w1, w2, w3⟩ := hT p ((near p hp hz).1 o)
    refine ⟨_, w3, (cg_edge h hp).2 ⟨w, w1, rfl⟩, cg_lt h (gE_lt hm w1 (cg_v h hp)) (cg_then h), ?_⟩
    rw [(cg_at h w _ (cg_then h)).1]
    exact w2.1
  · rintro p ⟨hp, hz⟩ o q e
    rw [cg_ow h hp] at o
    obtain ⟨st1, st2, _⟩ := cg_step h hp e
    exact ⟨st2, ((near p hp hz).2 o _ st1).1⟩
  · rintro p ⟨hp, hz⟩ podd way
    have hodd : prN (cgP g A E) p = 1 := by
      have := (cg_two h hp).2.2.2.2
      have : prN (cgP g A E) p % 2 = 1 := by omega
      omega
    rw [hodd] at way
    -- no counter of ensure goes on
    have w1 := way.ring (m := nC E) (t := nC E - 1) (f := jC A E) (M := ME A E) (by show max 1 E.length - 1 < max 1 E.length; omega) (fun a _ => cg_j) (fun a b ha hb e => (cg_step h ha.1.1 e.1).2.2.2.2) (fun a ha e hM => by
      have := (cg_two h ha.1.1).1 ⟨hM, e⟩
      have := ha.2
      omega)
    have w2 := w1.flat (jC A E) (fun a b ha hb e => Nat.le_of_eq ((cg_step h ha.1.1.1 e.1).2.2.2.2.2 ha.2))
    obtain ⟨J, hJ⟩ : ∃ J, J = jC A E p := ⟨_, rfl⟩
    rw [← hJ] at w2
    -- ranks stay the same
    have nr : ∀ a b, ((((a < g.owner.length * kC A E ∧ hasN Z (vC A E a) = true) ∧ prN (cgP g A E) a ≤ 1) ∧ ¬ ME A E a) ∧ jC A E a = J) → stE (gE (cgG g A E)) (ow (cgG g A E)) 1 T a b → rkV2 g (rowsL g A) ((rowsL g E).getD J []) Z (vC A E b) < rkV2 g (rowsL g A) ((rowsL g E).getD J []) Z (vC A E a) ∨ (rkV2 g (rowsL g A) ((rowsL g E).getD J []) Z (vC A E b) ≤ rkV2 g (rowsL g A) ((rowsL g E).getD J []) Z (vC A E a) ∧ hasN ((rowsL g A).getD (akV g (rowsL g A) ((rowsL g E).getD J []) Z (vC A E a)) []) (vC A E a) = false ∧ (rkV2 g (rowsL g A) ((rowsL g E).getD J []) Z (vC A E b) = rkV2 g (rowsL g A) ((rowsL g E).getD J []) Z (vC A E a) → akV g (rowsL g A) ((rowsL g E).getD J []) Z (vC A E b) ≤ akV g (rowsL g A) ((rowsL g E).getD J []) Z (vC A E a))) := by
      intro a b ha e
      have n := edge a b ha.1.1.1 e
      rw [ha.2] at n
      refine n.2 ?_
      have hv := cg_v h ha.1.1.1.1
      have := ha.1.2
      rw [ME, met_eq hv cg_j, ha.2] at this
      simpa using this
    have w3 := w2.flat (fun a => rkV2 g (rowsL g A) ((rowsL g E).getD J []) Z (vC A E a)) (fun a b ha hb e => by
      rcases nr a b ha e with q | q
      · exact Nat.le_of_lt q
      · exact q.1)
    have nr2 : ∀ a b, (((((a < g.owner.length * kC A E ∧ hasN Z (vC A E a) = true) ∧ prN (cgP g A E) a ≤ 1) ∧ ¬ ME A E a) ∧ jC A E a = J) ∧ rkV2 g (rowsL g A) ((rowsL g E).getD J []) Z (vC A E a) = rkV2 g (rowsL g A) ((rowsL g E).getD J []) Z (vC A E p)) → (((((b < g.owner.length * kC A E ∧ hasN Z (vC A E b) = true) ∧ prN (cgP g A E) b ≤ 1) ∧ ¬ ME A E b) ∧ jC A E b = J) ∧ rkV2 g (rowsL g A) ((rowsL g E).getD J []) Z (vC A E b) = rkV2 g (rowsL g A) ((rowsL g E).getD J []) Z (vC A E p)) → stE (gE (cgG g A E)) (ow (cgG g A E)) 1 T a b → hasN ((rowsL g A).getD (akV g (rowsL g A) ((rowsL g E).getD J []) Z (vC A E a)) []) (vC A E a) = false ∧ akV g (rowsL g A) ((rowsL g E).getD J []) Z (vC A E b) ≤ akV g (rowsL g A) ((rowsL g E).getD J []) Z (vC A E a) := by
      intro a b ha hb e
      rcases nr a b ha.1 e with q | ⟨q1, q2, q3⟩
      · have := ha.2; have := hb.2; omega
      · exact ⟨q2, q3 (by rw [ha.2, hb.2])⟩
    have w4 := w3.flat (fun a => akV g (rowsL g A) ((rowsL g E).getD J []) Z (vC A E a)) (fun a b ha hb e => (nr2 a b ha hb e).2)
    obtain ⟨al, hal⟩ : ∃ al, al = akV g (rowsL g A) ((rowsL g E).getD J []) Z (vC A E p) := ⟨_, rfl⟩
    have w5 := w4.strong (P := fun a => hasN ((rowsL g A).getD al []) (vC A E a) = false) (fun a b ha hb e => by
      have := (nr2 a b ha.1 hb.1 e).1
      rw [ha.2, ← hal] at this
      exact this)
    have hal2 : al < mC A := by
      have q := w5.fst
      have zv := q.1.1.1.1.1.1.2
      have fx := fix J (by rw [hJ, lE]; exact cg_j)
      have ex := lvK_ex (row := (rowsL g E).getD J []) fx hz
      have r1 := (leastN_spec ex).1
      have hr : leastN (fun k => hasN (lvK g (rowsL g A) ((rowsL g E).getD J []) Z k) (vC A E p) = true) = rkV2 g (rowsL g A) ((rowsL g E).getD J []) Z (vC A E p) := rfl
      rw [hr] at r1
      have hv := cg_v h hp
      have r0 : rkV2 g (rowsL g A) ((rowsL g E).getD J []) Z (vC A E p) ≠ 0 := fun e => by
        rw [e] at r1
        have := bot_has (g := g) hv
        rw [show lvK g (rowsL g A) ((rowsL g E).getD J []) Z 0 = botL g from rfl, this] at r1
        cases r1
      obtain ⟨r, er⟩ : ∃ r, rkV2 g (rowsL g A) ((rowsL g E).getD J []) Z (vC A E p) = r + 1 := ⟨rkV2 g (rowsL g A) ((rowsL g E).getD J []) Z (vC A E p) - 1, by omega⟩
      rw [er] at r1
      have ex2 : ∃ a, a < (rowsL g A).length ∧ hasN (xaK g (rowsL g A) ((rowsL g E).getD J []) Z (rkV2 g (rowsL g A) ((rowsL g E).getD J []) Z (vC A E p) - 1) a) (vC A E p) = true := by
        rw [er]; exact (lvK_has hv).1 r1
      have := (leastN_spec ex2).1.1
      rw [hal]; exact Nat.lt_of_lt_of_eq this lA
    have w6 := w5.ring (m := mC A) (t := al) (f := iC A E) (M := MA A E) hal2 (fun a _ => cg_i h) (fun a b ha hb e => (cg_step h ha.1.1.1.1.1.1.1 e.1).2.2.2.1) (fun a ha e hM => by
      have hv := cg_v h ha.1.1.1.1.1.1.1
      rw [MA, met_eq hv (cg_i h), e, ha.2] at hM
      cases hM)
    exact w6.fst.2 ((cg_two h hp).2.2.1 hodd)
end
end Go.Par

set_option linter.unusedSimpArgs false
set_option linter.unusedVariables false
set_option linter.unusedSectionVars false
set_option maxRecDepth 8000
namespace Go.Par

section
variable {g : G} {A : List (List Bool)} {row z : List Bool}
def xsK (g : G) (A : List (List Bool)) (row z : List Bool) (a t : Nat) : List Bool := itL (stepL g (sureL g (goalL g row z) (leastL g A row z)) (A.getD a [])) (topL g) t
noncomputable def skV (g : G) (A : List (List Bool)) (row z : List Bool) (a v : Nat) : Nat := leastN fun t => hasN (xsK g A row z a t) v = false

theorem all_great (hm : mayE g = 0) (hA : 0 < A.length) {a : Nat} (ha : a < A.length) : leS g.owner.length (leastL g A row z) (great g (stepL g (sureL g (goalL g row z) (leastL g A row z)) (A.getD a []))) ∧ leS g.owner.length (great g (stepL g (sureL g (goalL g row z) (leastL g A row z)) (A.getD a []))) (leastL g A row z) ∧ leS g.owner.length (sureL g (goalL g row z) (leastL g A row z)) (leastL g A row z) := by
  obtain ⟨h1, h2, h3⟩ := least_spec hm hA row z
  obtain ⟨Y, hY⟩ : ∃ Y, Y = leastL g A row z := ⟨_, rfl⟩
  rw [← hY] at h1 h2 ⊢
  have gl : ∀ b, b < A.length → leS g.owner.length (great g (stepL g (sureL g (goalL g row z) Y) (A.getD b []))) Y := fun b hb v hv q => by
    rw [← h1, levelL, levelK_has hv]
    exact ⟨b, hb, q⟩
  have sg : ∀ b, leS g.owner.length (sureL g (goalL g row z) Y) (great g (stepL g (sureL g (goalL g row z) Y) (A.getD b []))) := fun b v hv q => by
    rw [← (great_spec (step_mon hm (sureL g (goalL g row z) Y) (A.getD b []))).1, stepL, has_or hv, q]; rfl
  have ys : leS g.owner.length Y (sureL g (goalL g row z) Y) := fun v hv q => by
    rw [← h1, levelL, levelK_has hv] at q
    obtain ⟨b, hb, q⟩ := q
    rw [← (great_spec (step_mon hm (sureL g (goalL g row z) Y) (A.getD b []))).1, stepL, has_or hv, Bool.or_eq_true] at q
    rcases q with q | q
    · exact q
    · rw [has_and hv, Bool.and_eq_true] at q
      rw [sureL, has_or hv, Bool.or_eq_true]
      exact .inr (force_mono hm (gl b hb) v hv q.2)
  exact ⟨ys.trans (sg a), gl a ha, (sg a).trans (gl a ha)⟩
theorem xs_great (hm : mayE g = 0) (a : Nat) : ∀ t, leS g.owner.length (great g (stepL g (sureL g (goalL g row z) (leastL g A row z)) (A.getD a []))) (xsK g A row z a t)
  | 0 => le_top _
  | t + 1 => by
    have M := step_mon hm (sureL g (goalL g row z) (leastL g A row z)) (A.getD a [])
    have := M.mono _ _ (xs_great hm a t)
    rw [(great_spec M).1] at this
    exact this

theorem unforce (hm : mayE g = 0) {s : List Bool} {v : Nat} (hv : v < g.owner.length) (h : hasN (forceL g 1 s) v = false) : (ow g v = 0 → ∃ w, gE g v w ∧ hasN s w = false) ∧ (ow g v ≠ 0 → ∀ w, gE g v w → hasN s w = false) := by
  have n : ¬ ((ow g v = 1 ∧ ∃ w, gE g v w ∧ hasN s w = true) ∨ (ow g v ≠ 1 ∧ ∀ w, gE g v w → hasN s w = true)) := fun q => by
    rw [(force_nat hm hv).2 q] at h; cases h
  refine ⟨fun o => ?_, fun o w hw => ?_⟩
  · refine Classical.byContradiction fun no => n (.inr ⟨by omega, fun w hw => ?_⟩)
    cases q : hasN s w with
    | true => rfl
    | false => exact absurd ⟨w, hw, q⟩ no
  · have o1 := (ow_ok hm hv).resolve_left o
    cases q : hasN s w with
    | false => rfl
    | true => exact absurd (.inl ⟨o1, w, hw, q⟩) n

/-- Env may go there, to see a row of assume, and never that of ensure. -/
def awayP (g : G) (A : List (List Bool)) (row z : List Bool) (a v w : Nat) : Prop :=
  (hasN row v = true → hasN z w = false) ∧ (hasN row v = false → hasN (leastL g A row z) w = false ∧ (hasN (A.getD a []) v = true ∨ skV g A row z a w < skV g A row z a v))

theorem away_ex (hm : mayE g = 0) (hA : 0 < A.length) {a v : Nat} (ha : a < A.length) (hv : v < g.owner.length) (hY : hasN (leastL g A row z) v = false) :
    (ow g v = 0 → ∃ w, gE g v w ∧ awayP g A row z a v w) ∧ (ow g v ≠ 0 → ∀ w, gE g v w → awayP g A row z a v w) := by
  obtain ⟨y1, y2, y3⟩ := all_great (row := row) (z := z) hm hA ha
  have go : ∀ s : List Bool, hasN (forceL g 1 s) v = false → (∀ w, w < g.owner.length → hasN s w = false → awayP g A row z a v w) → (ow g v = 0 → ∃ w, gE g v w ∧ awayP g A row z a v w) ∧ (ow g v ≠ 0 → ∀ w, gE g v w → awayP g A row z a v w) := by
    intro s hs hp
    obtain ⟨u1, u2⟩ := unforce hm hv hs
    refine ⟨fun o => ?_, fun o w hw => hp w (gE_lt hm hw hv) (u2 o w hw)⟩
    obtain ⟨w, hw, q⟩ := u1 o
    exact ⟨w, hw, hp w (gE_lt hm hw hv) q⟩
  have ns : hasN (sureL g (goalL g row z) (leastL g A row z)) v = false := by
    cases q : hasN (sureL g (goalL g row z) (leastL g A row z)) v with
    | false => rfl
    | true => rw [y3 v hv q] at hY; cases hY
  have ns' := ns
  rw [sureL, has_or hv, Bool.or_eq_false_iff] at ns
  obtain ⟨n1, n2⟩ := ns
  cases hrow : hasN row v with
  | true =>
    rw [goalL, has_and hv, hrow, Bool.true_and] at n1
    exact go z n1 fun w hw q => ⟨fun _ => q, fun q => absurd q (by rw [hrow]; decide)⟩
  | false =>
    cases hav : hasN (A.getD a []) v with
    | true => exact go _ n2 fun w hw q => ⟨fun q => absurd q (by rw [hrow]; decide), fun _ => ⟨q, .inl hav⟩⟩
    | false =>
      have ex : ∃ t, hasN (xsK g A row z a t) v = false := by
        obtain ⟨t, ht⟩ := fixG_it (stepL g (sureL g (goalL g row z) (leastL g A row z)) (A.getD a [])) (g.owner.length + 1) (topL g)
        refine ⟨t, ?_⟩
        cases q : hasN (xsK g A row z a t) v with
        | false => rfl
        | true =>
          rw [xsK, ← ht] at q
          rw [y2 v hv q] at hY; cases hY
      obtain ⟨t1, t2⟩ := leastN_spec ex
      have ht : leastN (fun t => hasN (xsK g A row z a t) v = false) = skV g A row z a v := rfl
      rw [ht] at t1 t2
      have t0 : skV g A row z a v ≠ 0 := fun e => by
        rw [e, show xsK g A row z a 0 = topL g from rfl, top_has hv] at t1; cases t1
      obtain ⟨t, et⟩ : ∃ t, skV g A row z a v = t + 1 := ⟨skV g A row z a v - 1, by omega⟩
      rw [et] at t1
      have t1' : hasN (stepL g (sureL g (goalL g row z) (leastL g A row z)) (A.getD a []) (xsK g A row z a t)) v = false := t1
      rw [stepL, has_or hv, ns', Bool.false_or, has_and hv, has_not hv, hav] at t1'
      refine go (xsK g A row z a t) (by simpa using t1') fun w hw q => ⟨fun q => absurd q (by rw [hrow]; decide), fun _ => ⟨?_, .inr ?_⟩⟩
      · cases k : hasN (leastL g A row z) w with
        | false => rfl
        | true => rw [xs_great hm a t w hw (y1 w hw k)] at q; cases q
      · have : skV g A row z a w ≤ t := (leastN_spec (P := fun t => hasN (xsK g A row z a t) w = false) ⟨_, q⟩).2 _ q
        omega
end

section
variable {g : G} {A E : List (List Bool)} (h : cgErr g A E = 0)
/-- What Sys wins with some memory. -/
noncomputable def someW (g : G) (A E : List (List Bool)) : List Bool := tab g.owner.length fun v => (List.range (kC A E)).any fun mem => decide (fI (winL (cgG g A E) (cgP g A E)) (v * kC A E + mem) = 1)
include h
theorem some_has {p : Nat} (hp : p < g.owner.length * kC A E) (hw : fI (winL (cgG g A E) (cgP g A E)) p = 1) : hasN (someW g A E) (vC A E p) = true := by
  have ok := cg_ok h
  unfold someW hasN
  rw [getD_tab, if_pos (cg_v h hp), List.any_eq_true]
  refine ⟨p % kC A E, List.mem_range.2 (Nat.mod_lt _ ok.k0), ?_⟩
  rw [show vC A E p * kC A E + p % kC A E = p from by rw [Nat.mul_comm]; exact Nat.div_add_mod _ _, hw]
  rfl
theorem some_not {p : Nat} (hp : p < g.owner.length * kC A E) (hn : hasN (someW g A E) (vC A E p) = false) : fI (winL (cgG g A E) (cgP g A E)) p = 0 := by
  rcases solve_win (cg_pok h) (v := p) (by rw [cg_len h]; exact hp) with q | q
  · exact q
  · rw [some_has h hp q] at hn; cases hn

/-- Where a row of ensure need not be met, Env wins. -/
theorem env_wins {J : Nat} (hJ : J < nC E) {p : Nat} (hp : p < g.owner.length * kC A E) (hY : hasN (leastL g (rowsL g A) ((rowsL g E).getD J []) (someW g A E)) (vC A E p) = false) : fI (winL (cgG g A E) (cgP g A E)) p = 0 := by
  have ok := cg_ok h
  have hm := ok.m
  have pok := cg_pok h
  have sol := solve_sol pok
  have hA := rowsL_pos g A
  have lA : (rowsL g A).length = mC A := rows_len g A
  have cl := cg_len h
  obtain ⟨row, hrow⟩ : ∃ row, row = (rowsL g E).getD J [] := ⟨_, rfl⟩
  rw [← hrow] at hY
  have so := fun (p : Nat) => some_not h (p := p)
  obtain ⟨z, hz⟩ : ∃ z, z = someW g A E := ⟨_, rfl⟩
  rw [← hz] at hY so
  have near := fun (p : Nat) (hp : p < g.owner.length * kC A E) (q : hasN (leastL g (rowsL g A) row z) (vC A E p) = false) => away_ex (row := row) (z := z) (a := iC A E p) hm hA (by rw [lA]; exact cg_i h) (cg_v h hp) q
  obtain ⟨W, hW⟩ : ∃ W, W = fI (winL (cgG g A E) (cgP g A E)) := ⟨_, rfl⟩
  obtain ⟨T0, hT0⟩ : ∃ T0, T0 = fI (toL (cgG g A E) (cgP g A E)) := ⟨_, rfl⟩
  simp only [← hW, ← hT0] at sol
  have so : ∀ p, p < g.owner.length * kC A E → hasN z (vC A E p) = false → W p = 0 := fun p hp q => by rw [hW]; exact so p hp q
  have done : ∀ p, p < g.owner.length * kC A E → W p = 0 ∨ W p = 1 := fun p hp => sol.win p (by rw [cl]; exact hp)
  obtain ⟨T, hT⟩ : ∃ T : Nat → Int, (∀ p, W p = 0 → T p = T0 p) ∧ ∀ p, W p ≠ 0 → (∃ w, gE g (vC A E p) w ∧ awayP g (rowsL g A) row z (iC A E p) (vC A E p) w) → ∃ w, gE g (vC A E p) w ∧ awayP g (rowsL g A) row z (iC A E p) (vC A E p) w ∧ T p = ((w * kC A E + onThen A E (vC A E p) (p % kC A E) : Nat) : Int) := by
    refine ⟨fun p => open Classical in if W p = 0 then T0 p else if q : ∃ w, gE g (vC A E p) w ∧ awayP g (rowsL g A) row z (iC A E p) (vC A E p) w then ((Classical.choose q * kC A E + onThen A E (vC A E p) (p % kC A E) : Nat) : Int) else 0, fun p e => by simp only [e, if_pos], fun p n q => ?_⟩
    refine ⟨Classical.choose q, (Classical.choose_spec q).1, (Classical.choose_spec q).2, ?_⟩
    simp only [n, if_false, q, dif_pos]
  obtain ⟨hTa, hTb⟩ := hT
  -- one step from where Sys is said to win
  have edge : ∀ p q, p < g.owner.length * kC A E → W p ≠ 0 → hasN (leastL g (rowsL g A) row z) (vC A E p) = false → stE (gE (cgG g A E)) (ow (cgG g A E)) 0 T p q → awayP g (rowsL g A) row z (iC A E p) (vC A E p) (vC A E q) := by
    rintro p q hp hn hy ⟨e, ho⟩
    obtain ⟨st1, st2, st3, _, _⟩ := cg_step h hp e
    rw [cg_ow h hp] at ho
    obtain ⟨n1, n2⟩ := near p hp hy
    by_cases o : ow g (vC A E p) = 0
    · obtain ⟨w, w1, w2, w3⟩ := hTb p hn (n1 o)
      have eq : q = w * kC A E + onThen A E (vC A E p) (p % kC A E) := by
        have := ho o
        rw [w3] at this
        omega
      have : vC A E q = w := by rw [eq]; exact (cg_at h w _ (cg_then h)).1
      rw [this]; exact w2
    · exact n2 o _ st1
  have into : ∀ p q, q < g.owner.length * kC A E → awayP g (rowsL g A) row z (iC A E p) (vC A E p) (vC A E q) → q < g.owner.length * kC A E ∧ (W q = 0 ∨ hasN (leastL g (rowsL g A) row z) (vC A E q) = false) := by
    intro p q hq ⟨a1, a2⟩
    refine ⟨hq, ?_⟩
    cases r : hasN row (vC A E p) with
    | true => exact .inl (so q hq (a1 r))
    | false => exact .inr (a2 r).1
  refine win_uniq pok (.inl rfl) (T := T) (D := fun p => p < g.owner.length * kC A E ∧ (W p = 0 ∨ hasN (leastL g (rowsL g A) row z) (vC A E p) = false)) (fun v hv => by rw [cl]; exact hv.1) ⟨?_, ?_, ?_⟩ ⟨hp, .inr hY⟩
  · rintro p ⟨hp, hd⟩ o
    by_cases w0 : W p = 0
    · obtain ⟨q, q1, q2, q3, q4⟩ := sol.own p (by rw [cl]; exact hp) (by rw [w0]; exact o)
      exact ⟨q, by rw [hTa p w0]; exact q1, q2, by rw [cl] at q3; exact q3, .inl (by rw [q4]; exact w0)⟩
    · have hy := hd.resolve_left w0
      rw [cg_ow h hp] at o
      obtain ⟨w, w1, w2, w3⟩ := hTb p w0 ((near p hp hy).1 o)
      refine ⟨_, w3, (cg_edge h hp).2 ⟨w, w1, rfl⟩, into p _ (cg_lt h (gE_lt hm w1 (cg_v h hp)) (cg_then h)) ?_⟩
      rw [(cg_at h w _ (cg_then h)).1]
      exact w2
  · rintro p ⟨hp, hd⟩ o q e
    obtain ⟨st1, st2, _⟩ := cg_step h hp e
    by_cases w0 : W p = 0
    · exact ⟨st2, .inl (by rw [sol.opp p (by rw [cl]; exact hp) (by rw [w0]; exact o) q e (by rw [cl]; exact st2)]; exact w0)⟩
    · have hy := hd.resolve_left w0
      rw [cg_ow h hp] at o
      exact into p q st2 ((near p hp hy).2 o _ st1)
  · rintro p ⟨hp, hd⟩ pev way
    have closed : ∀ a b, ((a < g.owner.length * kC A E ∧ (W a = 0 ∨ hasN (leastL g (rowsL g A) row z) (vC A E a) = false)) ∧ prN (cgP g A E) a ≤ prN (cgP g A E) p) → ((b < g.owner.length * kC A E ∧ (W b = 0 ∨ hasN (leastL g (rowsL g A) row z) (vC A E b) = false)) ∧ prN (cgP g A E) b ≤ prN (cgP g A E) p) → W a = 0 → stE (gE (cgG g A E)) (ow (cgG g A E)) 0 T a b → W b = 0 := by
      rintro a b ⟨⟨ha, _⟩, _⟩ ⟨⟨hb, _⟩, _⟩ wa ⟨e, ho⟩
      by_cases o : ow (cgG g A E) a = 0
      · obtain ⟨q, q1, q2, q3, q4⟩ := sol.own a (by rw [cl]; exact ha) (by rw [wa]; exact o)
        have := ho o
        rw [hTa a wa, q1] at this
        have : q = b := by omega
        rw [← this, q4]; exact wa
      · rw [sol.opp a (by rw [cl]; exact ha) (by rw [wa]; exact o) b e (by rw [cl]; exact hb)]; exact wa
    by_cases w0 : W p = 0
    · have w1 := way.within (T := fun a => W a = 0) closed w0
      refine sol.circ p (by rw [cl]; exact hp) (by rw [w0]; exact pev) ?_
      rw [w0]
      exact w1.mono (fun a b ha _ q => ⟨q.1, fun o => by rw [← hTa a ha.2]; exact q.2 o⟩) fun a q => ⟨by rw [cl]; exact q.1.1.1, q.2, q.1.2⟩
    · have w1 := way.avoid (T := fun a => W a = 0) closed w0
      -- a row of ensure is not met there
      have w2 := w1.strong (P := fun a => hasN row (vC A E a) = false) (fun a b ha hb e => by
        cases r : hasN row (vC A E a) with
        | false => rfl
        | true =>
          have aw := edge a b ha.1.1.1 ha.2 (ha.1.1.2.resolve_left ha.2) e
          exact absurd (so b hb.1.1.1 (aw.1 r)) hb.2)
      have w3 := w2.ring (m := nC E) (t := J) (f := jC A E) (M := ME A E) hJ (fun a _ => cg_j) (fun a b ha hb e => (cg_step h ha.1.1.1.1 e.1).2.2.2.2) (fun a ha e hM => by
        have hv := cg_v h ha.1.1.1.1
        rw [ME, met_eq hv cg_j, e, ← hrow, ha.2] at hM
        cases hM)
      have hp0 : prN (cgP g A E) p = 0 := by
        have q := w3.fst.2
        have t1 := (cg_two h hp).2.2.2.2
        have t2 : prN (cgP g A E) p ≠ 2 := fun z => q ((cg_two h hp).2.1 z)
        have : prN (cgP g A E) p % 2 = 0 := by omega
        omega
      have w4 := w3.ring (m := mC A) (t := mC A - 1) (f := iC A E) (M := MA A E) (by show max 1 A.length - 1 < max 1 A.length; omega) (fun a _ => cg_i h) (fun a b ha hb e => (cg_step h ha.1.1.1.1.1 e.1).2.2.2.1) (fun a ha e hM => by
        have := (cg_two h ha.1.1.1.1.1).2.2.2.1 ⟨hM, e⟩
        have := ha.1.1.1.1.2
        omega)
      have w5 := w4.flat (iC A E) (fun a b ha hb e => Nat.le_of_eq ((cg_step h ha.1.1.1.1.1.1 e.1).2.2.2.1.2 ha.2))
      have := w5.lt (fun a => skV g (rowsL g A) row z (iC A E p) (vC A E a)) (fun a b ha hb e => by
        obtain ⟨⟨⟨⟨⟨⟨⟨a1, a2⟩, a3⟩, a4⟩, a5⟩, a6⟩, a7⟩, a8⟩ := ha
        have aw := (edge a b a1 a4 (a2.resolve_left a4) e).2 a5
        rw [a8] at aw
        rcases aw.2 with q | q
        · exfalso
          apply a7
          rw [MA, met_eq (cg_v h a1) (cg_i h), a8]
          exact q
        · exact q)
      omega

/-- THE THREE FIXPOINTS AND THE PRIORITIES COME TO THE SAME. -/
theorem gr1_counter {p : Nat} (hp : p < g.owner.length * kC A E) : fI (winL (cgG g A E) (cgP g A E)) p = 1 ↔ hasN (solveL g A E).1 (vC A E p) = true := by
  have ok := cg_ok h
  refine ⟨fun w => ?_, sys_wins h hp⟩
  have lE : (rowsL g E).length = nC E := rows_len g E
  have hA := rowsL_pos g A
  have key : leS g.owner.length (someW g A E) (solveL g A E).1 := by
    refine (solve_spec ok.m A E).2.2.2 _ fun J hJ x hx => ?_
    refine leS.trans ?_ (least_mono ok.m hA _ hx)
    intro v hv q
    have q0 := q
    unfold someW hasN at q
    rw [getD_tab, if_pos hv, List.any_eq_true] at q
    obtain ⟨mem, hmem, q⟩ := q
    rw [decide_eq_true_eq] at q
    have hmem' := List.mem_range.1 hmem
    cases y : hasN (leastL g (rowsL g A) ((rowsL g E).getD J []) (someW g A E)) v with
    | true => rfl
    | false =>
      have := env_wins h (J := J) (by rw [← lE]; exact hJ) (p := v * kC A E + mem) (cg_lt h hv hmem') (by rw [(cg_at h v mem hmem').1]; exact y)
      rw [this] at q; cases q
  exact key _ (cg_v h hp) (some_has h hp w)
end
end Go.Par
