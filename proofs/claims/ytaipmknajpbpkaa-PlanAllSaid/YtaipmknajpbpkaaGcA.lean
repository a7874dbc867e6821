/- The game with counters and the three fixpoints: plain laws. -/
import Derived.Test.YtaipmknajpbpkaaPlL
import Derived.Test.YtaipmknajpbpkaaCgA
import Derived.Test.YtaipmknajpbpkaaPyC
set_option linter.unusedSimpArgs false
set_option linter.unusedVariables false
set_option maxRecDepth 8000
namespace Go.Par

section
variable {E : Nat → Nat → Prop} {S : Nat → Prop} {c : Nat}
/-- What holds where one goes on along a circle, holds all along it. -/
theorem Way.strong {P : Nat → Prop} (h : Way E S c c) (hP : ∀ a b, S a → S b → E a b → P a) : Way E (fun a => S a ∧ P a) c c := by
  refine h.circle.sub fun a q => ⟨q.1, ?_⟩
  obtain ⟨w, h1, h2, _⟩ := q.2.2.head
  exact hP a w q.1 h1 h2
/-- A counter that does not go on at one place does not go on at all, along a circle. -/
theorem Way.ring {m t : Nat} {f : Nat → Nat} {M : Nat → Prop} (ht : t < m) (hf : ∀ a, S a → f a < m) (hs : ∀ a b, S a → S b → E a b → (M a → f b = (f a + 1) % m) ∧ (¬ M a → f b = f a)) (hno : ∀ a, S a → f a = t → ¬ M a) (h : Way E S c c) : Way E (fun a => S a ∧ ¬ M a) c c := by
  obtain ⟨d, hd⟩ : ∃ d : Nat → Nat, ∀ a, d a = if f a ≤ t then t - f a else t + m - f a := ⟨fun a => if f a ≤ t then t - f a else t + m - f a, fun a => rfl⟩
  have key : ∀ a b, S a → S b → E a b → (M a → d b < d a) ∧ (¬ M a → d b = d a) := by
    intro a b ha hb e
    obtain ⟨h1, h2⟩ := hs a b ha hb e
    refine ⟨fun hM => ?_, fun hM => by rw [hd, hd, h2 hM]⟩
    have q := h1 hM
    have n := hno a ha
    have fa := hf a ha
    have ne : f a ≠ t := fun z => n z hM
    by_cases w : f a + 1 < m
    · rw [Nat.mod_eq_of_lt w] at q
      rw [hd, hd, q]
      split <;> split <;> omega
    · have e1 : f a + 1 = m := by omega
      rw [e1, Nat.mod_self] at q
      rw [hd, hd, q]
      split <;> split <;> omega
  have fl := h.flat d fun a b ha hb e => by
    by_cases q : M a
    · exact Nat.le_of_lt ((key a b ha hb e).1 q)
    · exact Nat.le_of_eq ((key a b ha hb e).2 q)
  refine (fl.strong (P := fun a => ¬ M a) fun a b ha hb e q => ?_).sub fun a q => ⟨q.1.1, q.2⟩
  have := (key a b ha.1 hb.1 e).1 q
  rw [ha.2, hb.2] at this
  omega
end

/-! ### Least and greatest, step by step -/
def itL (F : List Bool → List Bool) (x : List Bool) : Nat → List Bool
  | 0 => x
  | k + 1 => F (itL F x k)
theorem itL_shift (F : List Bool → List Bool) (x : List Bool) : ∀ k, itL F (F x) k = itL F x (k + 1)
  | 0 => rfl
  | k + 1 => by rw [itL, itL_shift F x k]; rfl
theorem fixG_it (F : List Bool → List Bool) : ∀ (f : Nat) (x : List Bool), ∃ k, fixG F f x = itL F x k
  | 0, x => ⟨0, rfl⟩
  | f + 1, x => by
    by_cases e : F x = x
    · exact ⟨0, by rw [fixG_at e]; rfl⟩
    · obtain ⟨k, hk⟩ := fixG_it F f (F x)
      exact ⟨k + 1, by rw [fixG_step e, hk, itL_shift]⟩

theorem rows_len (g : G) (l : List (List Bool)) : (rowsL g l).length = max 1 l.length := by
  unfold rowsL
  split
  · rename_i e; rw [e]; rfl
  · rename_i e
    have : 0 < l.length := List.length_pos_iff.2 e
    omega
theorem top_has {g : G} {v : Nat} (hv : v < g.owner.length) : hasN (topL g) v = true := by
  rw [topL, has_not hv]; simp [hasN]
theorem bot_has {g : G} {v : Nat} (hv : v < g.owner.length) : hasN (botL g) v = false := by
  rw [botL, has_and hv]; simp [hasN]
theorem met_eq {g : G} {A : List (List Bool)} {i v : Nat} (hv : v < g.owner.length) (hi : i < max 1 A.length) : metB A i v = hasN ((rowsL g A).getD i []) v := by
  unfold metB rowsL
  by_cases e : A = []
  · subst e
    have : i = 0 := by simp at hi; omega
    subst this
    simp [top_has hv]
  · rw [if_neg e]
    have : A.isEmpty = false := by simpa using e
    rw [this, Bool.false_or]
theorem least_mono {g : G} (hm : mayE g = 0) {A : List (List Bool)} (hA : 0 < A.length) (row : List Bool) {x z : List Bool} (h : leS g.owner.length z x) : leS g.owner.length (leastL g A row z) (leastL g A row x) := by
  obtain ⟨h1, h2, h3⟩ := least_spec hm hA row x
  refine (least_spec hm hA row z).2.2 _ ?_
  have : leS g.owner.length (levelL g A (goalL g row z) (leastL g A row x)) (levelL g A (goalL g row x) (leastL g A row x)) := levelK_mono hm (or_mono (and_mono (leS.refl _) (force_mono hm h)) (leS.refl _)) _
  rw [h1] at this
  exact this

section
variable {g : G} {A : List (List Bool)} {row z : List Bool}
/-- The levels that one row of ensure is met by. -/
def lvK (g : G) (A : List (List Bool)) (row z : List Bool) (k : Nat) : List Bool := itL (levelL g A (goalL g row z)) (botL g) k
def xaK (g : G) (A : List (List Bool)) (row z : List Bool) (k a : Nat) : List Bool := great g (stepL g (sureL g (goalL g row z) (lvK g A row z k)) (A.getD a []))
theorem lvK_le (hm : mayE g = 0) (hA : 0 < A.length) : ∀ k, leS g.owner.length (lvK g A row z k) (leastL g A row z)
  | 0 => bot_le _
  | k + 1 => by
    obtain ⟨h1, _, _⟩ := least_spec hm hA row z
    have := (level_mon hm hA (goalL g row z)).mono _ _ (lvK_le hm hA k)
    rw [h1] at this
    exact this
theorem lvK_mono1 (hm : mayE g = 0) (hA : 0 < A.length) : ∀ k, leS g.owner.length (lvK g A row z k) (lvK g A row z (k + 1))
  | 0 => bot_le _
  | k + 1 => (level_mon hm hA (goalL g row z)).mono _ _ (lvK_mono1 hm hA k)
theorem lvK_mono (hm : mayE g = 0) (hA : 0 < A.length) {j k : Nat} (h : j ≤ k) : leS g.owner.length (lvK g A row z j) (lvK g A row z k) := by
  induction h with
  | refl => exact leS.refl _
  | step _ ih => exact ih.trans (lvK_mono1 hm hA _)
theorem lvK_ex (h : leastL g A row z = z) {v : Nat} (q : hasN z v = true) : ∃ k, hasN (lvK g A row z k) v = true := by
  obtain ⟨k, hk⟩ := fixG_it (levelL g A (goalL g row z)) (g.owner.length + 1) (botL g)
  refine ⟨k, ?_⟩
  unfold lvK
  rw [← hk]
  rw [← leastL, h]
  exact q
theorem lvK_has {v k : Nat} (hv : v < g.owner.length) : hasN (lvK g A row z (k + 1)) v = true ↔ ∃ a, a < A.length ∧ hasN (xaK g A row z k a) v = true := levelK_has hv _

/-- A least number. -/
theorem least_nat {P : Nat → Prop} (h : ∃ k, P k) : ∃ k, P k ∧ ∀ j, j < k → ¬ P j := by
  obtain ⟨k, hk⟩ := h
  induction k using Nat.strongRecOn with
  | _ k ih =>
    by_cases q : ∃ j, j < k ∧ P j
    · obtain ⟨j, h1, h2⟩ := q
      exact ih j h1 h2
    · exact ⟨k, hk, fun j hj hp => q ⟨j, hj, hp⟩⟩

noncomputable def leastN (P : Nat → Prop) : Nat := open Classical in if h : ∃ k, P k then Classical.choose (least_nat h) else 0
theorem leastN_spec {P : Nat → Prop} (h : ∃ k, P k) : P (leastN P) ∧ ∀ j, P j → leastN P ≤ j := by
  unfold leastN
  rw [dif_pos h]
  obtain ⟨h1, h2⟩ := Classical.choose_spec (least_nat h)
  exact ⟨h1, fun j hj => Nat.le_of_not_lt fun q => h2 j q hj⟩

noncomputable def rkV2 (g : G) (A : List (List Bool)) (row z : List Bool) (v : Nat) : Nat := leastN fun k => hasN (lvK g A row z k) v = true
noncomputable def akV (g : G) (A : List (List Bool)) (row z : List Bool) (v : Nat) : Nat := leastN fun a => a < A.length ∧ hasN (xaK g A row z (rkV2 g A row z v - 1) a) v = true

/-- One may go there, to meet the row. -/
def nearP (g : G) (A : List (List Bool)) (row z : List Bool) (v w : Nat) : Prop :=
  hasN z w = true ∧ (hasN row v = false → rkV2 g A row z w < rkV2 g A row z v ∨ (rkV2 g A row z w ≤ rkV2 g A row z v ∧ hasN (A.getD (akV g A row z v) []) v = false ∧ (rkV2 g A row z w = rkV2 g A row z v → akV g A row z w ≤ akV g A row z v)))

theorem force_nat (hm : mayE g = 0) {who : Int} {s : List Bool} {v : Nat} (hv : v < g.owner.length) : hasN (forceL g who s) v = true ↔ (ow g v = who ∧ ∃ w, gE g v w ∧ hasN s w = true) ∨ (ow g v ≠ who ∧ ∀ w, gE g v w → hasN s w = true) := by
  rw [has_force hv, force_iff]
  have nk := (nx_ok hm hv).2
  constructor
  · rintro (⟨h, w, hw, q⟩ | ⟨h, q⟩)
    · have := nk w hw
      exact .inl ⟨h, w.toNat, by show ((w.toNat : Nat) : Int) ∈ _; rw [show ((w.toNat : Nat) : Int) = w by omega]; exact hw, q⟩
    · exact .inr ⟨h, fun w hw => by have := q w hw; simpa using this⟩
  · rintro (⟨h, w, hw, q⟩ | ⟨h, q⟩)
    · exact .inl ⟨h, w, hw, by simpa using q⟩
    · exact .inr ⟨h, fun w hw => by
        have := nk w hw
        exact q w.toNat (by show ((w.toNat : Nat) : Int) ∈ _; rw [show ((w.toNat : Nat) : Int) = w by omega]; exact hw)⟩

theorem near_ex (hm : mayE g = 0) (hA : 0 < A.length) (h : leastL g A row z = z) (hz : forceL g 1 z = z) {v : Nat} (hv : v < g.owner.length) (q : hasN z v = true) :
    (ow g v = 1 → ∃ w, gE g v w ∧ nearP g A row z v w) ∧ (ow g v ≠ 1 → ∀ w, gE g v w → nearP g A row z v w) := by
  obtain ⟨r1, r2⟩ := leastN_spec (lvK_ex (row := row) (A := A) h q)
  have hr : leastN (fun k => hasN (lvK g A row z k) v = true) = rkV2 g A row z v := rfl
  rw [hr] at r1 r2
  -- what is wanted of a set that can be forced
  have go : ∀ s : List Bool, hasN (forceL g 1 s) v = true → (∀ w, w < g.owner.length → hasN s w = true → nearP g A row z v w) → (ow g v = 1 → ∃ w, gE g v w ∧ nearP g A row z v w) ∧ (ow g v ≠ 1 → ∀ w, gE g v w → nearP g A row z v w) := by
    intro s hs hp
    rcases (force_nat hm hv).1 hs with ⟨o, w, hw, k⟩ | ⟨o, k⟩
    · exact ⟨fun _ => ⟨w, hw, hp w (gE_lt hm hw hv) k⟩, fun n => absurd o n⟩
    · exact ⟨fun n => absurd n o, fun _ w hw => hp w (gE_lt hm hw hv) (k w hw)⟩
  by_cases hrow : hasN row v = true
  · refine go z (by rw [hz]; exact q) fun w hw k => ⟨k, fun n => ?_⟩
    rw [hrow] at n; cases n
  have r0 : rkV2 g A row z v ≠ 0 := fun e => by
    rw [e] at r1
    have := bot_has (g := g) hv
    rw [show lvK g A row z 0 = botL g from rfl, this] at r1
    cases r1
  obtain ⟨r, er⟩ : ∃ r, rkV2 g A row z v = r + 1 := ⟨rkV2 g A row z v - 1, by omega⟩
  rw [er] at r1
  have ex : ∃ a, a < A.length ∧ hasN (xaK g A row z (rkV2 g A row z v - 1) a) v = true := by
    rw [er]; exact (lvK_has hv).1 r1
  obtain ⟨⟨a1, a2⟩, a3⟩ := leastN_spec ex
  have ha : leastN (fun a => a < A.length ∧ hasN (xaK g A row z (rkV2 g A row z v - 1) a) v = true) = akV g A row z v := rfl
  rw [ha] at a1 a2 a3
  obtain ⟨a, ea⟩ : ∃ a, a = akV g A row z v := ⟨_, rfl⟩
  rw [← ea] at a1 a2 a3
  rw [er, show r + 1 - 1 = r from rfl] at a2
  have inz : ∀ k w, w < g.owner.length → hasN (lvK g A row z k) w = true → hasN z w = true := fun k w hw q => by
    have := lvK_le (row := row) (z := z) hm hA k w hw q
    rw [h] at this; exact this
  have e := (great_spec (step_mon hm (sureL g (goalL g row z) (lvK g A row z r)) (A.getD a []))).1
  have a2' := a2
  rw [xaK, ← e, stepL, has_or hv, Bool.or_eq_true] at a2
  rcases a2 with s | s
  · rw [sureL, has_or hv, Bool.or_eq_true] at s
    rcases s with s | s
    · rw [goalL, has_and hv, Bool.and_eq_true] at s
      exact absurd s.1 hrow
    · refine go _ s fun w hw k => ⟨inz _ w hw k, fun _ => .inl ?_⟩
      have := (leastN_spec (P := fun k => hasN (lvK g A row z k) w = true) ⟨_, k⟩).2 _ k
      have : rkV2 g A row z w ≤ r := this
      omega
  · rw [has_and hv, Bool.and_eq_true, has_not hv] at s
    refine go _ s.2 fun w hw k => ?_
    have k' : hasN (xaK g A row z r a) w = true := k
    have kl : hasN (lvK g A row z (r + 1)) w = true := (lvK_has hw).2 ⟨a, a1, k'⟩
    have le : rkV2 g A row z w ≤ r + 1 := (leastN_spec (P := fun k => hasN (lvK g A row z k) w = true) ⟨_, kl⟩).2 _ kl
    refine ⟨inz _ w hw kl, fun _ => .inr ⟨by omega, by rw [← ea]; simpa using s.1, fun eq => ?_⟩⟩
    rw [← ea]
    have er2 : rkV2 g A row z w - 1 = r := by omega
    have kw : a < A.length ∧ hasN (xaK g A row z (rkV2 g A row z w - 1) a) w = true := ⟨a1, by rw [er2]; exact k'⟩
    exact (leastN_spec (P := fun a => a < A.length ∧ hasN (xaK g A row z (rkV2 g A row z w - 1) a) w = true) ⟨_, kw⟩).2 _ kw
end
end Go.Par
