/- Ways and circles in a graph: plain laws. -/
import Derived.Test.YtaipmknajpbpkaaMgC
set_option linter.unusedVariables false
namespace Go.Par

/-- A way of at least one step, all of whose vertices are in 'S'. -/
inductive Way (E : Nat → Nat → Prop) (S : Nat → Prop) : Nat → Nat → Prop where
  | one {u v : Nat} (hu : S u) (hv : S v) (e : E u v) : Way E S u v
  | cons {u w v : Nat} (hu : S u) (e : E u w) (h : Way E S w v) : Way E S u v

section
variable {E E' : Nat → Nat → Prop} {S S' T : Nat → Prop} {u v w : Nat}

theorem Way.fst (h : Way E S u v) : S u := by cases h <;> assumption
theorem Way.lst (h : Way E S u v) : S v := by
  induction h with
  | one _ hv _ => exact hv
  | cons _ _ _ ih => exact ih
theorem Way.trans (h : Way E S u v) (k : Way E S v w) : Way E S u w := by
  induction h with
  | one hu _ e => exact .cons hu e k
  | cons hu e _ ih => exact .cons hu e (ih k)
theorem Way.mono (hE : ∀ a b, S a → S b → E a b → E' a b) (hS : ∀ a, S a → S' a) (h : Way E S u v) : Way E' S' u v := by
  induction h with
  | one hu hv e => exact .one (hS _ hu) (hS _ hv) (hE _ _ hu hv e)
  | cons hu e h ih => exact .cons (hS _ hu) (hE _ _ hu h.fst e) ih
theorem Way.sub (hS : ∀ a, S a → S' a) (h : Way E S u v) : Way E S' u v := h.mono (fun _ _ _ _ e => e) hS
theorem Way.snoc (h : Way E S u w) (e : E w v) (hv : S v) : Way E S u v := h.trans (.one h.lst hv e)

theorem Way.closed (hT : ∀ a b, S a → S b → T a → E a b → T b) (h : Way E S u v) : T u → T v := by
  induction h with
  | one hu hv e => exact fun q => hT _ _ hu hv q e
  | cons hu e h ih => exact fun q => ih (hT _ _ hu h.fst q e)
theorem Way.avoid (hT : ∀ a b, S a → S b → T a → E a b → T b) (h : Way E S u v) (hv : ¬ T v) : Way E (fun a => S a ∧ ¬ T a) u v := by
  induction h with
  | one hu hv' e => exact .one ⟨hu, fun q => hv (hT _ _ hu hv' q e)⟩ ⟨hv', hv⟩ e
  | cons hu e h ih => exact .cons ⟨hu, fun q => hv (h.closed hT (hT _ _ hu h.fst q e))⟩ e (ih hv)
theorem Way.within (hT : ∀ a b, S a → S b → T a → E a b → T b) (h : Way E S u v) (hu : T u) : Way E (fun a => S a ∧ T a) u v := by
  induction h with
  | one hu' hv' e => exact .one ⟨hu', hu⟩ ⟨hv', hT _ _ hu' hv' hu e⟩ e
  | cons hu' e h ih => exact .cons ⟨hu', hu⟩ e (ih (hT _ _ hu' h.fst hu e))

theorem Way.le (f : Nat → Nat) (hf : ∀ a b, S a → S b → E a b → f b ≤ f a) (h : Way E S u v) : f v ≤ f u := by
  induction h with
  | one hu hv e => exact hf _ _ hu hv e
  | cons hu e h ih => exact Nat.le_trans ih (hf _ _ hu h.fst e)
theorem Way.lt (f : Nat → Nat) (hf : ∀ a b, S a → S b → E a b → f b < f a) (h : Way E S u v) : f v < f u := by
  induction h with
  | one hu hv e => exact hf _ _ hu hv e
  | cons hu e h ih => exact Nat.lt_trans ih (hf _ _ hu h.fst e)

/-- What never rises is the same all along a circle. -/
theorem Way.flat (f : Nat → Nat) (hf : ∀ a b, S a → S b → E a b → f b ≤ f a) (h : Way E S v v) : Way E (fun a => S a ∧ f a = f v) v v := by
  have h1 : Way E (fun a => S a ∧ ¬ f a < f v) v v := h.avoid (T := fun a => f a < f v) (fun a b ha hb q e => Nat.lt_of_le_of_lt (hf a b ha hb e) q) (Nat.lt_irrefl _)
  have h2 := h1.within (T := fun a => f a ≤ f v) (fun a b ha hb q e => Nat.le_trans (hf a b ha.1 hb.1 e) q) (Nat.le_refl _)
  exact h2.sub fun a q => ⟨q.1.1, by have := q.1.2; have := q.2; omega⟩

/-- A circle through 'v', told with what is on it: of each vertex of it one comes to 'v', and of 'v' to it. -/
theorem Way.circle (h : Way E S v v) : Way E (fun a => S a ∧ Way E S v a ∧ Way E S a v) v v := by
  have key : ∀ a b, Way E S a b → Way E S v a → Way E S b v → Way E (fun x => S x ∧ Way E S v x ∧ Way E S x v) a b := by
    intro a b k
    induction k with
    | one hu hv' e => exact fun p q => .one ⟨hu, p, .cons hu e q⟩ ⟨hv', p.snoc e hv', q⟩ e
    | cons hu e k ih => exact fun p q => .cons ⟨hu, p, .cons hu e (k.trans q)⟩ e (ih (p.snoc e k.fst) q)
  exact key v v h h h

/-- The first vertex of a way from which on 'T' holds. -/
theorem Way.split (h : Way E S u v) (hu : ¬ T u) (hv : T v) : ∃ a b, S a ∧ S b ∧ ¬ T a ∧ T b ∧ E a b ∧ (a = u ∨ Way E S u a) ∧ (b = v ∨ Way E S b v) := by
  induction h with
  | one hu' hv' e => exact ⟨_, _, hu', hv', hu, hv, e, .inl rfl, .inl rfl⟩
  | @cons u w v hu' e h ih =>
    by_cases c : T w
    · exact ⟨u, w, hu', h.fst, hu, c, e, .inl rfl, .inr h⟩
    · obtain ⟨a, b, h1, h2, h3, h4, h5, h6, h7⟩ := ih c hv
      refine ⟨a, b, h1, h2, h3, h4, h5, .inr ?_, h7⟩
      rcases h6 with rfl | h6
      · exact .one hu' h1 e
      · exact .cons hu' e h6

theorem Way.head (h : Way E S u v) : ∃ w, S w ∧ E u w ∧ (w = v ∨ Way E S w v) := by
  cases h with
  | one _ hv e => exact ⟨v, hv, e, .inl rfl⟩
  | cons _ e h => exact ⟨_, h.fst, e, .inr h⟩
theorem Way.last (h : Way E S u v) : ∃ w, S w ∧ E w v ∧ (w = u ∨ Way E S u w) := by
  induction h with
  | one hu _ e => exact ⟨_, hu, e, .inl rfl⟩
  | cons hu e h ih =>
    obtain ⟨w, h1, h2, h3⟩ := ih
    refine ⟨w, h1, h2, .inr ?_⟩
    rcases h3 with rfl | h3
    · exact .one hu h1 e
    · exact .cons hu e h3
end

theorem nodup_lt : ∀ {n : Nat} {l : List Nat}, l.Nodup → (∀ x ∈ l, x < n) → l.length ≤ n
  | 0, [], _, _ => Nat.le_refl _
  | 0, x :: l, _, h => absurd (h x (by simp)) (by omega)
  | n + 1, l, hn, h => by
    have h1 : (l.erase n).Nodup := hn.erase _
    have h2 : ∀ x ∈ l.erase n, x < n := fun x hx => by
      have := h x (List.mem_of_mem_erase hx)
      have : x ≠ n := fun e => by subst e; exact (hn.not_mem_erase hx)
      omega
    have h3 := nodup_lt h1 h2
    have h4 := List.length_erase (a := n) (l := l)
    split at h4 <;> omega

def itn (f : Nat → Nat) : Nat → Nat → Nat
  | 0, v => v
  | k + 1, v => f (itn f k v)

/-- Where one can always go on, one comes round. -/
theorem has_circle {E : Nat → Nat → Prop} {D : Nat → Prop} {n : Nat} (hD : ∀ v, D v → v < n) (hs : ∀ v, D v → ∃ w, D w ∧ E v w) {v : Nat} (h0 : D v) : ∃ c, Way E D c c ∧ (c = v ∨ Way E D v c) := by
  obtain ⟨f, hf⟩ : ∃ f : Nat → Nat, ∀ v, D v → D (f v) ∧ E v (f v) := ⟨fun v => open Classical in if h : D v then Classical.choose (hs v h) else 0, fun v hv => by simp only [hv, dif_pos]; exact Classical.choose_spec (hs v hv)⟩
  have hi : ∀ k, D (itn f k v) := fun k => by
    induction k with
    | zero => exact h0
    | succ k ih => exact (hf _ ih).1
  have way : ∀ i d, Way E D (itn f i v) (itn f (i + d + 1) v) := fun i d => by
    induction d with
    | zero => exact .one (hi _) (hi _) (hf _ (hi i)).2
    | succ d ih => exact ih.snoc (hf _ (hi _)).2 (hi _)
  have dup : ∃ i j, i < j ∧ itn f i v = itn f j v := by
    refine Classical.byContradiction fun no => ?_
    have hl : ((List.range (n + 1)).map fun k => itn f k v).Nodup := by
      rw [List.nodup_iff_pairwise_ne, List.pairwise_map]
      refine List.Pairwise.imp ?_ (List.pairwise_lt_range)
      intro a b hab e
      exact no ⟨a, b, hab, e⟩
    have := nodup_lt (n := n) hl fun x hx => by
      obtain ⟨k, _, rfl⟩ := List.mem_map.1 hx
      exact hD _ (hi k)
    simp at this
    omega
  obtain ⟨i, j, hij, e⟩ := dup
  obtain ⟨d, rfl⟩ : ∃ d, j = i + d + 1 := ⟨j - i - 1, by omega⟩
  have w := way i d
  rw [← e] at w
  refine ⟨_, w, ?_⟩
  cases i with
  | zero => exact .inl rfl
  | succ i => right; have := way 0 i; simpa [itn] using this

end Go.Par
