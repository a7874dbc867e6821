/- What is reached in a graph: plain laws. -/
import Derived.Test.YtlpfokngocdanaaFnE
namespace Go.Par

inductive Reaches (g : G) (from_ : List Bool) : Nat → Prop where
  | start (v : Nat) (h : v < g.owner.length) (hf : hasN from_ v = true) : Reaches g from_ v
  | step (v w : Nat) (hr : Reaches g from_ v) (hw : (w : Int) ∈ g.next.getD v []) : Reaches g from_ w

open Classical in
noncomputable def reachL (g : G) (from_ : List Bool) : List Bool := tab g.owner.length fun v => decide (Reaches g from_ v)

theorem count_set : ∀ (l : List Bool) (v : Nat) (h : v < l.length), l[v] = false → (l.set v true).count false + 1 = l.count false
  | a :: l, 0, h, e => by simp at e; subst e; simp
  | a :: l, v + 1, h, e => by
    have := count_set l v (by simpa using h) (by simpa using e)
    simp only [List.set_cons_succ, List.count_cons]
    omega

/-- What holds of the set and of what is to do. -/
structure RI (g : G) (from_ : List Bool) (out : List Bool) (todo : List Int) : Prop where
  len : out.length = g.owner.length
  sound : ∀ v, hasN out v = true → Reaches g from_ v
  todoIn : ∀ t ∈ todo, ∃ v : Nat, t = v ∧ v < g.owner.length ∧ hasN out v = true
  size : todo.length + out.count false ≤ g.owner.length

theorem hasN_set (l : List Bool) (v w : Nat) (h : v < l.length) : hasN (l.set v true) w = if w = v then true else hasN l w := by
  unfold hasN
  simp only [List.getD_eq_getElem?_getD, List.getElem?_set]
  by_cases e : v = w
  · subst e; simp [h]
  · rw [if_neg e, if_neg fun h => e h.symm]

theorem RI.meet {g : G} {from_ out : List Bool} {todo : List Int} (I : RI g from_ out todo) {v : Nat} (hv : v < out.length) (hr : Reaches g from_ v) (hb : out[v] = false) : RI g from_ (out.set v true) (todo ++ [(v : Int)]) := by
  have hc := count_set out v hv hb
  refine ⟨by rw [List.length_set]; exact I.len, fun w hw => ?_, fun t ht => ?_, by have := I.size; simp only [List.length_append, List.length_cons, List.length_nil]; omega⟩
  · rw [hasN_set out v w hv] at hw
    by_cases e : w = v
    · subst e; exact hr
    · rw [if_neg e] at hw; exact I.sound w hw
  · rcases List.mem_append.1 ht with ht | ht
    · obtain ⟨w, e, h1, h2⟩ := I.todoIn t ht
      refine ⟨w, e, h1, ?_⟩
      rw [hasN_set out v w hv]
      split
      · rfl
      · exact h2
    · simp at ht
      exact ⟨v, ht, by rw [← I.len]; exact hv, by rw [hasN_set out v v hv, if_pos rfl]⟩

/-- What is met and done with leads to what is met. -/
def Clo (g : G) (out : List Bool) (todo : List Int) (ex : Nat → Prop) : Prop :=
  ∀ v, hasN out v = true → ¬ ex v → (v : Int) ∉ todo → ∀ w : Nat, (w : Int) ∈ g.next.getD v [] → hasN out w = true

theorem Clo.meet {g : G} {out : List Bool} {todo : List Int} {ex : Nat → Prop} (C : Clo g out todo ex) {v : Nat} (hv : v < out.length) : Clo g (out.set v true) (todo ++ [(v : Int)]) ex := by
  intro u hu hex hn w hw
  rw [hasN_set out v w hv]
  split
  · rfl
  · rw [hasN_set out v u hv] at hu
    by_cases e : u = v
    · subst e; exact absurd (by simp) hn
    · rw [if_neg e] at hu
      exact C u hu hex (fun h => hn (List.mem_append.2 (.inl h))) w hw

/-- At the end the set is what is reached. -/
theorem RI.done {g : G} {from_ out : List Bool} (I : RI g from_ out []) (C : Clo g out [] fun _ => False) (hs : ∀ v, v < g.owner.length → hasN from_ v = true → hasN out v = true) : out = reachL g from_ := by
  have full : ∀ v, Reaches g from_ v → hasN out v = true := by
    intro v h
    induction h with
    | start v h hf => exact hs v h hf
    | step v w hr hw ih => exact C v ih (fun h => h) (by simp) w hw
  refine tab_ext I.len fun i hi => ?_
  have hi' : i < out.length := by rw [I.len]; exact hi
  have e : hasN out i = out[i] := by simp [hasN, hi']
  rw [List.getElem?_eq_getElem hi']
  congr 1
  cases hb : out[i]
  · have : ¬ Reaches g from_ i := fun h => by
      have := full i h
      rw [e, hb] at this; cases this
    simp [this]
  · have : Reaches g from_ i := I.sound i (by rw [e, hb])
    simp [this]

end Go.Par
