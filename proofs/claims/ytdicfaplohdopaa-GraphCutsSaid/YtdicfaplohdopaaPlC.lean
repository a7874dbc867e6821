/- What is reached: more plain laws. -/
import Derived.Test.YtdicfaplohdopaaPlB
namespace Go.Par

theorem Reaches.lt {g : G} (hm : mayE g = 0) {from_ : List Bool} {v : Nat} (h : Reaches g from_ v) : v < g.owner.length := by
  induction h with
  | start v h hf => exact h
  | step v w hr hw ih =>
    have h2 := (may_ok hm).2.1
    have hv : v < g.next.length := by omega
    rw [List.getD_eq_getElem?_getD, List.getElem?_eq_getElem hv, Option.getD_some] at hw
    have := (may_row hm ih hv).2 _ hw
    omega

theorem Reaches.mono {g : G} {a b : List Bool} (h : ∀ v, v < g.owner.length → hasN a v = true → Reaches g b v) {v : Nat} (q : Reaches g a v) : Reaches g b v := by
  induction q with
  | start v hv hf => exact h v hv hf
  | step v w _ hw ih => exact .step v w ih hw

theorem hasN_lt {l : List Bool} {v : Nat} (h : hasN l v = true) : v < l.length := by
  by_cases e : v < l.length
  · exact e
  · simp [hasN, List.getElem?_eq_none (Nat.le_of_not_lt e)] at h
theorem hasN_get {l : List Bool} {v : Nat} (h : v < l.length) : hasN l v = l[v] := by simp [hasN, h]
theorem hasN_tab {n : Nat} {f : Nat → Bool} {v : Nat} (h : v < n) : hasN (tab n f) v = f v := by simp [hasN, h]

open Classical in
theorem reachL_get (g : G) (from_ : List Bool) {v : Nat} (h : v < (reachL g from_).length) : (reachL g from_)[v] = decide (Reaches g from_ v) := by simp [reachL]
theorem reachL_len (g : G) (from_ : List Bool) : (reachL g from_).length = g.owner.length := by simp [reachL]
open Classical in
theorem reachL_has {g : G} {from_ : List Bool} {v : Nat} : hasN (reachL g from_) v = true ↔ v < g.owner.length ∧ Reaches g from_ v := by
  constructor
  · intro h
    have q := hasN_lt h
    rw [reachL_len] at q
    rw [reachL, hasN_tab q] at h
    exact ⟨q, by simpa using h⟩
  · rintro ⟨q, h⟩
    rw [reachL, hasN_tab q]; simpa using h

/-- What is told by one set is reached from it. -/
theorem reachL_start {g : G} {from_ : List Bool} {v : Nat} (hv : v < (reachL g from_).length) (h : hasN from_ v = true) : (reachL g from_)[v] = true := by
  rw [reachL_get]; rw [reachL_len] at hv; simpa using Reaches.start v hv h
theorem reachL_step {g : G} {from_ : List Bool} {v w : Nat} (hv : v < (reachL g from_).length) (hw : w < (reachL g from_).length) (h : (reachL g from_)[v] = true) (hm : (w : Int) ∈ g.next.getD v []) : (reachL g from_)[w] = true := by
  rw [reachL_get] at h ⊢
  simpa using Reaches.step v w (by simpa using h) hm

theorem reaches_or {g : G} {a b c : List Bool} (h : ∀ v, v < g.owner.length → hasN c v = (hasN a v || hasN b v)) {v : Nat} : Reaches g c v ↔ Reaches g a v ∨ Reaches g b v := by
  constructor
  · intro q
    induction q with
    | start v hv hf =>
      rw [h v hv, Bool.or_eq_true] at hf
      exact hf.imp (fun e => .start v hv e) (fun e => .start v hv e)
    | step v w _ hw ih => exact ih.imp (fun e => .step v w e hw) (fun e => .step v w e hw)
  · rintro (q | q)
    · exact q.mono fun v hv e => .start v hv (by rw [h v hv, e]; rfl)
    · exact q.mono fun v hv e => .start v hv (by rw [h v hv, e, Bool.or_true])

open Classical in
theorem reachL_or {g : G} {a b c : List Bool} (h : ∀ v, v < g.owner.length → hasN c v = (hasN a v || hasN b v)) {v : Nat} (h1 : v < (reachL g a).length) (h2 : v < (reachL g b).length) (h3 : v < (reachL g c).length) :
    (reachL g c)[v] = ((reachL g a)[v] || (reachL g b)[v]) := by
  rw [reachL_get, reachL_get, reachL_get]
  have e := reaches_or h (v := v)
  by_cases p : Reaches g a v <;> by_cases q : Reaches g b v <;> simp [e, p, q]

open Classical in
theorem reachL_twice (g : G) (a : List Bool) : reachL g (reachL g a) = reachL g a := by
  refine tab_congr fun v hv => ?_
  have : Reaches g (reachL g a) v ↔ Reaches g a v :=
    ⟨fun q => q.mono fun v hv e => (reachL_has.1 e).2, fun q => .start v hv (reachL_has.2 ⟨hv, q⟩)⟩
  simp [this]
end Go.Par
