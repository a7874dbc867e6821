/- Measures: plain laws. -/
import Derived.Test.YtkpdhglbkmbojaaAgB
set_option linter.unusedSimpArgs false
set_option linter.unusedVariables false
set_option maxRecDepth 8000
namespace Go.Par

/-- A measure: a number of each odd priority; none: top. -/
abbrev Ms := Option (Nat × Nat × Nat)
def mcode : Ms → Nat
  | none => 64000000000
  | some (a, b, c) => c * 16000000 + b * 4000 + a
/-- How many vertices are of each odd priority. -/
structure Mo where
  a : Nat
  b : Nat
  c : Nat
structure Mo.ok (mo : Mo) : Prop where
  a : mo.a ≤ 3000
  b : mo.b ≤ 3000
  c : mo.c ≤ 3000
def msOk (mo : Mo) : Ms → Prop
  | none => True
  | some (a, b, c) => a ≤ mo.a ∧ b ≤ mo.b ∧ c ≤ mo.c
def nextM (mo : Mo) (p : Nat) : Ms → Ms
  | none => none
  | some (a, b, c) =>
    match p with
    | 0 => some (a, b, c)
    | 1 => if a < mo.a then some (a + 1, b, c) else if b < mo.b then some (0, b + 1, c) else if c < mo.c then some (0, 0, c + 1) else none
    | 2 => some (0, b, c)
    | 3 => if b < mo.b then some (0, b + 1, c) else if c < mo.c then some (0, 0, c + 1) else none
    | 4 => some (0, 0, c)
    | _ => if c < mo.c then some (0, 0, c + 1) else none

section
variable {mo : Mo} {p : Nat} {x y : Ms}

theorem mcode_top (ok : mo.ok) (h : msOk mo x) : mcode x ≤ 64000000000 ∧ (mcode x = 64000000000 → x = none) := by
  obtain ⟨h1, h2, h3⟩ := ok
  cases x with
  | none => simp [mcode]
  | some t =>
    obtain ⟨a, b, c⟩ := t
    simp only [msOk] at h
    simp only [mcode]
    omega
theorem mcode_inj (ok : mo.ok) (hx : msOk mo x) (hy : msOk mo y) (h : mcode x = mcode y) : x = y := by
  obtain ⟨h1, h2, h3⟩ := ok
  cases x with
  | none => exact ((mcode_top ⟨h1, h2, h3⟩ hy).2 (by rw [← h]; rfl)).symm
  | some t =>
    cases y with
    | none => exact (mcode_top ⟨h1, h2, h3⟩ hx).2 (by rw [h]; rfl)
    | some u =>
      obtain ⟨a, b, c⟩ := t
      obtain ⟨a', b', c'⟩ := u
      simp only [msOk] at hx hy
      simp only [mcode] at h
      have e1 : c = c' := by omega
      subst e1
      have e2 : b = b' := by omega
      subst e2
      have e3 : a = a' := by omega
      subst e3
      rfl
theorem next_ok (h : msOk mo x) : msOk mo (nextM mo p x) := by
  cases x with
  | none => trivial
  | some t =>
    obtain ⟨a, b, c⟩ := t
    simp only [msOk] at h
    match p with
    | 0 => simpa only [nextM, msOk] using h
    | 1 => simp only [nextM]; repeat' split
           all_goals first | trivial | (simp only [msOk]; omega)
    | 2 => simp only [nextM, msOk]; omega
    | 3 => simp only [nextM]; repeat' split
           all_goals first | trivial | (simp only [msOk]; omega)
    | 4 => simp only [nextM, msOk]; omega
    | k + 5 => simp only [nextM]; repeat' split
               all_goals first | trivial | (simp only [msOk]; omega)
theorem lex_iff {a b c a' b' c' : Nat} (h1 : a ≤ 3000) (h2 : b ≤ 3000) (h3 : a' ≤ 3000) (h4 : b' ≤ 3000) : c * 16000000 + b * 4000 + a ≤ c' * 16000000 + b' * 4000 + a' ↔ c < c' ∨ (c = c' ∧ (b < b' ∨ (b = b' ∧ a ≤ a'))) := by
  rcases Nat.lt_trichotomy c c' with q | q | q
  · exact ⟨fun _ => .inl q, fun _ => by omega⟩
  · subst q
    rcases Nat.lt_trichotomy b b' with q | q | q
    · exact ⟨fun _ => .inr ⟨rfl, .inl q⟩, fun _ => by omega⟩
    · subst q
      exact ⟨fun _ => .inr ⟨rfl, .inr ⟨rfl, by omega⟩⟩, fun _ => by omega⟩
    · exact ⟨fun _ => by omega, fun _ => by omega⟩
  · exact ⟨fun _ => by omega, fun _ => by omega⟩
theorem next_mono (ok : mo.ok) (hx : msOk mo x) (hy : msOk mo y) (h : mcode x ≤ mcode y) : mcode (nextM mo p x) ≤ mcode (nextM mo p y) := by
  have hk := ok
  obtain ⟨h1, h2, h3⟩ := ok
  cases y with
  | none => exact (mcode_top hk (next_ok hx)).1
  | some u =>
    cases x with
    | none => have := (mcode_top hk hy).2 (by have := (mcode_top hk hy).1; simp only [mcode] at h this ⊢; omega); cases this
    | some t =>
      obtain ⟨a, b, c⟩ := t
      obtain ⟨a', b', c'⟩ := u
      simp only [msOk] at hx hy
      simp only [mcode] at h
      have e : ∀ (a b c : Nat), mcode (some (a, b, c)) = c * 16000000 + b * 4000 + a := fun _ _ _ => rfl
      have e0 : mcode none = 64000000000 := rfl
      obtain ⟨q0, q1, q2⟩ := hx
      obtain ⟨r0, r1, r2⟩ := hy
      rw [lex_iff (by omega) (by omega) (by omega) (by omega)] at h
      match p with
      | 0 => simp only [nextM, e]; exact (lex_iff (by omega) (by omega) (by omega) (by omega)).2 h
      | 1 =>
        simp only [nextM]
        by_cases q1 : a < mo.a <;> by_cases q2 : b < mo.b <;> by_cases q3 : c < mo.c <;> by_cases q4 : a' < mo.a <;> by_cases q5 : b' < mo.b <;> by_cases q6 : c' < mo.c <;> simp only [q1, q2, q3, q4, q5, q6, if_true, if_false, e, e0] <;> clear e e0 <;> first | exact (lex_iff (by omega) (by omega) (by omega) (by omega)).2 (by omega) | (exfalso; omega) | omega
      | 2 => simp only [nextM, e]; exact (lex_iff (by omega) (by omega) (by omega) (by omega)).2 (by omega)
      | 3 =>
        simp only [nextM]
        by_cases q2 : b < mo.b <;> by_cases q3 : c < mo.c <;> by_cases q5 : b' < mo.b <;> by_cases q6 : c' < mo.c <;> simp only [q2, q3, q5, q6, if_true, if_false, e, e0] <;> clear e e0 <;> first | exact (lex_iff (by omega) (by omega) (by omega) (by omega)).2 (by omega) | (exfalso; omega) | omega
      | 4 => simp only [nextM, e]; exact (lex_iff (by omega) (by omega) (by omega) (by omega)).2 (by omega)
      | k + 5 =>
        simp only [nextM]
        by_cases q3 : c < mo.c <;> by_cases q6 : c' < mo.c <;> simp only [q3, q6, if_true, if_false, e, e0] <;> clear e e0 <;> first | exact (lex_iff (by omega) (by omega) (by omega) (by omega)).2 (by omega) | (exfalso; omega) | omega
end

def minM (l : List Ms) : Ms := l.foldl (fun o m => if mcode m < mcode o then m else o) none
def maxM (l : List Ms) : Ms := l.foldl (fun o m => if mcode o < mcode m then m else o) (some (0, 0, 0))

theorem fold_min : ∀ (l : List Ms) (o : Ms), (∀ m ∈ l, mcode (l.foldl (fun o m => if mcode m < mcode o then m else o) o) ≤ mcode m) ∧ mcode (l.foldl (fun o m => if mcode m < mcode o then m else o) o) ≤ mcode o ∧
    (l.foldl (fun o m => if mcode m < mcode o then m else o) o = o ∨ l.foldl (fun o m => if mcode m < mcode o then m else o) o ∈ l)
  | [], o => ⟨fun m h => (by cases h), Nat.le_refl _, .inl rfl⟩
  | x :: l, o => by
    simp only [List.foldl_cons]
    by_cases c : mcode x < mcode o
    · rw [if_pos c]
      obtain ⟨h1, h2, h3⟩ := fold_min l x
      refine ⟨fun m hm => ?_, by omega, .inr ?_⟩
      · rcases List.mem_cons.1 hm with rfl | hm
        · exact h2
        · exact h1 m hm
      · rcases h3 with h3 | h3
        · rw [h3]; simp
        · simp [h3]
    · rw [if_neg c]
      obtain ⟨h1, h2, h3⟩ := fold_min l o
      refine ⟨fun m hm => ?_, h2, ?_⟩
      · rcases List.mem_cons.1 hm with rfl | hm
        · omega
        · exact h1 m hm
      · rcases h3 with h3 | h3
        · exact .inl h3
        · exact .inr (by simp [h3])
theorem fold_max : ∀ (l : List Ms) (o : Ms), (∀ m ∈ l, mcode m ≤ mcode (l.foldl (fun o m => if mcode o < mcode m then m else o) o)) ∧ mcode o ≤ mcode (l.foldl (fun o m => if mcode o < mcode m then m else o) o) ∧
    (l.foldl (fun o m => if mcode o < mcode m then m else o) o = o ∨ l.foldl (fun o m => if mcode o < mcode m then m else o) o ∈ l)
  | [], o => ⟨fun m h => (by cases h), Nat.le_refl _, .inl rfl⟩
  | x :: l, o => by
    simp only [List.foldl_cons]
    by_cases c : mcode o < mcode x
    · rw [if_pos c]
      obtain ⟨h1, h2, h3⟩ := fold_max l x
      refine ⟨fun m hm => ?_, by omega, .inr ?_⟩
      · rcases List.mem_cons.1 hm with rfl | hm
        · exact h2
        · exact h1 m hm
      · rcases h3 with h3 | h3
        · rw [h3]; simp
        · simp [h3]
    · rw [if_neg c]
      obtain ⟨h1, h2, h3⟩ := fold_max l o
      refine ⟨fun m hm => ?_, h2, ?_⟩
      · rcases List.mem_cons.1 hm with rfl | hm
        · omega
        · exact h1 m hm
      · rcases h3 with h3 | h3
        · exact .inl h3
        · exact .inr (by simp [h3])
theorem min_le {l : List Ms} {m : Ms} (h : m ∈ l) : mcode (minM l) ≤ mcode m := (fold_min l none).1 m h
theorem min_in (l : List Ms) : minM l = none ∨ minM l ∈ l := (fold_min l none).2.2
theorem le_max {l : List Ms} {m : Ms} (h : m ∈ l) : mcode m ≤ mcode (maxM l) := (fold_max l _).1 m h
theorem max_in (l : List Ms) : maxM l = some (0, 0, 0) ∨ maxM l ∈ l := (fold_max l _).2.2

abbrev xM (x : List Ms) (v : Nat) : Ms := x.getD v none
def moL (P : List Int) : Mo := ⟨P.count 1, P.count 3, P.count 5⟩
def prP (P : List Int) (v : Nat) : Nat := (P.getD v 0).toNat
/-- What a vertex's measure should be. -/
def shouldM (g : G) (P : List Int) (x : List Ms) (v : Nat) : Ms :=
  if ow g v = 1 then minM ((nx g v).map fun w => nextM (moL P) (prP P v) (xM x w.toNat)) else maxM ((nx g v).map fun w => nextM (moL P) (prP P v) (xM x w.toNat))

structure MG (g : G) (P : List Int) : Prop where
  m : mayE g = 0
  len : P.length = g.owner.length
  lo : ∀ v, v < g.owner.length → 0 ≤ P.getD v 0
  hi : ∀ v, v < g.owner.length → P.getD v 0 ≤ 5

section
variable {g : G} {P : List Int} {x y : List Ms} {v : Nat}

theorem MG.mo (ok : MG g P) : (moL P).ok := by
  have h1 := (may_ok ok.m).1
  have h2 := ok.len
  exact ⟨Nat.le_trans List.count_le_length (by omega), Nat.le_trans List.count_le_length (by omega), Nat.le_trans List.count_le_length (by omega)⟩

def Mok (g : G) (P : List Int) (x : List Ms) : Prop := x.length = g.owner.length ∧ ∀ v, v < g.owner.length → msOk (moL P) (xM x v)
def leM (n : Nat) (x y : List Ms) : Prop := ∀ v, v < n → mcode (xM x v) ≤ mcode (xM y v)
/-- It is enough. -/
def Pre (g : G) (P : List Int) (y : List Ms) : Prop := ∀ v, v < g.owner.length → mcode (shouldM g P y v) ≤ mcode (xM y v)
structure Least (g : G) (P : List Int) (x : List Ms) : Prop where
  ok : Mok g P x
  pre : Pre g P x
  min : ∀ y, Mok g P y → Pre g P y → leM g.owner.length x y

theorem should_ok (ok : MG g P) (hx : Mok g P x) (hv : v < g.owner.length) : msOk (moL P) (shouldM g P x v) := by
  have key : ∀ m ∈ (nx g v).map (fun w => nextM (moL P) (prP P v) (xM x w.toNat)), msOk (moL P) m := by
    intro m hm
    obtain ⟨w, hw, rfl⟩ := List.mem_map.1 hm
    have := (nx_ok ok.m hv).2 w hw
    exact next_ok (hx.2 _ (by omega))
  unfold shouldM
  split
  · rcases min_in ((nx g v).map fun w => nextM (moL P) (prP P v) (xM x w.toNat)) with h | h
    · rw [h]; trivial
    · exact key _ h
  · rcases max_in ((nx g v).map fun w => nextM (moL P) (prP P v) (xM x w.toNat)) with h | h
    · rw [h]; simp [msOk]
    · exact key _ h

theorem should_mono (ok : MG g P) (hx : Mok g P x) (hy : Mok g P y) (h : leM g.owner.length x y) (hv : v < g.owner.length) : mcode (shouldM g P x v) ≤ mcode (shouldM g P y v) := by
  have hw : ∀ w ∈ nx g v, mcode (nextM (moL P) (prP P v) (xM x w.toNat)) ≤ mcode (nextM (moL P) (prP P v) (xM y w.toNat)) := fun w hw => by
    have := (nx_ok ok.m hv).2 w hw
    exact next_mono ok.mo (hx.2 _ (by omega)) (hy.2 _ (by omega)) (h _ (by omega))
  have hox := should_ok ok hx hv
  unfold shouldM at hox ⊢
  split
  · rename_i e
    rw [if_pos e] at hox
    rcases min_in ((nx g v).map fun w => nextM (moL P) (prP P v) (xM y w.toNat)) with q | q
    · rw [q]; exact (mcode_top ok.mo hox).1
    · obtain ⟨w, hw', q⟩ := List.mem_map.1 q
      rw [← q]
      exact Nat.le_trans (min_le (List.mem_map.2 ⟨w, hw', rfl⟩)) (hw w hw')
  · rcases max_in ((nx g v).map fun w => nextM (moL P) (prP P v) (xM x w.toNat)) with q | q
    · rw [q]; simp [mcode]
    · obtain ⟨w, hw', q⟩ := List.mem_map.1 q
      rw [← q]
      exact Nat.le_trans (hw w hw') (le_max (List.mem_map.2 ⟨w, hw', rfl⟩))

theorem Least.uniq (ok : MG g P) (hx : Least g P x) (hy : Least g P y) : x = y := by
  apply List.ext_getElem?
  intro v
  by_cases hv : v < g.owner.length
  · have h1 := hx.min y hy.ok hy.pre v hv
    have h2 := hy.min x hx.ok hx.pre v hv
    have e := mcode_inj ok.mo (hx.ok.2 v hv) (hy.ok.2 v hv) (by omega)
    have l1 : v < x.length := by rw [hx.ok.1]; exact hv
    have l2 : v < y.length := by rw [hy.ok.1]; exact hv
    simp only [xM, List.getD_eq_getElem?_getD, List.getElem?_eq_getElem l1, List.getElem?_eq_getElem l2, Option.getD_some] at e ⊢
    rw [e]
  · rw [List.getElem?_eq_none (by rw [hx.ok.1]; omega), List.getElem?_eq_none (by rw [hy.ok.1]; omega)]

noncomputable def measL (g : G) (P : List Int) : List Ms := open Classical in if h : ∃ x, Least g P x then Classical.choose h else []
theorem meas_eq (ok : MG g P) (hx : Least g P x) : x = measL g P := by
  have h : ∃ x, Least g P x := ⟨x, hx⟩
  unfold measL
  rw [dif_pos h]
  exact hx.uniq ok (Classical.choose_spec h)

/-- While one lifts. -/
structure Lfi (g : G) (P : List Int) (x : List Ms) : Prop where
  ok : Mok g P x
  min : ∀ y, Mok g P y → Pre g P y → leM g.owner.length x y
def zeroM (n : Nat) : List Ms := tab n fun _ => some (0, 0, 0)
theorem Lfi.zero : Lfi g P (zeroM g.owner.length) := by
  have e : ∀ v, v < g.owner.length → xM (zeroM g.owner.length) v = some (0, 0, 0) := fun v hv => by rw [xM, zeroM, getD_tab, if_pos hv]
  exact ⟨⟨length_tab _ _, fun v hv => by rw [e v hv]; simp [msOk]⟩, fun y _ _ v hv => by rw [e v hv]; simp [mcode]⟩
theorem xM_set {i : Nat} {m : Ms} (h : i < x.length) : xM (x.set i m) v = if i = v then m else xM x v := getD_set h
theorem Lfi.lift (ok : MG g P) (h : Lfi g P x) (hv : v < g.owner.length) : Lfi g P (x.set v (shouldM g P x v)) := by
  have hl : v < x.length := by rw [h.ok.1]; exact hv
  refine ⟨⟨by rw [List.length_set]; exact h.ok.1, fun u hu => ?_⟩, fun y hy hp u hu => ?_⟩
  · rw [xM_set hl]; split
    · exact should_ok ok h.ok hv
    · exact h.ok.2 u hu
  · rw [xM_set hl]; split
    · rename_i e; subst e
      exact Nat.le_trans (should_mono ok h.ok hy (h.min y hy hp) hv) (hp v hv)
    · exact h.min y hy hp u hu
theorem Lfi.done (h : Lfi g P x) (hp : Pre g P x) : Least g P x := ⟨h.ok, hp, h.min⟩
/-- What is lifted no more than once should be as it is. -/
def Post (g : G) (P : List Int) (x : List Ms) : Prop := ∀ v, v < g.owner.length → mcode (xM x v) ≤ mcode (shouldM g P x v)
/-- How far one may still lift. -/
def slackM (x : List Ms) : Nat := (x.map fun m => 64000000000 - mcode m).sum
theorem slack_lift {i : Nat} {m : Ms} (h : i < x.length) (hlt : mcode (xM x i) < mcode m) (hm : mcode m ≤ 64000000000) : slackM (x.set i m) < slackM x := by
  unfold slackM xM at *
  induction x generalizing i with
  | nil => simp at h
  | cons a x ih =>
    cases i with
    | zero => simp only [List.set_cons_zero, List.map_cons, List.sum_cons]; simp at hlt; omega
    | succ i =>
      simp only [List.set_cons_succ, List.map_cons, List.sum_cons]
      have := @ih i (by simpa using h) (by simpa using hlt)
      omega

/-- The least measures are what they should be. -/
theorem Least.eq (ok : MG g P) (h : Least g P x) (hv : v < g.owner.length) : xM x v = shouldM g P x v := by
  have ho := should_ok ok h.ok hv
  refine mcode_inj ok.mo (h.ok.2 v hv) ho (Nat.le_antisymm ?_ (h.pre v hv))
  have hl : v < x.length := by rw [h.ok.1]; exact hv
  have h' := Lfi.lift ok ⟨h.ok, h.min⟩ hv
  have hle : leM g.owner.length (x.set v (shouldM g P x v)) x := h'.min x h.ok h.pre
  have pre : Pre g P (x.set v (shouldM g P x v)) := by
    intro u hu
    have := should_mono ok h'.ok h.ok hle hu
    by_cases e : v = u
    · subst e; rw [xM_set hl, if_pos rfl]; exact this
    · rw [xM_set hl, if_neg e]; exact Nat.le_trans this (h.pre u hu)
  have := h.min _ h'.ok pre v hv
  rw [xM_set hl, if_pos rfl] at this
  exact this
end
end Go.Par
