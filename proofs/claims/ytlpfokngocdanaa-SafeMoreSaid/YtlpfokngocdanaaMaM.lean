/- A region that draws its order: each order that its edges allow comes to the same. -/
import Derived.Test.YtlpfokngocdanaaMaL
import Derived.Orders
set_option linter.unusedSimpArgs false
namespace Go.Par

def aft (o : Oper) (i : Nat) : Bool := o.after.toList.any fun e => e.on == i && Region.binds .any e

def isLoad : Op → Bool
  | .load .. => true
  | _ => false

def isAlloc (M : List Nat) (o : Oper) : Bool :=
  match o.op with
  | .alloc _ => o.dst.any M.contains
  | .makeSlice .. => o.dst.any M.contains
  | _ => false

def looks (all : List Oper) (o : Oper) : List Nat :=
  (o.op.operands.toList.filterMap fun | .tmp t => some t | _ => none) ++ (match o.guard with | some (g, _) => (dstOf all g).toList | none => [])

/-- 'j' stands behind 'i' in the text: where the one minds the other they keep that order. -/
def pairOK (all : List Oper) (m : Nat) (M : List Nat) (j : Nat) (oj : Oper) (i : Nat) (oi : Oper) : Bool :=
  aft oj i || !((oi.dst.any fun t => (looks all oj).contains t || oj.dst == some t) || (oj.dst.any fun t => (looks all oi).contains t) || decide (m ≤ i) || (isAlloc M oi && decide (j = m)))

def allPairs (all : List Oper) (m : Nat) (M : List Nat) (j : Nat) (oj : Oper) : Nat → List Oper → Bool
  | _, [] => true
  | i, oi :: rest => (if i < j then pairOK all m M j oj i oi else true) && allPairs all m M j oj (i + 1) rest

def drawOKs (all : List Oper) (m : Nat) (M : List Nat) : Nat → List Oper → Bool
  | _, [] => true
  | j, oj :: rest => (oj.after.toList.all fun e => !Region.binds .any e || decide (e.on < j)) && allPairs all m M j oj 0 all && drawOKs all m M (j + 1) rest

def drawOK (all : List Oper) (m : Nat) (M : List Nat) : Bool := drawOKs all m M 0 all && decide (m ≤ all.length)

theorem allPairs_spec {all : List Oper} {m : Nat} {M : List Nat} {j : Nat} {oj : Oper} : ∀ (l : List Oper) (k : Nat), allPairs all m M j oj k l = true → ∀ i oi, l[i]? = some oi → k + i < j → pairOK all m M j oj (k + i) oi = true := by
  intro l
  induction l with
  | nil => intro k _ i oi h; simp at h
  | cons o l ih =>
    intro k h i oi hi hlt
    simp only [allPairs, Bool.and_eq_true] at h
    cases i with
    | zero =>
      simp at hi
      subst hi
      have := h.1
      rw [if_pos (by omega)] at this
      simpa using this
    | succ i =>
      have := ih (k + 1) h.2 i oi (by simpa using hi) (by omega)
      rwa [show k + 1 + i = k + (i + 1) by omega] at this

theorem drawOKs_spec {all : List Oper} {m : Nat} {M : List Nat} : ∀ (l : List Oper) (k : Nat), drawOKs all m M k l = true → ∀ j oj, l[j]? = some oj →
    (∀ e ∈ oj.after, Region.binds .any e = true → e.on < k + j) ∧ allPairs all m M (k + j) oj 0 all = true := by
  intro l
  induction l with
  | nil => intro k _ j oj h; simp at h
  | cons o l ih =>
    intro k h j oj hj
    simp only [drawOKs, Bool.and_eq_true] at h
    obtain ⟨⟨h1, h2⟩, h4⟩ := h
    cases j with
    | zero =>
      simp at hj
      subst hj
      refine ⟨fun e he hb => ?_, h2⟩
      rw [List.all_eq_true] at h1
      have := h1 e (by simpa using he)
      simpa [hb] using this
    | succ j =>
      have := ih (k + 1) h4 j oj (by simpa using hj)
      rwa [show k + 1 + j = k + (j + 1) by omega] at this

/-- What holds of a region whose order is drawn. -/
structure Drawn (all : List Oper) (m : Nat) (M : List Nat) : Prop where
  le : m ≤ all.length
  edge : ∀ (j : Nat) (oj : Oper), all[j]? = some oj → ∀ e ∈ oj.after, Region.binds .any e = true → e.on < j
  look : ∀ (i j : Nat) (oi oj : Oper) (t : Nat), i < j → all[i]? = some oi → all[j]? = some oj → oi.dst = some t → t ∈ looks all oj → aft oj i = true
  look' : ∀ (i j : Nat) (oi oj : Oper) (t : Nat), i < j → all[i]? = some oi → all[j]? = some oj → oj.dst = some t → t ∈ looks all oi → aft oj i = true
  both : ∀ (i j : Nat) (oi oj : Oper) (t : Nat), i < j → all[i]? = some oi → all[j]? = some oj → oi.dst = some t → oj.dst = some t → aft oj i = true
  tail : ∀ (i j : Nat) (oi oj : Oper), i < j → all[i]? = some oi → all[j]? = some oj → m ≤ i → aft oj i = true
  alloc : ∀ (i j : Nat) (oi oj : Oper), i < j → all[i]? = some oi → all[j]? = some oj → isAlloc M oi = true → j = m → aft oj i = true

theorem drawOK_spec {all : List Oper} {m : Nat} {M : List Nat} (h : drawOK all m M = true) : Drawn all m M := by
  simp only [drawOK, Bool.and_eq_true, decide_eq_true_eq] at h
  obtain ⟨h, hle⟩ := h
  have key : ∀ (i j : Nat) (oi oj : Oper), i < j → all[i]? = some oi → all[j]? = some oj → pairOK all m M j oj i oi = true := by
    intro i j oi oj hlt hi hj
    have := (drawOKs_spec all 0 h j oj hj).2
    rw [Nat.zero_add] at this
    have := allPairs_spec all 0 this i oi hi (by omega)
    rwa [Nat.zero_add] at this
  refine ⟨hle, fun j oj hj => ?_, ?_, ?_, ?_, ?_, ?_⟩
  · have := (drawOKs_spec all 0 h j oj hj).1
    simpa using this
  all_goals intro i j oi oj
  · intro t hlt hi hj h1 h2
    have := key i j oi oj hlt hi hj
    simp only [pairOK, Bool.or_eq_true, Bool.not_eq_true'] at this
    rcases this with h | h
    · exact h
    · simp [h1, h2] at h
  · intro t hlt hi hj h1 h2
    have := key i j oi oj hlt hi hj
    simp only [pairOK, Bool.or_eq_true, Bool.not_eq_true'] at this
    rcases this with h | h
    · exact h
    · simp [h1, h2] at h
  · intro t hlt hi hj h1 h2
    have := key i j oi oj hlt hi hj
    simp only [pairOK, Bool.or_eq_true, Bool.not_eq_true'] at this
    rcases this with h | h
    · exact h
    · simp [h1, h2] at h
  · intro hlt hi hj h1
    have := key i j oi oj hlt hi hj
    simp only [pairOK, Bool.or_eq_true, Bool.not_eq_true'] at this
    rcases this with h | h
    · exact h
    · simp [h1] at h
  · intro hlt hi hj h1 h2
    have := key i j oi oj hlt hi hj
    simp only [pairOK, Bool.or_eq_true, Bool.not_eq_true'] at this
    rcases this with h | h
    · exact h
    · simp [h1, h2] at h

/-! ### What the slots hold when some operations have run. -/

def cur (all : List Oper) (tm0 : Tm) (ls : Nat → Bool) (vs : Nat → AV) : Nat → Tm
  | 0 => tm0
  | k + 1 => if ls k then putA (cur all tm0 ls vs k) (dstOf all k) (vs k) else cur all tm0 ls vs k

theorem get_putA {tm : Tm} {d : Option Nat} {v : AV} {t : Nat} : get (putA tm d v) t = if d = some t then v else get tm t := by
  cases d with
  | none => simp [putA]
  | some d => simp only [putA, get, Option.some.injEq]

theorem cur_agree {all : List Oper} {tm0 : Tm} {ls ls' : Nat → Bool} {vs vs' : Nat → AV} {t : Nat} : ∀ N, (∀ i, i < N → dstOf all i = some t → ls i = ls' i ∧ (ls i = true → vs i = vs' i)) →
    get (cur all tm0 ls vs N) t = get (cur all tm0 ls' vs' N) t := by
  intro N
  induction N with
  | zero => intro _; rfl
  | succ N ih =>
    intro h
    have ih' := ih fun i hi => h i (by omega)
    simp only [cur]
    by_cases hd : dstOf all N = some t
    · obtain ⟨h1, h2⟩ := h N (by omega) hd
      rw [← h1]
      cases hl : ls N with
      | true => simp only [if_true, get_putA, hd]; exact h2 hl
      | false => simpa using ih'
    · have : ∀ (ls : Nat → Bool) (vs : Nat → AV), get (if ls N then putA (cur all tm0 ls vs N) (dstOf all N) (vs N) else cur all tm0 ls vs N) t = get (cur all tm0 ls vs N) t := by
        intro ls vs
        split
        · rw [get_putA, if_neg hd]
        · rfl
      rw [this, this]
      exact ih'

def txt (all : List Oper) (tm0 : Tm) (vs : Nat → AV) (k : Nat) : Tm := cur all tm0 (fun _ => true) vs k

theorem cur_below {all : List Oper} {tm0 : Tm} {vs : Nat → AV} {k : Nat} : ∀ N, k ≤ N → cur all tm0 (fun i => decide (i < k)) vs N = txt all tm0 vs k := by
  have base : ∀ N, N ≤ k → cur all tm0 (fun i => decide (i < k)) vs N = txt all tm0 vs N := by
    intro N
    induction N with
    | zero => intro _; rfl
    | succ N ih =>
      intro h
      simp only [cur, txt, if_true]
      rw [if_pos (by simp; omega), ih (by omega)]
      rfl
  intro N
  induction N with
  | zero => intro h; have : k = 0 := by omega
            subst this; rfl
  | succ N ih =>
    intro h
    by_cases e : k = N + 1
    · subst e; exact base _ (Nat.le_refl _)
    · simp only [cur]
      rw [if_neg (by simp; omega)]
      exact ih (by omega)

theorem txt_congr {all : List Oper} {tm0 : Tm} {vs vs' : Nat → AV} : ∀ k, (∀ i, i < k → vs i = vs' i) → txt all tm0 vs k = txt all tm0 vs' k := by
  intro k
  induction k with
  | zero => intro _; rfl
  | succ k ih =>
    intro h
    simp only [txt, cur, if_true]
    rw [h k (by omega)]
    have := ih fun i hi => h i (by omega)
    simp only [txt] at this
    rw [this]

end Go.Par
