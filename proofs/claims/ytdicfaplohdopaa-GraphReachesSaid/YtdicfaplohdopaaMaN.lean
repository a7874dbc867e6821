/- A region that draws its order: what is to be shown, once, in the order of the text. -/
import Derived.Test.YtdicfaplohdopaaMaM
set_option linter.unusedSimpArgs false
namespace Go.Par

abbrev Pend := List (Nat × (Heap → Prop))

def obl (h : Heap) : Pend → Prop
  | [] => True
  | (_, p) :: l => p h ∧ obl h l

def effOp (M : List Nat) (o : Oper) : Bool :=
  match o.op with
  | .box .. | .alloc .. | .makeSlice .. => o.dst.any M.contains
  | .store .. => true
  | .call c => match c.callee with | .value _ => true | .builtin .append => true | _ => false
  | _ => false

def vcTail (P : Program) (Θ : Types) (M : List Nat) : List Oper → Pend → (St → Prop) → St → Prop
  | [], _, K, S => K S
  | o :: rest, pend, K, S => o.dst.all (· < S.n) = true ∧ o.guard = none ∧
      vcOp P Θ M (ev S.tm) S.h o.dst o.op fun v h' => (if effOp M o then obl h' pend else h' = S.h) ∧ vcTail P Θ M rest pend K ⟨S.n, putA S.tm o.dst v, h'⟩

def obA (Θ : Types) (o : Oper) : Ob :=
  match o.op with
  | .alloc t => (match Θ t with | some d => ⟨(absV d.zero).flat, t, (absV d.zero).flat.length, true⟩ | none => ⟨[], 0, 0, false⟩)
  | _ => ⟨[], 0, 0, false⟩

def vcPre (P : Program) (Θ : Types) (M : List Nat) (all : List Oper) (ob : List Nat) (n : Nat) (h0 : Heap) : Nat → List Oper → (Tm → Pend → Prop) → Tm → Pend → Prop
  | _, [], K, tm, pend => K tm pend
  | i, o :: rest, K, tm, pend => o.dst.all (· < n) = true ∧
    match o.guard with
    | none =>
      if isAlloc M o then
        (match o.op with | .alloc t => (match Θ t with | some d => (absV d.zero).known = true ∧ 0 < (absV d.zero).flat.length | none => False) | _ => False) ∧ vcPre P Θ M all ob n h0 (i + 1) rest K tm pend
      else pOp P Θ (ev tm) h0 o.op fun v => vcPre P Θ M all ob n h0 (i + 1) rest K (putA tm o.dst v) (if ob.contains i then (i, fun h => pOp P Θ (ev tm) h o.op fun u => u = v) :: pend else pend)
    | some (j, want) => isAlloc M o = false ∧
      match dstOf all j with
      | some t =>
        match get tm t with
        | .bool b => t < n ∧ if b = want then pOp P Θ (ev tm) h0 o.op fun v => vcPre P Θ M all ob n h0 (i + 1) rest K (putA tm o.dst v) (if ob.contains i then (i, fun h => pOp P Θ (ev tm) h o.op fun u => u = v) :: pend else pend)
            else vcPre P Θ M all ob n h0 (i + 1) rest K (putA tm o.dst (.tup [])) pend
        | .tup _ => t < n ∧ vcPre P Θ M all ob n h0 (i + 1) rest K (putA tm o.dst (.tup [])) pend
        | _ => False
      | none => False

def vcAllocs (Θ : Types) (M : List Nat) : List Oper → (Tm → Heap → Prop) → Tm → Heap → Prop
  | [], K, tm, h => K tm h
  | o :: rest, K, tm, h => if isAlloc M o then ∀ nm, h nm = none → vcAllocs Θ M rest K (putA tm o.dst (.ptr nm 0)) (upd h nm (some (obA Θ o))) else vcAllocs Θ M rest K tm h

def vcDraw (P : Program) (Θ : Types) (M : List Nat) (all : List Oper) (m : Nat) (ob : List Nat) (K : St → Prop) (S : St) : Prop :=
  vcPre P Θ M all ob S.n S.h 0 (all.take m) (fun tm pend => vcAllocs Θ M (all.take m) (fun tm h => vcTail P Θ M (all.drop m) pend K ⟨S.n, tm, h⟩) tm S.h) S.tm []

/-- Loads that no later store minds, or that are asked of again. -/
def loadsOK (all : List Oper) (m : Nat) (M : List Nat) (ob : List Nat) : Nat → List Oper → Bool
  | _, [] => true
  | i, o :: rest => (decide (m ≤ i) || !isLoad o.op || ob.contains i || (all.drop m).all fun oj => !effOp M oj || aft oj i) && loadsOK all m M ob (i + 1) rest

theorem loadsOK_spec {all : List Oper} {m : Nat} {M : List Nat} {ob : List Nat} : ∀ (l : List Oper) (k : Nat), loadsOK all m M ob k l = true → ∀ (i : Nat) (o : Oper), l[i]? = some o → k + i < m → isLoad o.op = true → ob.contains (k + i) = false →
    ∀ oj ∈ all.drop m, effOp M oj = true → aft oj (k + i) = true := by
  intro l
  induction l with
  | nil => intro k _ i o h; simp at h
  | cons o l ih =>
    intro k h i o' hi hlt hl hob
    simp only [loadsOK, Bool.and_eq_true] at h
    cases i with
    | zero =>
      simp at hi
      subst hi
      have h1 := h.1
      simp only [Nat.add_zero] at hlt hob ⊢
      simp only [Bool.or_eq_true, decide_eq_true_eq, Bool.not_eq_true', hl, hob] at h1
      rcases h1 with ((h1 | h1) | h1) | h1
      · omega
      · cases h1
      · cases h1
      · intro oj hj he
        rw [List.all_eq_true] at h1
        have := h1 oj hj
        simpa [he] using this
    | succ i =>
      have := ih (k + 1) h.2 i o' (by simpa using hi) (by omega) hl (by rwa [show k + 1 + i = k + (i + 1) by omega])
      rwa [show k + 1 + i = k + (i + 1) by omega] at this

def subH (h H : Heap) : Prop := ∀ o x, h o = some x → H o = some x
theorem subH.refl (h : Heap) : subH h h := fun _ _ q => q

theorem pOp_sub {P : Program} {Θ : Types} {ρ : Operand → AV} {h H : Heap} {o : Op} {k : AV → Prop} (hs : subH h H) (hp : pOp P Θ ρ h o k) : pOp P Θ ρ H o k := by
  cases o with
  | load t x =>
    simp only [pOp] at hp ⊢
    split at hp
    · exact hp
    · split at hp
      · rename_i hx
        rw [hs _ _ hx]
        exact hp
      · exact hp.elim
    · exact hp.elim
  | makeFunc f x c => cases f <;> exact hp
  | _ => exact hp

theorem pOp_noload {P : Program} {Θ : Types} {ρ : Operand → AV} {h H : Heap} {o : Op} {k : AV → Prop} (hl : isLoad o = false) (hp : pOp P Θ ρ h o k) : pOp P Θ ρ H o k := by
  cases o with
  | load t x => cases hl
  | makeFunc f x c => cases f <;> exact hp
  | _ => exact hp

/-- What was found out of an operation ahead of the first that writes. -/
inductive Fact (P : Program) (Θ : Types) (M : List Nat) (all : List Oper) (n : Nat) (h : Heap) (tm : Tm) (o : Oper) (v : AV) : Prop where
  | pure (hd : o.dst.all (· < n) = true) (ha : isAlloc M o = false) (hg : ∀ j want, o.guard = some (j, want) → ∃ t, dstOf all j = some t ∧ t < n ∧ get tm t = .bool want) (hp : pOp P Θ (ev tm) h o.op fun u => u = v) : Fact P Θ M all n h tm o v
  | skip (hd : o.dst.all (· < n) = true) (ha : isAlloc M o = false) (j : Nat) (want : Bool) (hg : o.guard = some (j, want)) (t : Nat) (ht : dstOf all j = some t) (htn : t < n) (hb : get tm t = .bool (!want) ∨ ∃ cs, get tm t = .tup cs) (hv : v = .tup []) : Fact P Θ M all n h tm o v
  | alloc (hd : o.dst.all (· < n) = true) (ha : isAlloc M o = true) (hg : o.guard = none) (t : TypeId) (d : TD) (ho : o.op = .alloc t) (ht : Θ t = some d) (hk : (absV d.zero).known = true) (hl : 0 < (absV d.zero).flat.length) : Fact P Θ M all n h tm o v

theorem Fact.sub {P : Program} {Θ : Types} {M : List Nat} {all : List Oper} {n : Nat} {h H : Heap} {tm : Tm} {o : Oper} {v : AV} (hs : subH h H) (hf : Fact P Θ M all n h tm o v) : Fact P Θ M all n H tm o v := by
  cases hf with
  | pure hd ha hg hp => exact .pure hd ha hg (pOp_sub hs hp)
  | skip hd ha j want hg t ht htn hb hv => exact .skip hd ha j want hg t ht htn hb hv
  | alloc hd ha hg t d ho ht hk hl => exact .alloc hd ha hg t d ho ht hk hl

/-- The heap with those objects that are made so far. -/
def hpA (Θ : Types) (M : List Nat) (all : List Oper) (nm : Nat → Nat) (h0 : Heap) (ls : Nat → Bool) : Nat → Heap
  | 0 => h0
  | k + 1 => match all[k]? with
    | some o => if ls k && isAlloc M o then upd (hpA Θ M all nm h0 ls k) (nm k) (some (obA Θ o)) else hpA Θ M all nm h0 ls k
    | none => hpA Θ M all nm h0 ls k

theorem hpA_none {Θ : Types} {M : List Nat} {all : List Oper} {nm : Nat → Nat} {h0 : Heap} {ls : Nat → Bool} {x : Nat} (h : h0 x = none) : ∀ k, (∀ i, i < k → nm i = x → ls i = false ∨ ∀ o, all[i]? = some o → isAlloc M o = false) → hpA Θ M all nm h0 ls k x = none := by
  intro k
  induction k with
  | zero => intro _; exact h
  | succ k ih =>
    intro hn
    have ih' := ih fun i hi => hn i (by omega)
    cases ho : all[k]? with
    | none => simp only [hpA, ho]; exact ih'
    | some o =>
      simp only [hpA, ho]
      by_cases hc : (ls k && isAlloc M o) = true
      · rw [if_pos hc]
        simp only [Bool.and_eq_true] at hc
        have hne : x ≠ nm k := by
          intro e
          rcases hn k (by omega) e.symm with h1 | h1
          · rw [h1] at hc; cases hc.1
          · rw [h1 o ho] at hc; cases hc.2
        rw [upd_ne _ _ hne]
        exact ih'
      · rw [if_neg hc]
        exact ih'

theorem hpA_sub {Θ : Types} {M : List Nat} {all : List Oper} {nm : Nat → Nat} {h0 : Heap} {ls : Nat → Bool} (hn : ∀ i o, all[i]? = some o → isAlloc M o = true → ls i = true → h0 (nm i) = none) : ∀ k, subH h0 (hpA Θ M all nm h0 ls k) := by
  intro k
  induction k with
  | zero => exact subH.refl _
  | succ k ih =>
    cases ho : all[k]? with
    | none => simp only [hpA, ho]; exact ih
    | some o =>
      simp only [hpA, ho]
      by_cases hc : (ls k && isAlloc M o) = true
      · rw [if_pos hc]
        rw [Bool.and_eq_true] at hc
        intro o' x hx
        have hne : o' ≠ nm k := by rintro rfl; rw [hn k o ho hc.2 hc.1] at hx; cases hx
        rw [upd_ne _ _ hne]
        exact ih o' x hx
      · rw [if_neg hc]
        exact ih

theorem hpA_congr {Θ : Types} {M : List Nat} {all : List Oper} {nm nm' : Nat → Nat} {h0 : Heap} {ls ls' : Nat → Bool} : ∀ k, (∀ i, i < k → (∀ o, all[i]? = some o → isAlloc M o = true → ls i = ls' i ∧ (ls i = true → nm i = nm' i))) → hpA Θ M all nm h0 ls k = hpA Θ M all nm' h0 ls' k := by
  intro k
  induction k with
  | zero => intro _; rfl
  | succ k ih =>
    intro hn
    have ih' := ih fun i hi => hn i (by omega)
    simp only [hpA]
    split
    · rename_i o ho
      cases ha : isAlloc M o with
      | false => simp [ih']
      | true =>
        obtain ⟨h1, h2⟩ := hn k (by omega) o ho ha
        rw [ih', ← h1]
        cases hl : ls k with
        | true => rw [h2 hl]
        | false => rfl
    · exact ih'

/-- One object more is made. -/
theorem hpA_add {Θ : Types} {M : List Nat} {all : List Oper} {nm nm' : Nat → Nat} {h0 : Heap} {ls : Nat → Bool} {i : Nat} {o : Oper} (hi : all[i]? = some o) (ha : isAlloc M o = true) (hl : ls i = false)
    (hnm : ∀ j, j ≠ i → nm' j = nm j) (hne : ∀ (j : Nat) (o : Oper), all[j]? = some o → isAlloc M o = true → ls j = true → nm j ≠ nm' i) : ∀ k, i < k →
    hpA Θ M all nm' h0 (fun j => ls j || j == i) k = upd (hpA Θ M all nm h0 ls k) (nm' i) (some (obA Θ o)) := by
  intro k
  induction k with
  | zero => intro h; omega
  | succ k ih =>
    intro h
    by_cases e : i = k
    · subst e
      simp only [hpA, hi, ha, hl]
      simp only [Bool.false_or, beq_self_eq_true, Bool.and_self, if_true, Bool.false_and, Bool.false_eq_true, if_false]
      congr 1
      refine hpA_congr i ?_
      intro j hj _ _ _
      have : (j == i) = false := by simp; omega
      simp only [this, Bool.or_false, true_and]
      exact fun _ => hnm j (by omega)
    · have ih' := ih (by omega)
      have hki : (k == i) = false := by simp; omega
      cases ho' : all[k]? with
      | none => simp only [hpA, ho']; exact ih'
      | some o' =>
        simp only [hpA, ho', hki, Bool.or_false, ih']
        by_cases hc : (ls k && isAlloc M o') = true
        · rw [if_pos hc, if_pos hc]
          rw [Bool.and_eq_true] at hc
          rw [hnm k (by omega)]
          have hkne := hne k o' ho' hc.2 hc.1
          funext x
          simp only [upd]
          by_cases h1 : x = nm k
          · have : ¬ x = nm' i := fun h2 => hkne (h1.symm.trans h2)
            rw [if_pos h1, if_neg this, if_pos h1]
          · rw [if_neg h1, if_neg h1]
        · rw [if_neg hc, if_neg hc]

def alAt (M : List Nat) (all : List Oper) (j : Nat) : Bool := match all[j]? with | some o => isAlloc M o | none => false
/-- The slots ahead of the tail, but for what the new objects are called. -/
def pre (M : List Nat) (all : List Oper) (tm0 : Tm) (vs : Nat → AV) (k : Nat) : Tm := cur all tm0 (fun j => !alAt M all j) vs k

theorem pre_congr {M : List Nat} {all : List Oper} {tm0 : Tm} {vs vs' : Nat → AV} : ∀ k, (∀ i, i < k → alAt M all i = false → vs i = vs' i) → pre M all tm0 vs k = pre M all tm0 vs' k := by
  intro k
  induction k with
  | zero => intro _; rfl
  | succ k ih =>
    intro h
    have := ih fun i hi => h i (by omega)
    simp only [pre] at this
    simp only [pre, cur, this]
    by_cases hk : alAt M all k = true
    · rw [if_neg (by simp [hk]), if_neg (by simp [hk])]
    · rw [h k (by omega) (by simpa using hk)]

theorem vcPre_resolve {P : Program} {Θ : Types} {M : List Nat} {all : List Oper} {ob : List Nat} {n : Nat} {h0 : Heap} {tm0 : Tm} {m : Nat} {K : Tm → Pend → Prop} :
    ∀ (l : List Oper) (i : Nat) (vs : Nat → AV) (pend : Pend), l = (all.take m).drop i → i + l.length = m → m ≤ all.length →
      (∀ j o, j < i → all[j]? = some o → Fact P Θ M all n h0 (pre M all tm0 vs j) o (vs j)) →
      (∀ h, obl h pend → ∀ j o, j < i → all[j]? = some o → ob.contains j = true → isLoad o.op = true → Fact P Θ M all n h (pre M all tm0 vs j) o (vs j)) →
      vcPre P Θ M all ob n h0 i l K (pre M all tm0 vs i) pend →
      ∃ vs', ∃ pend', (∀ j o, j < m → all[j]? = some o → Fact P Θ M all n h0 (pre M all tm0 vs' j) o (vs' j)) ∧
        (∀ h, obl h pend' → ∀ j o, j < m → all[j]? = some o → ob.contains j = true → isLoad o.op = true → Fact P Θ M all n h (pre M all tm0 vs' j) o (vs' j)) ∧
        K (pre M all tm0 vs' m) pend' := by
  intro l
  induction l with
  | nil =>
    intro i vs pend _ hlen _ hf ho hp
    simp only [List.length_nil, Nat.add_zero] at hlen
    subst hlen
    exact ⟨vs, pend, hf, ho, hp⟩
  | cons o l ih =>
    intro i vs pend hl hlen hm hf ho hp
    simp only [List.length_cons] at hlen
    have him : i < m := by omega
    have hoi : all[i]? = some o := by
      have := congrArg (·[0]?) hl
      simp only [List.getElem?_cons_zero, List.getElem?_drop, Nat.add_zero, List.getElem?_take] at this
      rw [if_pos him] at this
      exact this.symm
    have hl' : l = (all.take m).drop (i + 1) := by
      have := congrArg List.tail hl
      simpa using this
    have hdst : dstOf all i = o.dst := by simp [dstOf, hoi]
    have hal : alAt M all i = isAlloc M o := by simp [alAt, hoi]
    -- the value of this one is laid down
    have next : ∀ (v : AV) (pend' : Pend), Fact P Θ M all n h0 (pre M all tm0 vs i) o v →
        (∀ h, obl h pend' → obl h pend ∧ (ob.contains i = true → isLoad o.op = true → Fact P Θ M all n h (pre M all tm0 vs i) o v)) →
        vcPre P Θ M all ob n h0 (i + 1) l K (if isAlloc M o then pre M all tm0 vs i else putA (pre M all tm0 vs i) o.dst v) pend' →
        ∃ vs', ∃ pend', (∀ j o, j < m → all[j]? = some o → Fact P Θ M all n h0 (pre M all tm0 vs' j) o (vs' j)) ∧
        (∀ h, obl h pend' → ∀ j o, j < m → all[j]? = some o → ob.contains j = true → isLoad o.op = true → Fact P Θ M all n h (pre M all tm0 vs' j) o (vs' j)) ∧
        K (pre M all tm0 vs' m) pend' := by
      intro v pend' hfact hpend hk
      have ht : ∀ j, j ≤ i → pre M all tm0 (fun q => if q = i then v else vs q) j = pre M all tm0 vs j := fun j hj => pre_congr j fun q hq _ => if_neg (by omega)
      refine ih (i + 1) (fun q => if q = i then v else vs q) pend' hl' (by omega) hm ?_ ?_ ?_
      · intro j o' hj ho'
        rw [ht j (by omega)]
        by_cases e : j = i
        · subst e
          rw [hoi] at ho'
          cases ho'
          rw [if_pos rfl]
          exact hfact
        · rw [if_neg e]
          exact hf j o' (by omega) ho'
      · intro h hob j o' hj ho' hc hld
        rw [ht j (by omega)]
        obtain ⟨h1, h2⟩ := hpend h hob
        by_cases e : j = i
        · subst e
          rw [hoi] at ho'
          cases ho'
          rw [if_pos rfl]
          exact h2 hc hld
        · rw [if_neg e]
          exact ho h h1 j o' (by omega) ho' hc hld
      · have : pre M all tm0 (fun q => if q = i then v else vs q) (i + 1) = if isAlloc M o then pre M all tm0 vs i else putA (pre M all tm0 vs i) o.dst v := by
          have := ht i (Nat.le_refl _)
          simp only [pre] at this
          simp only [pre, cur, this, hdst, hal, if_true]
          cases isAlloc M o <;> rfl
        rw [this]
        exact hk
    have pureStep : isAlloc M o = false → o.dst.all (· < n) = true → (∀ j want, o.guard = some (j, want) → ∃ t, dstOf all j = some t ∧ t < n ∧ get (pre M all tm0 vs i) t = .bool want) →
        (pOp P Θ (ev (pre M all tm0 vs i)) h0 o.op fun v => vcPre P Θ M all ob n h0 (i + 1) l K (putA (pre M all tm0 vs i) o.dst v) (if ob.contains i then (i, fun h => pOp P Θ (ev (pre M all tm0 vs i)) h o.op fun u => u = v) :: pend else pend)) →
        ∃ vs', ∃ pend', (∀ j o, j < m → all[j]? = some o → Fact P Θ M all n h0 (pre M all tm0 vs' j) o (vs' j)) ∧
        (∀ h, obl h pend' → ∀ j o, j < m → all[j]? = some o → ob.contains j = true → isLoad o.op = true → Fact P Θ M all n h (pre M all tm0 vs' j) o (vs' j)) ∧
        K (pre M all tm0 vs' m) pend' := by
      intro ha hd hg hpp
      obtain ⟨v, hk, hv⟩ := pOp_val hpp
      refine next v _ (.pure hd ha hg hv) ?_ (by rw [if_neg (by simp [ha])]; exact hk)
      intro h hob
      split at hob
      · exact ⟨hob.2, fun _ _ => .pure hd ha hg hob.1⟩
      · rename_i hc
        exact ⟨hob, fun hc' => absurd hc' hc⟩
    obtain ⟨hd, hp⟩ := hp
    split at hp
    · rename_i hg
      split at hp
      · rename_i ha
        obtain ⟨h1, h2⟩ := hp
        split at h1
        · rename_i t hot
          split at h1
          · rename_i d hdt
            refine next .any pend (.alloc hd ha hg t d hot hdt h1.1 h1.2) (fun h hob => ⟨hob, fun _ hl => by rw [hot] at hl; cases hl⟩) ?_
            rw [if_pos ha]
            exact h2
          · exact h1.elim
        · exact h1.elim
      · rename_i ha
        exact pureStep (by simpa using ha) hd (fun j want e => by rw [hg] at e; cases e) hp
    · rename_i j want hg
      obtain ⟨ha, hp⟩ := hp
      split at hp
      · rename_i t ht
        split at hp
        · rename_i b hb
          obtain ⟨htn, hp⟩ := hp
          by_cases e : b = want
          · subst e
            rw [if_pos rfl] at hp
            exact pureStep ha hd (fun j' want' e' => by rw [hg] at e'; cases e'; exact ⟨t, ht, htn, hb⟩) hp
          · have e' : b = !want := (by decide : ∀ b w : Bool, b ≠ w → b = !w) b want e
            refine next (.tup []) pend (.skip hd ha j want hg t ht htn (.inl (by rw [hb, e'])) rfl) (fun h hob => ⟨hob, fun _ _ => .skip hd ha j want hg t ht htn (.inl (by rw [hb, e'])) rfl⟩) ?_
            rw [if_neg (by simp [ha])]
            rw [if_neg e] at hp
            exact hp
        · rename_i cs hb
          obtain ⟨htn, p2⟩ := hp
          refine next (.tup []) pend (.skip hd ha j want hg t ht htn (.inr ⟨cs, hb⟩) rfl) (fun h hob => ⟨hob, fun _ _ => .skip hd ha j want hg t ht htn (.inr ⟨cs, hb⟩) rfl⟩) ?_
          rw [if_neg (by simp [ha])]
          exact p2
        · exact hp.elim
      · exact hp.elim

def tmA (M : List Nat) (all : List Oper) (nm : Nat → Nat) (tm : Tm) : Nat → Tm
  | 0 => tm
  | k + 1 => if alAt M all k then putA (tmA M all nm tm k) (dstOf all k) (.ptr (nm k) 0) else tmA M all nm tm k

theorem vcAllocs_at {Θ : Types} {M : List Nat} {all : List Oper} {nm : Nat → Nat} {h0 : Heap} {tm : Tm} {K : Tm → Heap → Prop} {m : Nat} (hm : m ≤ all.length)
    (h1 : ∀ i, i < m → alAt M all i = true → h0 (nm i) = none) (h2 : ∀ i j, i < m → j < m → alAt M all i = true → alAt M all j = true → nm i = nm j → i = j) :
    ∀ (l : List Oper) (i : Nat), l = (all.take m).drop i → i + l.length = m → vcAllocs Θ M l K (tmA M all nm tm i) (hpA Θ M all nm h0 (fun _ => true) i) → K (tmA M all nm tm m) (hpA Θ M all nm h0 (fun _ => true) m) := by
  intro l
  induction l with
  | nil =>
    intro i _ hlen hp
    simp only [List.length_nil, Nat.add_zero] at hlen
    subst hlen
    exact hp
  | cons o l ih =>
    intro i hl hlen hp
    simp only [List.length_cons] at hlen
    have him : i < m := by omega
    have hoi : all[i]? = some o := by
      have := congrArg (·[0]?) hl
      simp only [List.getElem?_cons_zero, List.getElem?_drop, Nat.add_zero, List.getElem?_take] at this
      rw [if_pos him] at this
      exact this.symm
    have hl' : l = (all.take m).drop (i + 1) := by
      have := congrArg List.tail hl
      simpa using this
    have hdst : dstOf all i = o.dst := by simp [dstOf, hoi]
    have hal : alAt M all i = isAlloc M o := by simp [alAt, hoi]
    unfold vcAllocs at hp
    refine ih (i + 1) hl' (by omega) ?_
    by_cases ha : isAlloc M o = true
    · rw [if_pos ha] at hp
      have hnone : hpA Θ M all nm h0 (fun _ => true) i (nm i) = none := by
        refine hpA_none (h1 i him (by rw [hal]; exact ha)) i fun j hj e => .inr fun o' ho' => ?_
        cases hq : isAlloc M o' with
        | false => rfl
        | true =>
          have := h2 j i (by omega) him (by simp [alAt, ho', hq]) (by rw [hal]; exact ha) e
          omega
      have := hp (nm i) hnone
      simp only [tmA, hpA, hoi, hal, ha, if_true, Bool.and_self, hdst]
      exact this
    · rw [if_neg ha] at hp
      simp only [tmA, hpA, hoi, hal]
      rw [if_neg ha, if_neg (by simp [ha])]
      exact hp

end Go.Par
