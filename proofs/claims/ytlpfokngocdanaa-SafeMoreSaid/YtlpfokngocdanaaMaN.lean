/- A region that draws its order: what is to be shown, once, in the order of the text. -/
import Derived.Test.YtlpfokngocdanaaMaM
set_option linter.unusedSimpArgs false
namespace Go.Par

abbrev Pend := List (Nat × (Heap → Prop))

def obl (h : Heap) : Pend → Prop
  | [] => True
  | (_, p) :: l => p h ∧ obl h l

def effOp (M : List Nat) (o : Oper) : Bool :=
  match o.op with
  | .box .. | .alloc .. | .makeSlice .. | .buildSlice .. => o.dst.any M.contains
  | .store .. => true
  | .call c => match c.callee with | .value _ => true | .builtin .append => true | .invoke .. => true | _ => false
  | _ => false

def vcTail (P : Program) (Θ : Types) (M : List Nat) : List Oper → Pend → (St → Prop) → St → Prop
  | [], _, K, S => K S
  | o :: rest, pend, K, S => o.dst.all (· < S.n) = true ∧ o.guard = none ∧
      vcOp P Θ M (ev S.tm) S.h o.dst o.op fun v h' => (if effOp M o then obl h' pend else h' = S.h) ∧ vcTail P Θ M rest pend K ⟨S.n, putA S.tm o.dst v, h'⟩

/-- What makes a new thing may run. -/
def mkOK (Θ : Types) (ρ : Operand → AV) (o : Oper) : Prop :=
  match o.op with
  | .alloc t => (match Θ t with | some d => (absV d.zero).known = true ∧ 0 < (absV d.zero).flat.length | none => False)
  | .makeSlice t l c =>
    match Θ t, ρ l, ρ c with
    | some ⟨.slice e, _, _, _⟩, .int _ n, .int _ m =>
      match Θ e with
      | some d => n = m ∧ 0 ≤ n ∧ (d.bytes : Int) * n ≤ 140737488355328 ∧ n ≤ 140737488355328 ∧ (absV d.zero).known = true ∧ (absV d.zero).flat.length = d.size
      | none => False
    | _, _, _ => False
  | _ => False

/-- The new thing. -/
def obA (Θ : Types) (ρ : Operand → AV) (o : Oper) : Ob :=
  match o.op with
  | .alloc t => (match Θ t with | some d => ⟨(absV d.zero).flat, t, (absV d.zero).flat.length, true⟩ | none => ⟨[], 0, 0, false⟩)
  | .makeSlice t l _ =>
    match Θ t, ρ l with
    | some ⟨.slice e, _, _, _⟩, .int _ n =>
      match Θ e with
      | some d => ⟨(List.replicate n.toNat (absV d.zero)).flatMap AV.flat, e, d.size, true⟩
      | none => ⟨[], 0, 0, false⟩
    | _, _ => ⟨[], 0, 0, false⟩
  | _ => ⟨[], 0, 0, false⟩

/-- What tells it, by its name. -/
def valA (ρ : Operand → AV) (o : Oper) (nm : Nat) : AV :=
  match o.op with
  | .makeSlice _ l _ => (match ρ l with | .int _ n => .mu nm n.toNat | _ => .any)
  | _ => .ptr nm 0

theorem alloc_noload {M : List Nat} {o : Oper} (h : isAlloc M o = true) : isLoad o.op = false := by
  unfold isAlloc at h
  generalize o.op = op at h ⊢
  cases op <;> first | rfl | cases h

def vcPre (P : Program) (Θ : Types) (M : List Nat) (all : List Oper) (ob : List Nat) (n : Nat) (h0 : Heap) : Nat → List Oper → (Tm → Pend → Heap → Prop) → Tm → Pend → Heap → Prop
  | _, [], K, tm, pend, H => K tm pend H
  | i, o :: rest, K, tm, pend, H => o.dst.all (· < n) = true ∧
    match o.guard with
    | none =>
      if isAlloc M o then mkOK Θ (ev tm) o ∧ ∀ nm, H nm = none → vcPre P Θ M all ob n h0 (i + 1) rest K (putA tm o.dst (valA (ev tm) o nm)) pend (upd H nm (some (obA Θ (ev tm) o)))
      else pOp P Θ (ev tm) h0 o.op fun v => vcPre P Θ M all ob n h0 (i + 1) rest K (putA tm o.dst v) (if ob.contains i then (i, fun h => pOp P Θ (ev tm) h o.op fun u => u = v) :: pend else pend) H
    | some (j, want) => isAlloc M o = false ∧
      match dstOf all j with
      | some t =>
        match get tm t with
        | .bool b => t < n ∧ if b = want then pOp P Θ (ev tm) h0 o.op fun v => vcPre P Θ M all ob n h0 (i + 1) rest K (putA tm o.dst v) (if ob.contains i then (i, fun h => pOp P Θ (ev tm) h o.op fun u => u = v) :: pend else pend) H
            else vcPre P Θ M all ob n h0 (i + 1) rest K (putA tm o.dst (.tup [])) pend H
        | .tup _ => t < n ∧ vcPre P Θ M all ob n h0 (i + 1) rest K (putA tm o.dst (.tup [])) pend H
        | _ => False
      | none => False

def vcDraw (P : Program) (Θ : Types) (M : List Nat) (all : List Oper) (m : Nat) (ob : List Nat) (K : St → Prop) (S : St) : Prop :=
  vcPre P Θ M all ob S.n S.h 0 (all.take m) (fun tm pend h => vcTail P Θ M (all.drop m) pend K ⟨S.n, tm, h⟩) S.tm [] S.h

def loadsOK (all : List Oper) (m : Nat) (M : List Nat) (ob : List Nat) : Nat → List Oper → Bool
  | _, [] => true
  | i, o :: rest => (decide (m ≤ i) || !isLoad o.op || ob.contains i || (all.drop m).all fun oj => !effOp M oj || aft oj i) && loadsOK all m M ob (i + 1) rest

theorem loadsOK_spec {all : List Oper} {m : Nat} {M : List Nat} {ob : List Nat} : ∀ (l : List Oper) (k : Nat), loadsOK all m M ob k l = true → ∀ (i : Nat) (o : Oper), l[i]? = some o → k + i < m → isLoad o.op = true → ob.contains (k + i) = false →
    ∀ oj ∈ all.drop m, effOp M oj = true → aft oj (k + i) = true := by
  intro l
  induction l with
  | nil => intro k _ i o h; simp at h
  | cons o l ih =>
    intro k h i o' hi hlt hl hob
    simp only [loadsOK, Bool.and_eq_true] at h
    cases i with
    | zero =>
      simp at hi
      subst hi
      have h1 := h.1
      simp only [Nat.add_zero] at hlt hob ⊢
      simp only [Bool.or_eq_true, decide_eq_true_eq, Bool.not_eq_true', hl, hob] at h1
      rcases h1 with ((h1 | h1) | h1) | h1
      · omega
      · cases h1
      · cases h1
      · intro oj hj he
        rw [List.all_eq_true] at h1
        have := h1 oj hj
        simpa [he] using this
    | succ i =>
      have := ih (k + 1) h.2 i o' (by simpa using hi) (by omega) hl (by rwa [show k + 1 + i = k + (i + 1) by omega])
      rwa [show k + 1 + i = k + (i + 1) by omega] at this

def subH (h H : Heap) : Prop := ∀ o x, h o = some x → H o = some x
theorem subH.refl (h : Heap) : subH h h := fun _ _ q => q

theorem pOp_sub {P : Program} {Θ : Types} {ρ : Operand → AV} {h H : Heap} {o : Op} {k : AV → Prop} (hs : subH h H) (hp : pOp P Θ ρ h o k) : pOp P Θ ρ H o k := by
  cases o with
  | load t x =>
    simp only [pOp] at hp ⊢
    split at hp
    · exact hp
    · split at hp
      · rename_i hx
        rw [hs _ _ hx]
        exact hp
      · exact hp.elim
    · exact hp.elim
  | makeFunc f x c => cases f <;> exact hp
  | _ => exact hp

theorem pOp_noload {P : Program} {Θ : Types} {ρ : Operand → AV} {h H : Heap} {o : Op} {k : AV → Prop} (hl : isLoad o = false) (hp : pOp P Θ ρ h o k) : pOp P Θ ρ H o k := by
  cases o with
  | load t x => cases hl
  | makeFunc f x c => cases f <;> exact hp
  | _ => exact hp

/-- What was found out of an operation ahead of the first that writes. -/
inductive Fact (P : Program) (Θ : Types) (M : List Nat) (all : List Oper) (n : Nat) (nm : Nat → Nat) (obs : Nat → Ob) (i : Nat) (h : Heap) (tm : Tm) (o : Oper) (v : AV) : Prop where
  | pure (hd : o.dst.all (· < n) = true) (ha : isAlloc M o = false) (hg : ∀ j want, o.guard = some (j, want) → ∃ t, dstOf all j = some t ∧ t < n ∧ get tm t = .bool want) (hp : pOp P Θ (ev tm) h o.op fun u => u = v) : Fact P Θ M all n nm obs i h tm o v
  | skip (hd : o.dst.all (· < n) = true) (ha : isAlloc M o = false) (j : Nat) (want : Bool) (hg : o.guard = some (j, want)) (t : Nat) (ht : dstOf all j = some t) (htn : t < n) (hb : get tm t = .bool (!want) ∨ ∃ cs, get tm t = .tup cs) (hv : v = .tup []) : Fact P Θ M all n nm obs i h tm o v
  | alloc (hd : o.dst.all (· < n) = true) (ha : isAlloc M o = true) (hg : o.guard = none) (hok : mkOK Θ (ev tm) o) (hv : v = valA (ev tm) o (nm i)) (hob : obs i = obA Θ (ev tm) o) : Fact P Θ M all n nm obs i h tm o v

theorem Fact.sub {P : Program} {Θ : Types} {M : List Nat} {all : List Oper} {n : Nat} {nm : Nat → Nat} {obs : Nat → Ob} {i : Nat} {h H : Heap} {tm : Tm} {o : Oper} {v : AV} (hs : subH h H) (hf : Fact P Θ M all n nm obs i h tm o v) : Fact P Θ M all n nm obs i H tm o v := by
  cases hf with
  | pure hd ha hg hp => exact .pure hd ha hg (pOp_sub hs hp)
  | skip hd ha j want hg t ht htn hb hv => exact .skip hd ha j want hg t ht htn hb hv
  | alloc hd ha hg hok hv hob => exact .alloc hd ha hg hok hv hob

theorem Fact.obs {P : Program} {Θ : Types} {M : List Nat} {all : List Oper} {n : Nat} {nm : Nat → Nat} {obs obs' : Nat → Ob} {i : Nat} {h : Heap} {tm : Tm} {o : Oper} {v : AV} (hs : isAlloc M o = true → obs' i = obs i) (hf : Fact P Θ M all n nm obs i h tm o v) : Fact P Θ M all n nm obs' i h tm o v := by
  cases hf with
  | pure hd ha hg hp => exact .pure hd ha hg hp
  | skip hd ha j want hg t ht htn hb hv => exact .skip hd ha j want hg t ht htn hb hv
  | alloc hd ha hg hok hv hob => exact .alloc hd ha hg hok hv (by rw [hs ha]; exact hob)

def alAt (M : List Nat) (all : List Oper) (j : Nat) : Bool := match all[j]? with | some o => isAlloc M o | none => false

/-- The heap with those objects that are made so far. -/
def hpA (M : List Nat) (all : List Oper) (nm : Nat → Nat) (obs : Nat → Ob) (h0 : Heap) (ls : Nat → Bool) : Nat → Heap
  | 0 => h0
  | k + 1 => if ls k && alAt M all k then upd (hpA M all nm obs h0 ls k) (nm k) (some (obs k)) else hpA M all nm obs h0 ls k

theorem hpA_none {M : List Nat} {all : List Oper} {nm : Nat → Nat} {obs : Nat → Ob} {h0 : Heap} {ls : Nat → Bool} {x : Nat} (h : h0 x = none) : ∀ k, (∀ i, i < k → alAt M all i = true → ls i = true → nm i ≠ x) → hpA M all nm obs h0 ls k x = none := by
  intro k
  induction k with
  | zero => intro _; exact h
  | succ k ih =>
    intro hn
    have ih' := ih fun i hi => hn i (by omega)
    simp only [hpA]
    split
    · rename_i hc
      rw [Bool.and_eq_true] at hc
      rw [upd_ne _ _ (Ne.symm (hn k (by omega) hc.2 hc.1))]
      exact ih'
    · exact ih'

theorem hpA_sub {M : List Nat} {all : List Oper} {nm : Nat → Nat} {obs : Nat → Ob} {h0 : Heap} {ls : Nat → Bool} : ∀ k, (∀ i, i < k → alAt M all i = true → ls i = true → h0 (nm i) = none) → subH h0 (hpA M all nm obs h0 ls k) := by
  intro k
  induction k with
  | zero => intro _; exact subH.refl _
  | succ k ih =>
    intro hn
    have ih' := ih fun i hi => hn i (by omega)
    simp only [hpA]
    split
    · rename_i hc
      rw [Bool.and_eq_true] at hc
      intro o' x hx
      have hne : o' ≠ nm k := by rintro rfl; rw [hn k (by omega) hc.2 hc.1] at hx; cases hx
      rw [upd_ne _ _ hne]
      exact ih' o' x hx
    · exact ih'

theorem hpA_congr {M : List Nat} {all : List Oper} {nm : Nat → Nat} {obs obs' : Nat → Ob} {h0 : Heap} {ls ls' : Nat → Bool} : ∀ k, (∀ i, i < k → alAt M all i = true → ls i = ls' i ∧ (ls i = true → obs i = obs' i)) → hpA M all nm obs h0 ls k = hpA M all nm obs' h0 ls' k := by
  intro k
  induction k with
  | zero => intro _; rfl
  | succ k ih =>
    intro hn
    have ih' := ih fun i hi => hn i (by omega)
    simp only [hpA, ih']
    cases ha : alAt M all k with
    | false => simp
    | true =>
      obtain ⟨h1, h2⟩ := hn k (by omega) ha
      rw [← h1]
      cases hl : ls k with
      | true => rw [h2 hl]
      | false => rfl

/-- One object more is made. -/
theorem hpA_add {M : List Nat} {all : List Oper} {nm : Nat → Nat} {obs : Nat → Ob} {h0 : Heap} {ls : Nat → Bool} {i : Nat} (ha : alAt M all i = true) (hl : ls i = false) : ∀ k, i < k → (∀ j, j < k → alAt M all j = true → ls j = true → nm j ≠ nm i) →
    hpA M all nm obs h0 (fun j => ls j || j == i) k = upd (hpA M all nm obs h0 ls k) (nm i) (some (obs i)) := by
  intro k
  induction k with
  | zero => intro h; omega
  | succ k ih =>
    intro h hne
    by_cases e : i = k
    · subst e
      simp only [hpA, ha, hl]
      simp only [Bool.false_or, beq_self_eq_true, Bool.and_self, if_true, Bool.false_and, Bool.false_eq_true, if_false]
      congr 1
      refine hpA_congr i ?_
      intro j hj _
      have : (j == i) = false := by simp; omega
      simp only [this, Bool.or_false, true_and, implies_true]
    · have ih' := ih (by omega) fun j hj => hne j (by omega)
      have hki : (k == i) = false := by simp; omega
      simp only [hpA, hki, Bool.or_false, ih']
      by_cases hc : (ls k && alAt M all k) = true
      · rw [if_pos hc, if_pos hc]
        rw [Bool.and_eq_true] at hc
        have hkne := hne k (by omega) hc.2 hc.1
        funext x
        simp only [upd]
        by_cases h1 : x = nm k
        · have : ¬ x = nm i := fun h2 => hkne (h1.symm.trans h2)
          rw [if_pos h1, if_neg this, if_pos h1]
        · rw [if_neg h1, if_neg h1]
      · rw [if_neg hc, if_neg hc]

theorem vcPre_resolve {P : Program} {Θ : Types} {M : List Nat} {all : List Oper} {ob : List Nat} {n : Nat} {h0 : Heap} {tm0 : Tm} {m : Nat} {K : Tm → Pend → Heap → Prop} {nm : Nat → Nat}
    (hn0 : ∀ i, i < m → alAt M all i = true → h0 (nm i) = none) (hinj : ∀ i j, i < m → j < m → nm i = nm j → i = j) :
    ∀ (l : List Oper) (i : Nat) (vs : Nat → AV) (obs : Nat → Ob) (pend : Pend), l = (all.take m).drop i → i + l.length = m → m ≤ all.length →
      (∀ j o, j < i → all[j]? = some o → Fact P Θ M all n nm obs j h0 (txt all tm0 vs j) o (vs j)) →
      (∀ h, obl h pend → ∀ j o, j < i → all[j]? = some o → ob.contains j = true → isLoad o.op = true → Fact P Θ M all n nm obs j h (txt all tm0 vs j) o (vs j)) →
      vcPre P Θ M all ob n h0 i l K (txt all tm0 vs i) pend (hpA M all nm obs h0 (fun _ => true) i) →
      ∃ vs' obs' pend', (∀ j o, j < m → all[j]? = some o → Fact P Θ M all n nm obs' j h0 (txt all tm0 vs' j) o (vs' j)) ∧
        (∀ h, obl h pend' → ∀ j o, j < m → all[j]? = some o → ob.contains j = true → isLoad o.op = true → Fact P Θ M all n nm obs' j h (txt all tm0 vs' j) o (vs' j)) ∧
        K (txt all tm0 vs' m) pend' (hpA M all nm obs' h0 (fun _ => true) m) := by
  intro l
  induction l with
  | nil =>
    intro i vs obs pend _ hlen _ hf ho hp
    simp only [List.length_nil, Nat.add_zero] at hlen
    subst hlen
    exact ⟨vs, obs, pend, hf, ho, hp⟩
  | cons o l ih =>
    intro i vs obs pend hl hlen hm hf ho hp
    simp only [List.length_cons] at hlen
    have him : i < m := by omega
    have hoi : all[i]? = some o := by
      have := congrArg (·[0]?) hl
      simp only [List.getElem?_cons_zero, List.getElem?_drop, Nat.add_zero, List.getElem?_take] at this
      rw [if_pos him] at this
      exact this.symm
    have hl' : l = (all.take m).drop (i + 1) := by
      have := congrArg List.tail hl
      simpa using this
    have hdst : dstOf all i = o.dst := by simp [dstOf, hoi]
    have hal : alAt M all i = isAlloc M o := by simp [alAt, hoi]
    -- the value of this one is laid down
    have next : ∀ (v : AV) (b : Ob) (pend' : Pend), Fact P Θ M all n nm (fun q => if q = i then b else obs q) i h0 (txt all tm0 vs i) o v →
        (∀ h, obl h pend' → obl h pend ∧ (ob.contains i = true → isLoad o.op = true → Fact P Θ M all n nm (fun q => if q = i then b else obs q) i h (txt all tm0 vs i) o v)) →
        vcPre P Θ M all ob n h0 (i + 1) l K (putA (txt all tm0 vs i) o.dst v) pend' (if isAlloc M o then upd (hpA M all nm obs h0 (fun _ => true) i) (nm i) (some b) else hpA M all nm obs h0 (fun _ => true) i) →
        ∃ vs' obs' pend', (∀ j o, j < m → all[j]? = some o → Fact P Θ M all n nm obs' j h0 (txt all tm0 vs' j) o (vs' j)) ∧
        (∀ h, obl h pend' → ∀ j o, j < m → all[j]? = some o → ob.contains j = true → isLoad o.op = true → Fact P Θ M all n nm obs' j h (txt all tm0 vs' j) o (vs' j)) ∧
        K (txt all tm0 vs' m) pend' (hpA M all nm obs' h0 (fun _ => true) m) := by
      intro v b pend' hfact hpend hk
      have ht : ∀ j, j ≤ i → txt all tm0 (fun q => if q = i then v else vs q) j = txt all tm0 vs j := fun j hj => txt_congr j fun q hq => if_neg (by omega)
      have hH : hpA M all nm (fun q => if q = i then b else obs q) h0 (fun _ => true) i = hpA M all nm obs h0 (fun _ => true) i := hpA_congr i fun q hq _ => ⟨rfl, fun _ => if_neg (by omega)⟩
      refine ih (i + 1) (fun q => if q = i then v else vs q) (fun q => if q = i then b else obs q) pend' hl' (by omega) hm ?_ ?_ ?_
      · intro j o' hj ho'
        rw [ht j (by omega)]
        by_cases e : j = i
        · subst e
          rw [hoi] at ho'
          cases ho'
          rw [if_pos rfl]
          exact hfact
        · rw [if_neg e]
          exact (hf j o' (by omega) ho').obs fun _ => if_neg e
      · intro h hob j o' hj ho' hc hld
        rw [ht j (by omega)]
        obtain ⟨h1, h2⟩ := hpend h hob
        by_cases e : j = i
        · subst e
          rw [hoi] at ho'
          cases ho'
          rw [if_pos rfl]
          exact h2 hc hld
        · rw [if_neg e]
          exact (ho h h1 j o' (by omega) ho' hc hld).obs fun _ => if_neg e
      · have e1 : txt all tm0 (fun q => if q = i then v else vs q) (i + 1) = putA (txt all tm0 vs i) o.dst v := by
          have := ht i (Nat.le_refl _)
          simp only [txt] at this
          simp only [txt, cur, this, hdst, if_true]
        have e2 : hpA M all nm (fun q => if q = i then b else obs q) h0 (fun _ => true) (i + 1) = if isAlloc M o then upd (hpA M all nm obs h0 (fun _ => true) i) (nm i) (some b) else hpA M all nm obs h0 (fun _ => true) i := by
          simp only [hpA, hH, hal, Bool.true_and, if_true]
        rw [e1, e2]
        exact hk
    have pureStep : isAlloc M o = false → o.dst.all (· < n) = true → (∀ j want, o.guard = some (j, want) → ∃ t, dstOf all j = some t ∧ t < n ∧ get (txt all tm0 vs i) t = .bool want) →
        (pOp P Θ (ev (txt all tm0 vs i)) h0 o.op fun v => vcPre P Θ M all ob n h0 (i + 1) l K (putA (txt all tm0 vs i) o.dst v) (if ob.contains i then (i, fun h => pOp P Θ (ev (txt all tm0 vs i)) h o.op fun u => u = v) :: pend else pend) (hpA M all nm obs h0 (fun _ => true) i)) →
        ∃ vs' obs' pend', (∀ j o, j < m → all[j]? = some o → Fact P Θ M all n nm obs' j h0 (txt all tm0 vs' j) o (vs' j)) ∧
        (∀ h, obl h pend' → ∀ j o, j < m → all[j]? = some o → ob.contains j = true → isLoad o.op = true → Fact P Θ M all n nm obs' j h (txt all tm0 vs' j) o (vs' j)) ∧
        K (txt all tm0 vs' m) pend' (hpA M all nm obs' h0 (fun _ => true) m) := by
      intro ha hd hg hpp
      obtain ⟨v, hk, hv⟩ := pOp_val hpp
      refine next v (obs i) _ (.pure hd ha hg hv) ?_ (by rw [if_neg (by simp [ha])]; exact hk)
      intro h hob
      split at hob
      · exact ⟨hob.2, fun _ _ => .pure hd ha hg hob.1⟩
      · rename_i hc
        exact ⟨hob, fun hc' => absurd hc' hc⟩
    obtain ⟨hd, hp⟩ := hp
    split at hp
    · rename_i hg
      split at hp
      · rename_i ha
        obtain ⟨h1, h2⟩ := hp
        have hfree : hpA M all nm obs h0 (fun _ => true) i (nm i) = none := hpA_none (hn0 i him (by rw [hal]; exact ha)) i fun j hj _ _ e => by
          have := hinj j i (by omega) him e
          omega
        refine next _ (obA Θ (ev (txt all tm0 vs i)) o) pend (.alloc hd ha hg h1 rfl (if_pos rfl)) (fun h hob => ⟨hob, fun _ hl => by rw [alloc_noload ha] at hl; cases hl⟩) ?_
        rw [if_pos ha]
        exact h2 (nm i) hfree
      · rename_i ha
        exact pureStep (by simpa using ha) hd (fun j want e => by rw [hg] at e; cases e) hp
    · rename_i j want hg
      obtain ⟨ha, hp⟩ := hp
      split at hp
      · rename_i t ht
        split at hp
        · rename_i b hb
          obtain ⟨htn, hp⟩ := hp
          by_cases e : b = want
          · subst e
            rw [if_pos rfl] at hp
            exact pureStep ha hd (fun j' want' e' => by rw [hg] at e'; cases e'; exact ⟨t, ht, htn, hb⟩) hp
          · have e' : b = !want := (by decide : ∀ b w : Bool, b ≠ w → b = !w) b want e
            refine next (.tup []) (obs i) pend (.skip hd ha j want hg t ht htn (.inl (by rw [hb, e'])) rfl) (fun h hob => ⟨hob, fun _ _ => .skip hd ha j want hg t ht htn (.inl (by rw [hb, e'])) rfl⟩) ?_
            rw [if_neg (by simp [ha])]
            rw [if_neg e] at hp
            exact hp
        · rename_i cs hb
          obtain ⟨htn, p2⟩ := hp
          refine next (.tup []) (obs i) pend (.skip hd ha j want hg t ht htn (.inr ⟨cs, hb⟩) rfl) (fun h hob => ⟨hob, fun _ _ => .skip hd ha j want hg t ht htn (.inr ⟨cs, hb⟩) rfl⟩) ?_
          rw [if_neg (by simp [ha])]
          exact p2
        · exact hp.elim
      · exact hp.elim

end Go.Par
