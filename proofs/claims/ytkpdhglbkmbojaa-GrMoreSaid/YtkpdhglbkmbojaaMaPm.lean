/- A drawn region, told in another order. -/
import Derived.Test.YtkpdhglbkmbojaaMgB
set_option linter.unusedVariables false
namespace Go.Par

def relab (σ : Nat → Nat) (o : Oper) : Oper := { o with after := o.after.map fun e => { e with on := σ e.on }, guard := o.guard.map fun g => (σ g.1, g.2) }

structure Perm2 (ops ops' : Array Oper) (σ : Nat → Nat) : Prop where
  size : ops'.size = ops.size
  lt : ∀ i, i < ops.size → σ i < ops.size
  out : ∀ i, ops.size ≤ i → σ i = i
  inj : ∀ i j, i < ops.size → j < ops.size → σ i = σ j → i = j
  sur : ∀ k, k < ops.size → ∃ i, i < ops.size ∧ σ i = k
  op : ∀ i o, ops[i]? = some o → ops'[σ i]? = some (relab σ o)

theorem binds_relab (σ : Nat → Nat) (e : Edge) : Region.binds .any { e with on := σ e.on } = Region.binds .any e := rfl

theorem yielded_perm {ops ops' : Array Oper} {σ : Nat → Nat} (S : Perm2 ops ops' σ) (tmps : Array Value) (j : Nat) : yielded ops' tmps (σ j) = yielded ops tmps j := by
  unfold yielded
  rcases Nat.lt_or_ge j ops.size with h | h
  · rw [S.op j ops[j] (Array.getElem?_eq_getElem h), Array.getElem?_eq_getElem h]; rfl
  · rw [S.out j h, Array.getElem?_eq_none (by rw [S.size]; exact h), Array.getElem?_eq_none h]
theorem wanted_perm {ops ops' : Array Oper} {σ : Nat → Nat} (S : Perm2 ops ops' σ) (tmps : Array Value) (o : Oper) : Region.wanted (relab σ o) (yielded ops' tmps) = Region.wanted o (yielded ops tmps) := by
  unfold Region.wanted relab
  cases h : o.guard with
  | none => rfl
  | some g =>
    obtain ⟨j, b⟩ := g
    show (yielded ops' tmps (σ j) == some b) = _
    rw [yielded_perm S]

theorem wpAny_perm {P : Program} {ops ops' : Array Oper} {σ : Nat → Nat} (S : Perm2 ops ops' σ) {Q : Exit → Act → World → Prop} : ∀ (fuel : Nat) (listed listed' : Array Bool) (a : Act) (w : World),
    listed.size = ops.size → listed'.size = ops.size → (∀ i, i < ops.size → listed'.getD (σ i) false = listed.getD i false) → wpAny P .any ops' Q fuel listed' a w → wpAny P .any ops Q fuel listed a w := by
  have rd : ∀ (listed listed' : Array Bool), listed.size = ops.size → listed'.size = ops.size → (∀ i, i < ops.size → listed'.getD (σ i) false = listed.getD i false) → ∀ i, i < ops.size → (i ∈ Region.ready .any ops listed ↔ σ i ∈ Region.ready .any ops' listed') := by
    intro listed listed' h1 h2 h3 i hi
    have hon : ∀ j, listed'.getD (σ j) false = listed.getD j false := fun j => by
      rcases Nat.lt_or_ge j ops.size with h | h
      · exact h3 j h
      · rw [S.out j h]
        simp [show ¬ j < listed.size by omega, show ¬ j < listed'.size by omega]
    have tr : ∀ (l : Array Bool) (j : Nat), j < l.size → l.getD j true = l.getD j false := fun l j h => by simp [h]
    rw [mem_ready, mem_ready, tr _ _ (by omega), tr _ _ (by rw [h2]; exact S.lt i hi), h3 i hi]
    refine and_congr Iff.rfl ?_
    have ho := Array.getElem?_eq_getElem hi
    rw [S.op i _ ho, ho]
    simp only [Option.some.injEq, exists_eq_left']
    constructor
    · intro q e he hb
      obtain ⟨e0, he0, rfl⟩ := Array.mem_map.1 he
      rw [binds_relab] at hb
      show listed'.getD (σ e0.on) false = true
      rw [hon]; exact q e0 he0 hb
    · intro q e he hb
      have := q { e with on := σ e.on } (Array.mem_map.2 ⟨e, he, rfl⟩) hb
      rw [← hon]; exact this
  have nl : ∀ (listed listed' : Array Bool), listed.size = ops.size → listed'.size = ops.size → (∀ i, i < ops.size → listed'.getD (σ i) false = listed.getD i false) → Region.ready .any ops listed = [] → Region.ready .any ops' listed' = [] := by
    intro listed listed' h1 h2 h3 h
    refine List.eq_nil_iff_forall_not_mem.2 fun k hk => ?_
    have hk' : k < ops.size := by
      rw [mem_ready] at hk
      obtain ⟨_, o, ho, _⟩ := hk
      rw [← S.size]
      exact (Array.getElem?_eq_some_iff.1 ho).1
    obtain ⟨i, hi, rfl⟩ := S.sur k hk'
    have := (rd listed listed' h1 h2 h3 i hi).2 hk
    rw [h] at this; cases this
  intro fuel
  induction fuel with
  | zero =>
    intro listed listed' a w h1 h2 h3 h
    refine ⟨?_, h.2⟩
    refine List.eq_nil_iff_forall_not_mem.2 fun i hi => ?_
    have hi' : i < ops.size := by
      rw [mem_ready] at hi
      obtain ⟨_, o, ho, _⟩ := hi
      exact (Array.getElem?_eq_some_iff.1 ho).1
    have := (rd listed listed' h1 h2 h3 i hi').1 hi
    rw [h.1] at this; cases this
  | succ fuel ih =>
    intro listed listed' a w h1 h2 h3 h
    refine ⟨fun e => h.1 (nl listed listed' h1 h2 h3 e), fun i hi => ?_⟩
    have hi' : i < ops.size := by
      rw [mem_ready] at hi
      obtain ⟨_, o, ho, _⟩ := hi
      exact (Array.getElem?_eq_some_iff.1 ho).1
    have q := h.2 (σ i) ((rd listed listed' h1 h2 h3 i hi').1 hi)
    have next : ∀ (a : Act) (w : World), wpAny P .any ops' Q fuel (listed'.setIfInBounds (σ i) true) a w → wpAny P .any ops Q fuel (listed.setIfInBounds i true) a w := fun a w => ih _ _ a w (by simp [h1]) (by simp [h2]) fun j hj => by
      by_cases e : j = i
      · subst e
        simp [show j < listed.size by omega, show σ j < listed'.size by rw [h2]; exact S.lt j hj]
      · rw [getD_set_ne false (Ne.symm e), getD_set_ne false (fun z => e (S.inj i j hi' hj z).symm)]
        exact h3 j hj
    have ho := Array.getElem?_eq_getElem hi'
    unfold wpOp at q ⊢
    rw [S.op i _ ho] at q
    rw [ho]
    simp only at q ⊢
    rw [wanted_perm S] at q
    split
    · rename_i hw
      rw [if_pos hw] at q
      rcases q with q | q
      · exact .inl (Oper.wp_mono next q)
      · exact .inr q
    · rename_i hw
      rw [if_neg hw] at q
      exact next _ _ q

/-- The operations in the order 'q'; 'p' tells where each goes. -/
def permOps (q p : List Nat) (ops : List Oper) : List Oper :=
  match q with
  | [] => []
  | k :: q => match ops[k]? with | some o => relab (fun i => p.getD i i) o :: permOps q p ops | none => permOps q p ops
def permOK (q p : List Nat) (n : Nat) : Bool :=
  q.length == n && p.length == n && (List.range n).all (fun i => decide (p.getD i n < n) && q.getD (p.getD i n) n == i) && (List.range n).all (fun k => decide (q.getD k n < n) && p.getD (q.getD k n) n == k)

theorem permOps_get {q p : List Nat} {ops : List Oper} (h : ∀ k ∈ q, k < ops.length) : (permOps q p ops).length = q.length ∧ ∀ (i k : Nat), q[i]? = some k → ∀ (o : Oper), ops[k]? = some o → (permOps q p ops)[i]? = some (relab (fun i => p.getD i i) o) := by
  induction q with
  | nil => exact ⟨rfl, fun i k hi => by simp at hi⟩
  | cons a q ih =>
    obtain ⟨i1, i2⟩ := ih fun k hk => h k (by simp [hk])
    have ha : a < ops.length := h a (by simp)
    have e : ops[a]? = some ops[a] := List.getElem?_eq_getElem ha
    have ep : permOps (a :: q) p ops = relab (fun i => p.getD i i) ops[a] :: permOps q p ops := by rw [permOps, e]
    rw [ep]
    refine ⟨by rw [List.length_cons, i1, List.length_cons], fun i k hi o ho => ?_⟩
    cases i with
    | zero => simp at hi; subst hi; rw [e] at ho; cases ho; rfl
    | succ i => simp at hi ⊢; exact i2 i k hi o ho

theorem perm2_of {q p : List Nat} {ops : Array Oper} (h : permOK q p ops.size = true) : Perm2 ops (permOps q p ops.toList).toArray (fun i => p.getD i i) := by
  unfold permOK at h
  simp only [Bool.and_eq_true, beq_iff_eq, List.all_eq_true, List.mem_range, decide_eq_true_eq] at h
  obtain ⟨⟨⟨hq, hp⟩, h1⟩, h2⟩ := h
  have pd : ∀ i, i < ops.size → p.getD i i = p.getD i ops.size := fun i hi => by
    have : i < p.length := by omega
    simp [this]
  have hmem : ∀ k ∈ q, k < ops.toList.length := fun k hk => by
    obtain ⟨i, hi, rfl⟩ := List.mem_iff_getElem.1 hk
    have := (h2 i (by omega)).1
    simp [hi] at this
    simpa using this
  obtain ⟨g1, g2⟩ := permOps_get (p := p) (ops := ops.toList) hmem
  refine ⟨by simp [g1, hq], fun i hi => ?_, fun i hi => ?_, fun i j hi hj e => ?_, fun k hk => ?_, fun i o ho => ?_⟩
  · rw [pd i hi]; exact (h1 i hi).1
  · simp [show ¬ i < p.length by omega]
  · simp only [pd i hi, pd j hj] at e
    have a := (h1 i hi).2
    have b := (h1 j hj).2
    rw [e] at a
    rw [← a, b]
  · refine ⟨q.getD k ops.size, (h2 k hk).1, ?_⟩
    rw [pd _ (h2 k hk).1]
    exact (h2 k hk).2
  · have hi : i < ops.size := (Array.getElem?_eq_some_iff.1 ho).1
    rw [List.getElem?_toArray]
    refine g2 _ i ?_ o (by simpa using ho)
    rw [pd i hi]
    obtain ⟨a, b⟩ := h1 i hi
    have : p.getD i ops.size < q.length := by omega
    rw [List.getD_eq_getElem?_getD, List.getElem?_eq_getElem this, Option.getD_some] at b
    rw [List.getElem?_eq_getElem this, b]

theorem AW.drawP {P : Program} {Θ : Types} (q p M : List Nat) (m : Nat) (ob : List Nat) (hΘ : Θ.ok P) {ops : Array Oper} {id : Nat} {Q : Exit → St → Prop} {S : St} (hm : P.follows .mixedOrders = true)
    (hp : permOK q p ops.size = true) (hok : drawOK (permOps q p ops.toList) m M = true) (hlo : loadsOK (permOps q p ops.toList) m M ob 0 (permOps q p ops.toList) = true) (h : vcDraw P Θ M (permOps q p ops.toList) m ob (Q .normal) S) : AW P (.region id ops true) Q S := by
  intro φ w a H T
  have S2 := perm2_of hp
  refine wp_region_any hm ?_
  have r := draw_all (ops := (permOps q p ops.toList).toArray) M m ob hΘ (by simpa using hok) (by simpa using hlo) (by simpa using h) H T
  have sz : (permOps q p ops.toList).toArray.size = ops.size := S2.size
  rw [sz] at r
  exact wpAny_perm S2 ops.size _ _ a _ (by simp) (by simp) (fun i hi => by
    have h1 := S2.lt i hi
    rw [Array.getD_eq_getD_getElem?, Array.getD_eq_getD_getElem?, Array.getElem?_replicate, Array.getElem?_replicate, if_pos h1, if_pos hi]) r
end Go.Par
