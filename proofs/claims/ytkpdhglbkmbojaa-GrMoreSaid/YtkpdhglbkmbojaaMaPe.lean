/- A drawn region in which two operations have no order: told once for each of the two. -/
import Derived.Test.YtkpdhglbkmbojaaMaPm
set_option linter.unusedVariables false
namespace Go.Par

def Valid (ops : Array Oper) : Nat → Array Bool → List Nat → Prop
  | 0, _, l => l = []
  | _ + 1, L, [] => Region.ready .any ops L = []
  | fuel + 1, L, i :: l => i ∈ Region.ready .any ops L ∧ Valid ops fuel (L.setIfInBounds i true) l

theorem valid_lin (ops : Array Oper) : ∀ (fuel t : Nat) (L : Array Bool), Valid ops fuel L (Region.linearise.go .any ops fuel t L []) := by
  intro fuel
  induction fuel with
  | zero => intro t L; simp [Region.linearise.go, Valid]
  | succ fuel ih =>
    intro t L
    simp only [Region.linearise.go]
    change Valid ops (fuel + 1) L (match (Region.ready .any ops L)[t % (Region.ready .any ops L).length]? with
      | some i => Region.linearise.go .any ops fuel (t / (Region.ready .any ops L).length) (L.setIfInBounds i true) [i]
      | none => [].reverse)
    cases hi : (Region.ready .any ops L)[t % (Region.ready .any ops L).length]? with
    | none =>
      cases hr : Region.ready .any ops L with
      | nil => simpa [Valid] using hr
      | cons x xs =>
        rw [hr] at hi
        have hlt : t % (x :: xs).length < (x :: xs).length := Nat.mod_lt _ (by simp)
        simp at hi
        simp at hlt
        omega
    | some i =>
      simp only []
      rw [linearise_go_acc, List.reverse_singleton, List.singleton_append]
      exact ⟨List.mem_of_getElem? hi, ih _ _⟩

theorem any_valid {P : Program} {ops : Array Oper} {Q : Exit → Act → World → Prop} : ∀ (fuel : Nat) (L : Array Bool) (l : List Nat) (a : Act) (w : World), Valid ops fuel L l → wpAny P .any ops Q fuel L a w → wpOps P ops Q l a w := by
  intro fuel
  induction fuel with
  | zero => intro L l a w v h; cases v; exact h.2
  | succ fuel ih =>
    intro L l a w v h
    cases l with
    | nil => exact h.1 v
    | cons i l =>
      rw [wpOps_cons]
      exact wpOp_mono (fun a w q => ih _ _ a w v.2 q) (h.2 i v.1)

def addL : List Oper → Nat → Nat → List Oper
  | [], _, _ => []
  | o :: l, 0, i => { o with after := o.after.push ⟨i, .data⟩ } :: l
  | o :: l, j + 1, i => o :: addL l j i
def addA (ops : Array Oper) (j i : Nat) : Array Oper := (addL ops.toList j i).toArray

theorem addA_toList (ops : Array Oper) (j i : Nat) : (addA ops j i).toList = addL ops.toList j i := by simp [addA]

structure Adds (ops ops' : Array Oper) (j i : Nat) : Prop where
  size : ops'.size = ops.size
  op : ∀ k o, ops[k]? = some o → ops'[k]? = some (if k = j then { o with after := o.after.push ⟨i, .data⟩ } else o)

theorem addL_len : ∀ (l : List Oper) (j i : Nat), (addL l j i).length = l.length
  | [], _, _ => rfl
  | _ :: _, 0, _ => rfl
  | _ :: l, j + 1, i => by simp [addL, addL_len l j i]
theorem addL_get : ∀ (l : List Oper) (j i k : Nat) (o : Oper), l[k]? = some o → (addL l j i)[k]? = some (if k = j then { o with after := o.after.push ⟨i, .data⟩ } else o)
  | [], _, _, k, o, h => by simp at h
  | a :: l, 0, i, 0, o, h => by simp at h; subst h; rfl
  | a :: l, 0, i, k + 1, o, h => by simp at h; simpa [addL] using h
  | a :: l, j + 1, i, 0, o, h => by simp at h; subst h; rfl
  | a :: l, j + 1, i, k + 1, o, h => by
    simp at h
    have := addL_get l j i k o h
    simpa [addL] using this
theorem adds_addA (ops : Array Oper) (j i : Nat) : Adds ops (addA ops j i) j i :=
  ⟨by simp [addA, addL_len], fun k o h => by rw [addA, List.getElem?_toArray]; exact addL_get _ _ _ _ _ (by simpa using h)⟩

theorem Adds.ready {ops ops' : Array Oper} {j i : Nat} (A : Adds ops ops' j i) (L : Array Bool) (k : Nat) : k ∈ Region.ready .any ops' L ↔ k ∈ Region.ready .any ops L ∧ (k = j → L.getD i false = true) := by
  rw [mem_ready, mem_ready]
  constructor
  · rintro ⟨h1, o, ho, h2⟩
    have hk : k < ops.size := by rw [← A.size]; exact (Array.getElem?_eq_some_iff.1 ho).1
    have e := A.op k _ (Array.getElem?_eq_getElem hk)
    rw [e] at ho
    cases ho
    by_cases q : k = j
    · rw [if_pos q] at h2
      exact ⟨⟨h1, _, Array.getElem?_eq_getElem hk, fun e he hb => h2 e (Array.mem_push.2 (.inl he)) hb⟩, fun _ => h2 ⟨i, .data⟩ (Array.mem_push.2 (.inr rfl)) rfl⟩
    · rw [if_neg q] at h2
      exact ⟨⟨h1, _, Array.getElem?_eq_getElem hk, h2⟩, fun z => absurd z q⟩
  · rintro ⟨⟨h1, o, ho, h2⟩, h3⟩
    refine ⟨h1, _, A.op k o ho, ?_⟩
    by_cases q : k = j
    · rw [if_pos q]
      intro e he hb
      rcases Array.mem_push.1 he with he | rfl
      · exact h2 e he hb
      · exact h3 q
    · rw [if_neg q]; exact h2

theorem getD_keep {L : Array Bool} {i k : Nat} (h : L.getD i false = true) : (L.setIfInBounds k true).getD i false = true := by
  by_cases e : k = i
  · subst e
    have : k < L.size := by
      rcases Nat.lt_or_ge k L.size with h' | h'
      · exact h'
      · simp [show ¬ k < L.size by omega] at h
    simp [this]
  · rw [getD_set_ne false e]; exact h
theorem Adds.nil {ops ops' : Array Oper} {j i : Nat} (A : Adds ops ops' j i) {L : Array Bool} (h : Region.ready .any ops L = []) : Region.ready .any ops' L = [] :=
  List.eq_nil_iff_forall_not_mem.2 fun k hk => by have := ((A.ready L k).1 hk).1; rw [h] at this; cases this
theorem Adds.sat {ops ops' : Array Oper} {j i : Nat} (A : Adds ops ops' j i) : ∀ (fuel : Nat) (L : Array Bool) (l : List Nat), L.getD i false = true → Valid ops fuel L l → Valid ops' fuel L l := by
  intro fuel
  induction fuel with
  | zero => intro L l _ v; exact v
  | succ fuel ih =>
    intro L l h v
    cases l with
    | nil => exact A.nil v
    | cons k l => exact ⟨(A.ready L k).2 ⟨v.1, fun _ => h⟩, ih _ _ (getD_keep h) v.2⟩
theorem valid_or {ops ops' ops'' : Array Oper} {j i : Nat} (hij : i ≠ j) (A : Adds ops ops' j i) (B : Adds ops ops'' i j) : ∀ (fuel : Nat) (L : Array Bool) (l : List Nat), L.size = ops.size → Valid ops fuel L l → Valid ops' fuel L l ∨ Valid ops'' fuel L l := by
  intro fuel
  induction fuel with
  | zero => intro L l _ v; exact .inl v
  | succ fuel ih =>
    intro L l hL v
    cases l with
    | nil => exact .inl (A.nil v)
    | cons k l =>
      have hk : k < L.size := by
        have := v.1
        rw [mem_ready] at this
        obtain ⟨_, o, ho, _⟩ := this
        rw [hL]; exact (Array.getElem?_eq_some_iff.1 ho).1
      have hs : (L.setIfInBounds k true).getD k false = true := by simp [hk]
      by_cases e : k = i
      · subst e
        exact .inl ⟨(A.ready L k).2 ⟨v.1, fun z => absurd z hij⟩, A.sat _ _ _ hs v.2⟩
      · by_cases e' : k = j
        · subst e'
          exact .inr ⟨(B.ready L k).2 ⟨v.1, fun z => absurd z e⟩, B.sat _ _ _ hs v.2⟩
        · rcases ih _ _ (by simp [hL]) v.2 with q | q
          · exact .inl ⟨(A.ready L k).2 ⟨v.1, fun z => absurd z e'⟩, q⟩
          · exact .inr ⟨(B.ready L k).2 ⟨v.1, fun z => absurd z e⟩, q⟩

theorem Adds.none {ops ops' : Array Oper} {j i : Nat} (A : Adds ops ops' j i) {k : Nat} (h : ops[k]? = none) : ops'[k]? = none := by
  rw [Array.getElem?_eq_none_iff] at h ⊢
  rw [A.size]; exact h
theorem Adds.yielded {ops ops' : Array Oper} {j i : Nat} (A : Adds ops ops' j i) (tmps : Array Value) : yielded ops' tmps = yielded ops tmps := by
  funext k
  unfold Go.yielded
  cases h : ops[k]? with
  | none => rw [A.none h]
  | some o =>
    rw [A.op k o h]
    split
    · by_cases q : k = j
      · simp_all
      · simp_all
    · by_cases q : k = j
      · simp_all
      · simp_all
theorem Adds.ops {P : Program} {ops ops' : Array Oper} {j i : Nat} (A : Adds ops ops' j i) {Q : Exit → Act → World → Prop} : ∀ (l : List Nat) (a : Act) (w : World), wpOps P ops' Q l a w → wpOps P ops Q l a w := by
  intro l
  induction l with
  | nil => intro a w h; exact h
  | cons k l ih =>
    intro a w h
    rw [wpOps_cons] at h ⊢
    unfold wpOp at h ⊢
    cases ho : ops[k]? with
    | none =>
      rw [A.none ho] at h
      exact ih _ _ h
    | some o =>
      rw [A.op k o ho, A.yielded] at h
      by_cases q : k = j
      · rw [if_pos q] at h
        simp only at h ⊢
        have hw : Region.wanted { o with after := o.after.push ⟨i, .data⟩ } (Go.yielded ops a.tmps) = Region.wanted o (Go.yielded ops a.tmps) := rfl
        rw [hw] at h
        split
        · rename_i c
          rw [if_pos c] at h
          rcases h with h | h
          · exact .inl (Oper.wp_mono ih h)
          · exact .inr h
        · rename_i c
          rw [if_neg c] at h
          exact ih _ _ h
      · rw [if_neg q] at h
        simp only at h ⊢
        split
        · rename_i c
          rw [if_pos c] at h
          rcases h with h | h
          · exact .inl (Oper.wp_mono ih h)
          · exact .inr h
        · rename_i c
          rw [if_neg c] at h
          exact ih _ _ h

def AD (P : Program) (ops : Array Oper) (Q : Exit → St → Prop) (S : St) : Prop :=
  ∀ φ w a, HR φ w S.h → TR φ (own φ S.h) w S.n S.tm a → ∀ l, Valid ops ops.size (Array.replicate ops.size false) l → wpOps P ops (Lift φ S.h w S.n Q) l a { w with drawn := w.drawn + 1 }

theorem AW.orders {P : Program} {ops : Array Oper} {id : Nat} {Q : Exit → St → Prop} {S : St} (hm : P.follows .mixedOrders = true) (h : AD P ops Q S) : AW P (.region id ops true) Q S :=
  fun φ w a H T => wp_region_draw fun t => by
    simp only [Region.schedule, hm, Bool.true_or, if_true]
    exact h φ w a H T _ (valid_lin _ _ _ _)
/-- Either 'i' stands ahead of 'j' or 'j' ahead of 'i'. -/
theorem AD.either {P : Program} {ops : Array Oper} {Q : Exit → St → Prop} {S : St} (i j : Nat) (hij : i ≠ j) (h1 : AD P (addA ops j i) Q S) (h2 : AD P (addA ops i j) Q S) : AD P ops Q S := by
  intro φ w a H T l v
  have A := adds_addA ops j i
  have B := adds_addA ops i j
  rcases valid_or hij A B _ _ _ (by simp) v with q | q
  · exact A.ops _ _ _ (h1 φ w a H T l (by rw [A.size]; exact q))
  · exact B.ops _ _ _ (h2 φ w a H T l (by rw [B.size]; exact q))
theorem AD.draw {P : Program} {Θ : Types} (q p M : List Nat) (m : Nat) (ob : List Nat) (hΘ : Θ.ok P) {ops : Array Oper} {Q : Exit → St → Prop} {S : St}
    (hp : permOK q p ops.size = true) (hok : drawOK (permOps q p ops.toList) m M = true) (hlo : loadsOK (permOps q p ops.toList) m M ob 0 (permOps q p ops.toList) = true) (h : vcDraw P Θ M (permOps q p ops.toList) m ob (Q .normal) S) : AD P ops Q S := by
  intro φ w a H T l v
  have S2 := perm2_of hp
  have r := draw_all (ops := (permOps q p ops.toList).toArray) M m ob hΘ (by simpa using hok) (by simpa using hlo) (by simpa using h) H T
  have sz : (permOps q p ops.toList).toArray.size = ops.size := S2.size
  rw [sz] at r
  refine any_valid _ _ _ _ _ v ?_
  exact wpAny_perm S2 ops.size _ _ a _ (by simp) (by simp) (fun i hi => by
    have h1 := S2.lt i hi
    rw [Array.getD_eq_getD_getElem?, Array.getD_eq_getD_getElem?, Array.getElem?_replicate, Array.getElem?_replicate, if_pos h1, if_pos hi]) r
end Go.Par
