/- Rules and words for the functions of the program. -/
import Derived.Test.YtlpfokngocdanaaMaS
namespace Go.Par

/-! ### Loops -/
theorem AW.loopI {P : Program} {c : Code} {Q : Exit → St → Prop} {S : St} {X : Type} (I : X → Prop) (inv : X → St) (μ : X → Nat) (x0 : X) (hI : I x0) (h0 : GStep S (inv x0))
    (round : ∀ x, I x → AW P c (Then (fun S' => ∃ x', I x' ∧ μ x' < μ x ∧ GStep S' (inv x')) Q) (inv x)) : AW P (.loop c) Q S := by
  refine AW.loop (X := {x // I x}) (fun x => inv x.1) (fun x => μ x.1) ⟨x0, hI⟩ h0 fun x => ?_
  refine (round x.1 x.2).mono fun e S h => ?_
  cases e with
  | normal => obtain ⟨x', h1, h2, h3⟩ := h; exact ⟨⟨x', h1⟩, h3, h2⟩
  | _ => exact h

/-! ### What a value may be taken for -/
def wk : AV → AV → Prop
  | .nils, .ro false [] => True
  | .ro k xs, .ro k' ys => xs = ys ∧ (k' = true → k = true)
  | u, u' => u = u'

theorem VR.wk {φ : Names} {B : Nat → Prop} {w : World} {u u' : AV} {v : Value} (h : VR φ B w u v) (hw : wk u u') : VR φ B w u' v := by
  unfold Par.wk at hw
  split at hw
  · cases h; exact .roNil false none 0 (by simp) (by simp)
  · obtain ⟨rfl, hk⟩ := hw
    cases h with
    | roNil k a c ha hc => exact .roNil _ a c (fun e => ha (hk e)) hc
    | ro k xs n b off c s f hn hc hB hb hs hcell hval => exact .ro _ _ n b off c s f hn hc hB hb hs hcell hval
  · subst hw; exact h

/-- A value of which no part is told not to be nil. -/
def weak : AV → AV
  | .ro _ xs => .ro false (weakL xs)
  | .nils => .ro false []
  | .agg cs => .agg (weakL cs)
  | .rop cs => .rop (weakL cs)
  | .clo f cs => .clo f (weakL cs)
  | u => u
where weakL : List AV → List AV
  | [] => []
  | u :: us => weak u :: weakL us
theorem weakL_map : ∀ l : List AV, weak.weakL l = l.map weak
  | [] => rfl
  | u :: us => congrArg (weak u :: ·) (weakL_map us)
@[simp] theorem weak_ro (k : Bool) (xs : List AV) : weak (.ro k xs) = .ro false (xs.map weak) := by rw [← weakL_map]; rfl
@[simp] theorem weak_agg (xs : List AV) : weak (.agg xs) = .agg (xs.map weak) := by rw [← weakL_map]; rfl
@[simp] theorem weak_rop (xs : List AV) : weak (.rop xs) = .rop (xs.map weak) := by rw [← weakL_map]; rfl
@[simp] theorem weak_clo (f : FuncId) (xs : List AV) : weak (.clo f xs) = .clo f (xs.map weak) := by rw [← weakL_map]; rfl
@[simp] theorem weak_nils : weak .nils = .ro false [] := rfl
@[simp] theorem weak_int (k : IntKind) (n : Int) : weak (.int k n) = .int k n := rfl
@[simp] theorem weak_bool (b : Bool) : weak (.bool b) = .bool b := rfl
@[simp] theorem weak_mu (o n : Nat) : weak (.mu o n) = .mu o n := rfl
@[simp] theorem weak_ptr (o n : Nat) : weak (.ptr o n) = .ptr o n := rfl
@[simp] theorem weak_nilp : weak .nilp = .nilp := rfl
@[simp] theorem weak_nilf : weak .nilf = .nilf := rfl
theorem weak_flat (u : AV) : (weak u).flat = u.flat.map weak := by cases u <;> simp [AV.flat] <;> rfl
theorem weak_flats (xs : List AV) : (xs.map weak).flatMap AV.flat = (xs.flatMap AV.flat).map weak := by
  induction xs with
  | nil => rfl
  | cons a l ih => simp only [List.map_cons, List.flatMap_cons, List.map_append, ih, weak_flat]

theorem VR.weak {φ : Names} {B : Nat → Prop} {w : World} {u : AV} {v : Value} (h : VR φ B w u v) : VR φ B w (weak u) v := by
  induction h with
  | any v => exact .any v
  | int k n => exact .int k n
  | bool b => exact .bool b
  | nils => exact .roNil false none 0 (by simp) (by simp)
  | roNil k a c ha hc => exact .roNil false a c (by simp) hc
  | ro k xs n b off c s f hn hc hB hb hs hcell hval ih =>
    rw [weak_ro]
    refine .ro false _ n b off c s f (by simpa using hn) hc hB hb ?_ ?_ ?_
    · intro x hx
      obtain ⟨y, hy, rfl⟩ := List.mem_map.1 hx
      rw [weak_flat, List.length_map]; exact hs y hy
    · intro j u hj
      rw [weak_flats, List.getElem?_map, Option.map_eq_some_iff] at hj
      obtain ⟨y, hy, rfl⟩ := hj
      exact hcell j y hy
    · intro j u hj
      rw [weak_flats, List.getElem?_map, Option.map_eq_some_iff] at hj
      obtain ⟨y, hy, rfl⟩ := hj
      exact ih j y hy
  | muN o h => exact .muN o h
  | mu o n b cap h hn => exact .mu o n b cap h hn
  | ptr o off b cap h => exact .ptr o off b cap h
  | rop cs b off f hB hb hcell hval ih =>
    rw [weak_rop]
    refine .rop _ b off f hB hb ?_ ?_
    · intro j u hj
      rw [List.getElem?_map, Option.map_eq_some_iff] at hj
      obtain ⟨y, hy, rfl⟩ := hj
      exact hcell j y hy
    · intro j u hj
      rw [List.getElem?_map, Option.map_eq_some_iff] at hj
      obtain ⟨y, hy, rfl⟩ := hj
      exact ih j y hy
  | nilp => exact .nilp
  | agg cs vs hl h ih =>
    rw [weak_agg]
    refine .agg _ vs (by simpa using hl) fun j u hj => ?_
    rw [List.getElem?_map, Option.map_eq_some_iff] at hj
    obtain ⟨y, hy, rfl⟩ := hj
    exact ih j y hy
  | tup cs vs hl h ih => exact .tup cs vs hl h
  | clo f cs vs hl h ih =>
    rw [weak_clo]
    refine .clo f _ vs (by simpa using hl) fun j u hj => ?_
    rw [List.getElem?_map, Option.map_eq_some_iff] at hj
    obtain ⟨y, hy, rfl⟩ := hj
    exact ih j y hy
  | bnd f cs vs hl h ih => exact .bnd f cs vs hl h
  | nilf => exact .nilf
  | ifc t u v h ih => exact .ifc t u v h
  | nili => exact .nili

def wks : List AV → List AV → Prop
  | [], [] => True
  | u :: us, v :: vs => (wk u v ∨ weak u = v) ∧ wks us vs
  | _, _ => False

theorem wks.vrs {φ : Names} {B : Nat → Prop} {w : World} : ∀ {us us' : List AV} {k : Nat} {vs : Array Value}, wks us us' → (us.length + k = vs.size ∧ ∀ j u, us[j]? = some u → VR φ B w u (vs.getD (j + k) undef)) →
    us'.length + k = vs.size ∧ ∀ j u, us'[j]? = some u → VR φ B w u (vs.getD (j + k) undef) := by
  intro us
  induction us with
  | nil => intro us' k vs h hv; cases us' with | nil => exact hv | cons a b => exact h.elim
  | cons u us ih =>
    intro us' k vs h hv
    cases us' with
    | nil => exact h.elim
    | cons u' us' =>
      obtain ⟨h1, h2⟩ := h
      obtain ⟨g1, g2⟩ := ih (k := k + 1) (vs := vs) h2 ⟨by have := hv.1; simp at this; omega, fun j u hu => by
        have := hv.2 (j + 1) u (by simpa using hu)
        rwa [show j + 1 + k = j + (k + 1) by omega] at this⟩
      refine ⟨by simp; omega, fun j x hx => ?_⟩
      cases j with
      | zero =>
        simp at hx
        subst hx
        rcases h1 with h1 | h1
        · exact (hv.2 0 u rfl).wk h1
        · subst h1; exact (hv.2 0 u rfl).weak
      | succ j =>
        have := g2 j x (by simpa using hx)
        rwa [show j + (k + 1) = j + 1 + k by omega] at this

theorem AC.wk {P : Program} {f : FuncId} {us us' : List AV} {h : Heap} {Q : AV → Heap → Prop} (hw : wks us us') (H : AC P f us' h Q) : AC P f us h Q :=
  ⟨H.1, fun φ w vs h1 h2 => H.2 φ w vs h1 (by
    have := hw.vrs (k := 0) (vs := vs) (by simpa [VRs] using h2)
    simpa [VRs] using this)⟩

theorem Pure.wk {P : Program} {f : FuncId} {us us' : List AV} {r : AV} (hw : wks us us') (H : Pure P f us' r) : Pure P f us r := fun h => (H h).wk hw

/-- A call of a function that only reckons. -/
theorem Pure.use {P : Program} {f : FuncId} {us us' : List AV} {r : AV} {h : Heap} {Q : AV → Heap → Prop} (H : Pure P f us' r) (hw : wks us us') (hq : Q r h) : AC P f us h Q := (H.wk hw).ac hq

theorem wk_refl (u : AV) : wk u u := by
  unfold Par.wk
  split <;> simp_all

@[simp] theorem wks_refl : ∀ (us : List AV), wks us us
  | [] => trivial
  | u :: us => ⟨.inl (wk_refl u), wks_refl us⟩
@[simp] theorem wks_nil : wks [] [] = True := rfl
@[simp] theorem wks_cons (u v : AV) (us vs : List AV) : wks (u :: us) (v :: vs) = ((wk u v ∨ weak u = v) ∧ wks us vs) := rfl
@[simp] theorem wk_ro (k k' : Bool) (xs ys : List AV) : wk (.ro k xs) (.ro k' ys) = (xs = ys ∧ (k' = true → k = true)) := by
  unfold Par.wk; split <;> simp_all
@[simp] theorem wk_nils : wk .nils (.ro false []) = True := rfl
@[simp] theorem wk_int (k k' : IntKind) (n n' : Int) : wk (.int k n) (.int k' n') = (AV.int k n = .int k' n') := rfl
@[simp] theorem wk_bool (b b' : Bool) : wk (.bool b) (.bool b') = (AV.bool b = .bool b') := rfl
@[simp] theorem wk_agg (b b' : List AV) : wk (.agg b) (.agg b') = (AV.agg b = .agg b') := rfl
@[simp] theorem weak_bnd (f : FuncId) (xs : List AV) : weak (.bnd f xs) = .bnd f xs := rfl
@[simp] theorem wk_bnd (f f' : FuncId) (b b' : List AV) : wk (.bnd f b) (.bnd f' b') = (AV.bnd f b = .bnd f' b') := rfl
@[simp] theorem wk_clo (f f' : FuncId) (b b' : List AV) : wk (.clo f b) (.clo f' b') = (AV.clo f b = .clo f' b') := rfl
@[simp] theorem wk_rop (b b' : List AV) : wk (.rop b) (.rop b') = (AV.rop b = .rop b') := rfl
@[simp] theorem wk_ptr (o o' n n' : Nat) : wk (.ptr o n) (.ptr o' n') = (AV.ptr o n = .ptr o' n') := rfl
@[simp] theorem wk_mu (o o' n n' : Nat) : wk (.mu o n) (.mu o' n') = (AV.mu o n = .mu o' n') := rfl

/-! ### Heaps -/
@[simp] theorem upd_upd (h : Heap) (o : Nat) (x y : Option Ob) : upd (upd h o x) o y = upd h o y := by
  funext o'; simp only [upd]; split <;> rfl
theorem upd_none_id {h : Heap} {o : Nat} (hn : h o = none) : upd h o none = h := by
  funext o'; simp only [upd]; split
  · rename_i e; rw [e, hn]
  · rfl
theorem upd_upd_none {h : Heap} {o : Nat} {x : Option Ob} (hn : h o = none) : upd (upd h o x) o none = h := by
  rw [upd_upd, upd_none_id hn]
theorem subH_of_eq {h h' : Heap} (e : h' = h) : subH h h' := by subst e; exact subH.refl _
theorem subH_upd {h : Heap} {o : Nat} {x : Option Ob} (hn : h o = none) : subH h (upd h o x) := by
  intro o' y hy
  have : o' ≠ o := by rintro rfl; rw [hn] at hy; cases hy
  rw [upd_ne _ _ this]; exact hy
theorem subH_upd2 {h h' : Heap} {o : Nat} {x : Option Ob} (hn : h o = none) (hs : subH h h') : subH h (upd h' o x) := by
  intro o' y hy
  have : o' ≠ o := by rintro rfl; rw [hn] at hy; cases hy
  rw [upd_ne _ _ this]; exact hs o' y hy
theorem ne_of_none {h : Heap} {o p : Nat} {x : Option Ob} (hp : upd h o x p = none) (hx : x ≠ none) : p ≠ o ∧ h p = none := by
  have : p ≠ o := by rintro rfl; rw [upd_same] at hp; exact hx hp
  exact ⟨this, by rwa [upd_ne _ _ this] at hp⟩

/-! ### Tables -/
def tab {α : Type} (n : Nat) (f : Nat → α) : List α := (List.range n).map f
@[simp] theorem length_tab {α : Type} (n : Nat) (f : Nat → α) : (tab n f).length = n := by simp [tab]
theorem getElem?_tab {α : Type} (n : Nat) (f : Nat → α) (i : Nat) : (tab n f)[i]? = if i < n then some (f i) else none := by
  simp only [tab, List.getElem?_map]
  by_cases h : i < n
  · simp [h]
  · simp [h]
@[simp] theorem getElem_tab {α : Type} (n : Nat) (f : Nat → α) (i : Nat) (h : i < (tab n f).length) : (tab n f)[i] = f i := by simp [tab]
theorem getD_tab {α : Type} (n : Nat) (f : Nat → α) (i : Nat) (d : α) : (tab n f).getD i d = if i < n then f i else d := by
  rw [List.getD_eq_getElem?_getD, getElem?_tab]; split <;> rfl
@[simp] theorem map_tab {α β : Type} (n : Nat) (f : Nat → α) (g : α → β) : (tab n f).map g = tab n fun i => g (f i) := by simp [tab]
theorem tab_congr {α : Type} {n : Nat} {f g : Nat → α} (h : ∀ i, i < n → f i = g i) : tab n f = tab n g := by
  simp only [tab]; exact List.map_congr_left fun i hi => h i (by simpa using hi)
theorem set_tab {α : Type} (n : Nat) (f : Nat → α) (i : Nat) (y : α) : (tab n f).set i y = tab n fun j => if j = i then y else f j := by
  apply List.ext_getElem?
  intro j
  rw [getElem?_tab]
  by_cases e : i = j
  · subst e
    by_cases h : i < n
    · rw [List.getElem?_set_self (by simpa using h)]; simp [h]
    · rw [List.getElem?_eq_none (by simp; omega)]; simp [h]
  · rw [List.getElem?_set_ne e, getElem?_tab]
    have : ¬ j = i := fun h => e h.symm
    simp [this]
theorem replicate_tab {α : Type} (n : Nat) (x : α) : List.replicate n x = tab n fun _ => x := by
  simp [tab, List.map_const']
theorem mem_tab {α : Type} {n : Nat} {f : Nat → α} {y : α} : y ∈ tab n f ↔ ∃ i, i < n ∧ f i = y := by simp [tab]
theorem tab_ext {α : Type} {l : List α} {n : Nat} {f : Nat → α} (hl : l.length = n) (h : ∀ i, i < n → l[i]? = some (f i)) : l = tab n f := by
  apply List.ext_getElem?
  intro j
  rw [getElem?_tab]
  by_cases hj : j < n
  · rw [if_pos hj]; exact h j hj
  · rw [if_neg hj, List.getElem?_eq_none (by omega)]
@[simp] theorem tab_zero {α : Type} (f : Nat → α) : tab 0 f = [] := rfl
theorem tab_succ {α : Type} (n : Nat) (f : Nat → α) : tab (n + 1) f = tab n f ++ [f n] := by simp [tab, List.range_succ]

/-! ### Plain data -/
abbrev ints (l : List Int) : List AV := l.map (AV.int .i64)
abbrev bools (l : List Bool) : List AV := l.map AV.bool
abbrev rows (l : List (List Int)) : List AV := l.map fun r => AV.ro false (ints r)

@[simp] theorem weak_ints (l : List Int) : (ints l).map weak = ints l := by simp
@[simp] theorem weak_bools (l : List Bool) : (bools l).map weak = bools l := by simp
@[simp] theorem weak_rows (l : List (List Int)) : (rows l).map weak = rows l := by simp

theorem flat_ints (l : List Int) : (ints l).flatMap AV.flat = ints l := by
  induction l with
  | nil => rfl
  | cons a l ih => exact congrArg (AV.int .i64 a :: ·) ih
theorem flat_bools (l : List Bool) : (bools l).flatMap AV.flat = bools l := by
  induction l with
  | nil => rfl
  | cons a l ih => exact congrArg (AV.bool a :: ·) ih
theorem flat_rows (l : List (List Int)) : (rows l).flatMap AV.flat = rows l := by
  induction l with
  | nil => rfl
  | cons a l ih => exact congrArg (AV.ro false (ints a) :: ·) ih
theorem flat_tab {n : Nat} {f : Nat → AV} (h : ∀ i, i < n → (f i).flat = [f i]) : (tab n f).flatMap AV.flat = tab n f := by
  induction n with
  | zero => rfl
  | succ n ih => rw [tab_succ, List.flatMap_append, ih fun i hi => h i (by omega)]; simp [h n (by omega)]

structure G where
  owner : List Int
  next : List (List Int)

def G.av (g : G) : AV := .agg [.ro false (ints g.owner), .ro false (rows g.next)]
@[simp] theorem G.av_flat (g : G) : g.av.flat = [.ro false (ints g.owner), .ro false (rows g.next)] := rfl
@[simp] theorem G.av_known (g : G) : g.av.known = true := rfl

def hasI (in_ : List Bool) (v : Int) : Bool := in_.getD v.toNat false
def hasN (in_ : List Bool) (v : Nat) : Bool := in_.getD v false
@[simp] theorem hasI_nat (in_ : List Bool) (v : Nat) : hasI in_ (v : Int) = hasN in_ v := by simp [hasI, hasN]

theorem wrap_nat {n : Nat} (h : n < 9223372036854775808) : IntKind.i64.wrap (n : Int) = n := by
  rw [IntKind.wrap_i64]; omega
theorem wrap_id {n : Int} (h0 : -9223372036854775808 ≤ n) (h : n < 9223372036854775808) : IntKind.i64.wrap n = n := by
  rw [IntKind.wrap_i64]; omega
theorem wrap_succ {n : Nat} (h : n < 9223372036854775807) : IntKind.i64.wrap ((n : Int) + 1) = ((n + 1 : Nat) : Int) := by
  rw [IntKind.wrap_i64]; omega

/-- A slice of single cells is told as a value that nobody writes any more. -/
theorem Fin.freeze {o n : Nat} {h : Heap} {x : Ob} {k : Bool} {Q : AV → Heap → Prop} (hx : h o = some x) (hk : k = true → x.nn = true) (h1 : x.sz = 1) (hl : x.cells.length = n) (hf : ∀ u ∈ x.cells, u.flat = [u]) (h' : Heap) (hs : subH h' (upd h o none)) (hq : Q (.ro k x.cells) h') : Fin (.mu o n) h Q := by
  have e : x.cells.flatMap AV.flat = x.cells := by
    have : ∀ l : List AV, (∀ u ∈ l, u.flat = [u]) → l.flatMap AV.flat = l := by
      intro l
      induction l with
      | nil => intro _; rfl
      | cons a l ih => intro h; rw [List.flatMap_cons, h a (by simp), ih fun u hu => h u (by simp [hu])]; rfl
    exact this _ hf
  refine ⟨_, h', (GV.freeze hx hk hl (fun y hy => by rw [hf y hy, h1]; rfl) ?_).trans (GV.sub hs), hq⟩
  rw [e, h1, Nat.mul_one, ← hl, List.take_length]

end Go.Par
