/- The plain values that stand for what memory holds, and how the two belong together. -/
import Derived.RowKit3
import Derived.Laws.AppendOwn
import Derived.Laws.MakeOwn
import Derived.Deep.LoopGhost
namespace Go.Par

/-- Where an object lies: nowhere yet (a nil slice), or in a block of so many elements; 'res': a name that is kept for one to come. -/
inductive Loc where
  | nil
  | res
  | blk (b cap : Nat)

/-- Plain values: 'ro': a slice that nobody writes any more (true: surely not nil); 'mu': a slice of an object; 'ptr': into an object; 'rop': to cells that nobody writes any more. -/
inductive AV where
  | any
  | int (k : IntKind) (n : Int)
  | bool (b : Bool)
  | nils
  | ro (k : Bool) (xs : List AV)
  | mu (o n : Nat)
  | ptr (o off : Nat)
  | rop (cs : List AV)
  | nilp
  | agg (cs : List AV)
  | tup (vs : List AV)
  | clo (f : FuncId) (cap : List AV)
  | bnd (f : FuncId) (first : List AV)
  | nilf
  | ifc (t : TypeId) (v : AV)
  | nili
  deriving Inhabited

def AV.flat : AV → List AV
  | .agg cs => cs
  | v => [v]

def AV.one : AV → Bool
  | .agg _ | .tup _ | .any => false
  | _ => true

abbrev Names := Nat → Option Loc

inductive VR (φ : Names) (B : Nat → Prop) (w : World) : AV → Value → Prop where
  | any (v : Value) : VR φ B w .any v
  | int (k : IntKind) (n : Int) : VR φ B w (.int k n) (.int k n)
  | bool (b : Bool) : VR φ B w (.bool b) (.bool b)
  | nils : VR φ B w .nils (.slice none 0 0)
  | roNil (k : Bool) (a : Option Addr) (c : Nat) (ha : k = true → a.isSome = true) (hc : a = none → c = 0) : VR φ B w (.ro k []) (.slice a 0 c)
  | ro (k : Bool) (xs : List AV) (n b off c s : Nat) (f : Nat → Value) (hn : n = xs.length) (hc : n ≤ c) (hB : ¬ B b) (hb : b < w.heap.size)
      (hs : ∀ x ∈ xs, x.flat.length = s)
      (hcell : ∀ j u, (xs.flatMap AV.flat)[j]? = some u → w.cell? ⟨b, off + j, none⟩ = some (f j))
      (hval : ∀ j u, (xs.flatMap AV.flat)[j]? = some u → VR φ B w u (f j)) : VR φ B w (.ro k xs) (.slice (some ⟨b, off, none⟩) n c)
  | muN (o : Nat) (h : φ o = some .nil) : VR φ B w (.mu o 0) (.slice none 0 0)
  | mu (o n b cap : Nat) (h : φ o = some (.blk b cap)) (hn : n ≤ cap) : VR φ B w (.mu o n) (.slice (some ⟨b, 0, none⟩) n cap)
  | ptr (o off b cap : Nat) (h : φ o = some (.blk b cap)) : VR φ B w (.ptr o off) (.pointer (some ⟨b, off, none⟩))
  | rop (cs : List AV) (b off : Nat) (f : Nat → Value) (hB : ¬ B b) (hb : b < w.heap.size)
      (hcell : ∀ j u, cs[j]? = some u → w.cell? ⟨b, off + j, none⟩ = some (f j))
      (hval : ∀ j u, cs[j]? = some u → VR φ B w u (f j)) : VR φ B w (.rop cs) (.pointer (some ⟨b, off, none⟩))
  | nilp : VR φ B w .nilp (.pointer none)
  | agg (cs : List AV) (vs : Array Value) (hl : cs.length = vs.size) (h : ∀ j u, cs[j]? = some u → VR φ B w u (vs.getD j undef)) : VR φ B w (.agg cs) (.agg vs)
  | tup (cs : List AV) (vs : Array Value) (hl : cs.length = vs.size) (h : ∀ j u, cs[j]? = some u → VR φ B w u (vs.getD j undef)) : VR φ B w (.tup cs) (.tuple vs)
  | clo (f : FuncId) (cs : List AV) (vs : Array Value) (hl : cs.length = vs.size) (h : ∀ j u, cs[j]? = some u → VR φ B w u (vs.getD j undef)) : VR φ B w (.clo f cs) (.func (.func f) #[] vs)
  | bnd (f : FuncId) (cs : List AV) (vs : Array Value) (hl : cs.length = vs.size) (h : ∀ j u, cs[j]? = some u → VR φ B w u (vs.getD j undef)) : VR φ B w (.bnd f cs) (.func (.func f) vs #[])
  | nilf : VR φ B w .nilf .nilFunc
  | ifc (t : TypeId) (u : AV) (v : Value) (h : VR φ B w u v) : VR φ B w (.ifc t u) (.iface t v)
  | nili : VR φ B w .nili .nilIface

def Ext (φ φ' : Names) : Prop := ∀ o l, φ o = some l → φ' o = some l
theorem Ext.refl (φ : Names) : Ext φ φ := fun _ _ h => h
theorem Ext.trans {φ φ' φ'' : Names} (h : Ext φ φ') (h' : Ext φ' φ'') : Ext φ φ'' := fun o l q => h' o l (h o l q)

/-- What is not an object's own stays as it is. -/
structure Keeps (B : Nat → Prop) (w : World) (B' : Nat → Prop) (w' : World) : Prop where
  os : w'.os = w.os
  tape : w'.tape = w.tape
  output : w'.output = w.output
  size : w.heap.size ≤ w'.heap.size
  block : ∀ b, b < w.heap.size → ¬ B b → ¬ B' b ∧ w'.heap[b]? = w.heap[b]?

theorem Keeps.refl (B : Nat → Prop) (w : World) : Keeps B w B w := ⟨rfl, rfl, rfl, Nat.le_refl _, fun _ _ h => ⟨h, rfl⟩⟩
theorem Keeps.trans {B B' B'' : Nat → Prop} {w w' w'' : World} (h : Keeps B w B' w') (k : Keeps B' w' B'' w'') : Keeps B w B'' w'' :=
  ⟨k.os.trans h.os, k.tape.trans h.tape, k.output.trans h.output, Nat.le_trans h.size k.size, fun b hb hB =>
    let ⟨h1, h2⟩ := h.block b hb hB
    let ⟨k1, k2⟩ := k.block b (Nat.lt_of_lt_of_le hb h.size) h1
    ⟨k1, k2.trans h2⟩⟩

theorem cell_of_block {w w' : World} {a : Addr} (h : w'.heap[a.block]? = w.heap[a.block]?) : w'.cell? a = w.cell? a := by simp [World.cell?, h]

/-- But for names that are kept. -/
def ExtW (φ φ' : Names) : Prop := ∀ o l, l ≠ .res → φ o = some l → φ' o = some l
theorem Ext.w {φ φ' : Names} (h : Ext φ φ') : ExtW φ φ' := fun o l _ q => h o l q

theorem VR.monoW {φ φ' : Names} {B B' : Nat → Prop} {w w' : World} {u : AV} {v : Value} (h : VR φ B w u v) (hφ : ExtW φ φ') (hk : Keeps B w B' w') : VR φ' B' w' u v := by
  induction h with
  | any v => exact .any v
  | int k n => exact .int k n
  | bool b => exact .bool b
  | nils => exact .nils
  | roNil k a c ha hc => exact .roNil k a c ha hc
  | ro k xs n b off c s f hn hc hB hb hs hcell _ ih =>
    obtain ⟨h1, h2⟩ := hk.block b hb hB
    exact .ro k xs n b off c s f hn hc h1 (Nat.lt_of_lt_of_le hb hk.size) hs (fun j u hu => (cell_of_block (a := ⟨b, off + j, none⟩) h2).trans (hcell j u hu)) ih
  | muN o h => exact .muN o (hφ _ _ (by simp) h)
  | mu o n b cap h hn => exact .mu o n b cap (hφ _ _ (by simp) h) hn
  | ptr o off b cap h => exact .ptr o off b cap (hφ _ _ (by simp) h)
  | rop cs b off f hB hb hcell _ ih =>
    obtain ⟨h1, h2⟩ := hk.block b hb hB
    exact .rop cs b off f h1 (Nat.lt_of_lt_of_le hb hk.size) (fun j u hu => (cell_of_block (a := ⟨b, off + j, none⟩) h2).trans (hcell j u hu)) ih
  | nilp => exact .nilp
  | agg cs vs hl _ ih => exact .agg cs vs hl ih
  | tup cs vs hl _ ih => exact .tup cs vs hl ih
  | clo f cs vs hl _ ih => exact .clo f cs vs hl ih
  | bnd f cs vs hl _ ih => exact .bnd f cs vs hl ih
  | nilf => exact .nilf
  | ifc t u v _ ih => exact .ifc t u v ih
  | nili => exact .nili

theorem VR.mono {φ φ' : Names} {B B' : Nat → Prop} {w w' : World} {u : AV} {v : Value} (h : VR φ B w u v) (hφ : Ext φ φ') (hk : Keeps B w B' w') : VR φ' B' w' u v := h.monoW hφ.w hk

structure Ob where
  cells : List AV
  ty : TypeId
  sz : Nat
  nn : Bool

abbrev Heap := Nat → Option Ob
def upd (h : Heap) (o : Nat) (x : Option Ob) : Heap := fun o' => if o' = o then x else h o'
theorem upd_same (h : Heap) (o : Nat) (x : Option Ob) : upd h o x o = x := by simp [upd]
theorem upd_ne (h : Heap) {o o' : Nat} (x : Option Ob) (hne : o' ≠ o) : upd h o x o' = h o' := by simp [upd, hne]

def own (φ : Names) (h : Heap) (b : Nat) : Prop := ∃ o cap, (h o).isSome = true ∧ φ o = some (.blk b cap)

def ObR (φ : Names) (B : Nat → Prop) (w : World) (x : Ob) : Loc → Prop
  | .nil => x.cells = [] ∧ x.nn = false
  | .res => False
  | .blk b cap => ∃ cur, w.heap[b]? = some (.cells cur x.ty (0, 0)) ∧ cur.size = cap * x.sz ∧ cap ≤ maxLen ∧ x.cells.length ≤ cur.size ∧ ∀ j u, x.cells[j]? = some u → VR φ B w u (cur.getD j undef)

structure HR (φ : Names) (w : World) (h : Heap) : Prop where
  ob : ∀ o x, h o = some x → ∃ l, φ o = some l ∧ ObR φ (own φ h) w x l
  inj : ∀ o o' b c c', (h o).isSome = true → (h o').isSome = true → φ o = some (.blk b c) → φ o' = some (.blk b c') → o = o'
  free : ∃ N, ∀ o, N ≤ o → φ o = none

theorem HR.fresh {φ : Names} {w : World} {h : Heap} (H : HR φ w h) : ∃ o, φ o = none ∧ h o = none := by
  obtain ⟨N, hN⟩ := H.free
  refine ⟨N, hN N (Nat.le_refl _), ?_⟩
  cases hx : h N with
  | none => rfl
  | some x =>
    obtain ⟨l, hl, _⟩ := H.ob N x hx
    rw [hN N (Nat.le_refl _)] at hl
    cases hl

theorem HR.own_lt {φ : Names} {w : World} {h : Heap} (H : HR φ w h) {b : Nat} (hb : own φ h b) : b < w.heap.size := by
  obtain ⟨o, cap, ho, hl⟩ := hb
  obtain ⟨x, hx⟩ := Option.isSome_iff_exists.1 ho
  obtain ⟨l, hl', hr⟩ := H.ob o x hx
  rw [hl] at hl'
  cases hl'
  obtain ⟨cur, hcur, _⟩ := hr
  exact (Array.getElem?_eq_some_iff.1 hcur).1

abbrev Tm := List (Nat × AV)
def get : Tm → Nat → AV
  | [], _ => .any
  | (d, v) :: l, t => if d = t then v else get l t

structure St where
  n : Nat
  tm : Tm
  h : Heap

structure TR (φ : Names) (B : Nat → Prop) (w : World) (n : Nat) (tm : Tm) (a : Act) : Prop where
  defers : a.defers = []
  size : a.tmps.size = n
  val : ∀ t, VR φ B w (get tm t) (a.tmps.getD t undef)

theorem TR.monoW {φ φ' : Names} {B B' : Nat → Prop} {w w' : World} {n : Nat} {tm : Tm} {a : Act} (h : TR φ B w n tm a) (hφ : ExtW φ φ') (hk : Keeps B w B' w') : TR φ' B' w' n tm a :=
  ⟨h.defers, h.size, fun t => (h.val t).monoW hφ hk⟩

theorem TR.mono {φ φ' : Names} {B B' : Nat → Prop} {w w' : World} {n : Nat} {tm : Tm} {a : Act} (h : TR φ B w n tm a) (hφ : Ext φ φ') (hk : Keeps B w B' w') : TR φ' B' w' n tm a :=
  ⟨h.defers, h.size, fun t => (h.val t).mono hφ hk⟩

theorem TR.put {φ : Names} {B : Nat → Prop} {w : World} {n : Nat} {tm : Tm} {a : Act} (h : TR φ B w n tm a) {d : Nat} (hd : d < n) {u : AV} {v : Value} (hv : VR φ B w u v) : TR φ B w n ((d, u) :: tm) (a.put (some d) v) := by
  refine ⟨h.defers, by simp [Act.put, h.size], fun t => ?_⟩
  simp only [get, Act.put]
  by_cases e : d = t
  · subst e
    rw [if_pos rfl]
    simp [h.size, hd, hv]
  · rw [if_neg e]
    simpa [Array.getElem?_setIfInBounds_ne e] using h.val t

theorem TR.put_none {φ : Names} {B : Nat → Prop} {w : World} {n : Nat} {tm : Tm} {a : Act} (h : TR φ B w n tm a) (v : Value) : TR φ B w n tm (a.put none v) := h

/-- Two states of one world: what is told by the one is told by the other, too. -/
def GStep (S S' : St) : Prop := S.n = S'.n ∧ ∀ φ w a, HR φ w S.h → TR φ (own φ S.h) w S.n S.tm a →
  ∃ φ', Ext φ φ' ∧ HR φ' w S'.h ∧ TR φ' (own φ' S'.h) w S'.n S'.tm a ∧ ∀ b, own φ' S'.h b → own φ S.h b

theorem GStep.refl (S : St) : GStep S S := ⟨rfl, fun φ _ _ h t => ⟨φ, Ext.refl φ, h, t, fun _ q => q⟩⟩
theorem GStep.trans {S S' S'' : St} (h : GStep S S') (k : GStep S' S'') : GStep S S'' :=
  ⟨h.1.trans k.1, fun φ w a H T =>
    let ⟨φ', e, H', T', o⟩ := h.2 φ w a H T
    let ⟨φ'', e', H'', T'', o'⟩ := k.2 φ' w a H' T'
    ⟨φ'', e.trans e', H'', T'', fun b q => o b (o' b q)⟩⟩

theorem Keeps.less {B B' : Nat → Prop} (w : World) (h : ∀ b, B' b → B b) : Keeps B w B' w := ⟨rfl, rfl, rfl, Nat.le_refl _, fun b _ hB => ⟨fun q => hB (h b q), rfl⟩⟩

def Lift (φ : Names) (h : Heap) (w : World) (n : Nat) (Q : Exit → St → Prop) : Exit → Act → World → Prop := fun e a' w' =>
  ∃ φ' S', Ext φ φ' ∧ Keeps (own φ h) w (own φ' S'.h) w' ∧ HR φ' w' S'.h ∧ S'.n = n ∧ TR φ' (own φ' S'.h) w' S'.n S'.tm a' ∧ Q e S'

def AW (P : Program) (c : Code) (Q : Exit → St → Prop) (S : St) : Prop :=
  ∀ φ w a, HR φ w S.h → TR φ (own φ S.h) w S.n S.tm a → c.wp P (Lift φ S.h w S.n Q) a w

theorem AW.mono {P : Program} {c : Code} {Q Q' : Exit → St → Prop} {S : St} (h : AW P c Q S) (hq : ∀ e S, Q e S → Q' e S) : AW P c Q' S :=
  fun φ w a H T => Code.wp_mono (fun _ _ _ ⟨φ', S', h1, h2, h3, h4, h5, h6⟩ => ⟨φ', S', h1, h2, h3, h4, h5, hq _ _ h6⟩) (h φ w a H T)

theorem Lift.trans {φ φ' : Names} {h h' : Heap} {w w' : World} {n : Nat} {Q : Exit → St → Prop} {e : Exit} {a : Act} {W : World} (hφ : Ext φ φ') (hk : Keeps (own φ h) w (own φ' h') w')
    (H : Lift φ' h' w' n Q e a W) : Lift φ h w n Q e a W := by
  obtain ⟨φ'', S', h1, h2, h3, h4, h5, h6⟩ := H
  exact ⟨φ'', S', hφ.trans h1, hk.trans h2, h3, h4, h5, h6⟩

theorem AW.ghost {P : Program} {c : Code} {Q : Exit → St → Prop} {S S' : St} (g : GStep S S') (h : AW P c Q S') : AW P c Q S := by
  intro φ w a H T
  obtain ⟨φ', e, H', T', o⟩ := g.2 φ w a H T
  have := h φ' w a H' T'
  rw [← g.1] at this
  exact Code.wp_mono (fun _ _ _ q => Lift.trans e (Keeps.less w o) q) this

/-- What stands behind. -/
def Then (K : St → Prop) (Q : Exit → St → Prop) : Exit → St → Prop
  | .normal, S => K S
  | e, S => Q e S

theorem AW.seq {P : Program} {x y : Code} {Q : Exit → St → Prop} {S : St} (h : ∀ K : St → Prop, (∀ S', AW P y Q S' → K S') → AW P x (Then K Q) S) : AW P (.seq x y) Q S := by
  intro φ w a H T
  refine wp_seq (Code.wp_mono ?_ (h (AW P y Q) (fun _ q => q) φ w a H T))
  rintro e a' w' ⟨φ', S', h1, h2, h3, h4, h5, h6⟩
  cases e with
  | normal =>
    have := h6 φ' w' a' h3 h5
    rw [h4] at this
    exact Code.wp_mono (fun _ _ _ q => Lift.trans h1 h2 q) this
  | _ => exact ⟨φ', S', h1, h2, h3, h4, h5, h6⟩

theorem AW.skip {P : Program} {Q : Exit → St → Prop} {S : St} (h : Q .normal S) : AW P .skip Q S :=
  fun φ w _ H T => wp_skip ⟨φ, S, Ext.refl φ, Keeps.refl _ w, H, rfl, T, h⟩
theorem AW.exit {P : Program} {Q : Exit → St → Prop} {S : St} {id : Nat} (h : Q (.exit id) S) : AW P (.exit id) Q S :=
  fun φ w _ H T => wp_exit ⟨φ, S, Ext.refl φ, Keeps.refl _ w, H, rfl, T, h⟩
theorem AW.ret {P : Program} {Q : Exit → St → Prop} {S : St} (h : Q .ret S) : AW P .ret Q S :=
  fun φ w _ H T => wp_ret ⟨φ, S, Ext.refl φ, Keeps.refl _ w, H, rfl, T, h⟩

def InBlock (id : Nat) (Q : Exit → St → Prop) : Exit → St → Prop
  | .exit id', S => if id' = id then Q .normal S else Q (.exit id') S
  | e, S => Q e S

theorem AW.block {P : Program} {c : Code} {Q : Exit → St → Prop} {S : St} {id : Nat} (h : AW P c (InBlock id Q) S) : AW P (.block id c) Q S := by
  intro φ w a H T
  refine wp_block (Code.wp_mono ?_ (h φ w a H T))
  rintro e a' w' ⟨φ', S', h1, h2, h3, h4, h5, h6⟩
  cases e with
  | exit id' =>
    simp only [InBlock] at h6
    simp only [Exit.inBlock]
    split
    · rename_i e; rw [if_pos e] at h6; exact ⟨φ', S', h1, h2, h3, h4, h5, h6⟩
    · rename_i e; rw [if_neg e] at h6; exact ⟨φ', S', h1, h2, h3, h4, h5, h6⟩
  | _ => exact ⟨φ', S', h1, h2, h3, h4, h5, h6⟩

theorem AW.loop {P : Program} {c : Code} {Q : Exit → St → Prop} {S : St} {X : Type} (inv : X → St) (μ : X → Nat) (x0 : X) (h0 : GStep S (inv x0))
    (round : ∀ x, AW P c (Then (fun S' => ∃ x', GStep S' (inv x') ∧ μ x' < μ x) Q) (inv x)) : AW P (.loop c) Q S := by
  refine AW.ghost h0 ?_
  intro φ w a H T
  have hn : ∀ m, (inv x0).n = m → (Code.loop c).wp P (Lift φ (inv x0).h w m Q) a w := by
    intro m hm
    refine wp_loop_ghost (fun k a' w' => ∃ x φ', μ x = k ∧ Ext φ φ' ∧ Keeps (own φ (inv x0).h) w (own φ' (inv x).h) w' ∧ HR φ' w' (inv x).h ∧ (inv x).n = m ∧ TR φ' (own φ' (inv x).h) w' (inv x).n (inv x).tm a') (μ x0)
      ⟨x0, φ, rfl, Ext.refl φ, Keeps.refl _ w, H, hm, T⟩ ?_
    rintro k a' w' ⟨x, φ', rfl, h1, h2, h3, h4, h5⟩
    refine Code.wp_mono ?_ (round x φ' w' a' h3 h5)
    rintro e a'' w'' ⟨φ'', S', k1, k2, k3, k4, k5, k6⟩
    cases e with
    | normal =>
      obtain ⟨x', g, hlt⟩ := k6
      obtain ⟨φ3, e3, H3, T3, o3⟩ := g.2 φ'' w'' a'' k3 k5
      exact ⟨μ x', hlt, x', φ3, rfl, (h1.trans k1).trans e3, (h2.trans k2).trans (Keeps.less w'' o3), H3, by rw [← g.1, k4, h4], T3⟩
    | _ => exact ⟨φ'', S', h1.trans k1, h2.trans k2, k3, by rw [k4, h4], k5, k6⟩
  exact hn _ rfl

theorem VR.bool_inv {φ : Names} {B : Nat → Prop} {w : World} {b : Bool} {v : Value} (h : VR φ B w (.bool b) v) : v = .bool b := by cases h; rfl
theorem VR.int_inv {φ : Names} {B : Nat → Prop} {w : World} {k : IntKind} {n : Int} {v : Value} (h : VR φ B w (.int k n) v) : v = .int k n := by cases h; rfl

/-- A constant as a plain value. -/
def absV : Value → AV
  | .int k n => .int k n
  | .bool b => .bool b
  | .slice none 0 0 => .nils
  | .pointer none => .nilp
  | .nilFunc => .nilf
  | .nilIface => .nili
  | .agg vs => .agg (vs.toList.map absV1)
  | _ => .any
where absV1 : Value → AV
  | .int k n => .int k n
  | .bool b => .bool b
  | .slice none 0 0 => .nils
  | .pointer none => .nilp
  | .nilFunc => .nilf
  | .nilIface => .nili
  | _ => .any

theorem absV1_VR (φ : Names) (B : Nat → Prop) (w : World) (v : Value) : VR φ B w (absV.absV1 v) v := by
  unfold absV.absV1
  split <;> constructor

theorem absV_VR (φ : Names) (B : Nat → Prop) (w : World) (v : Value) : VR φ B w (absV v) v := by
  unfold absV
  split
  all_goals first
    | constructor
      done
    | skip
  rename_i vs
  refine .agg _ _ (by simp) ?_
  intro j u hu
  simp only [List.getElem?_map, Option.map_eq_some_iff] at hu
  obtain ⟨v, hv, rfl⟩ := hu
  have : vs.getD j undef = v := by simpa using congrArg (·.getD undef) hv
  rw [this]
  exact absV1_VR φ B w v

def ev (tm : Tm) : Operand → AV
  | .tmp t => get tm t
  | .const v => absV v
  | .func f => .clo f []
  | .global _ => .any

theorem TR.ev {φ : Names} {B : Nat → Prop} {w : World} {n : Nat} {tm : Tm} {a : Act} (h : TR φ B w n tm a) (x : Operand) : VR φ B w (ev tm x) (a.eval x) := by
  cases x with
  | tmp t => exact h.val t
  | const v => exact absV_VR φ B w v
  | func f => exact .clo f [] #[] rfl (by simp)
  | global g => exact .any _

theorem AW.cond {P : Program} {c : Operand} {x y : Code} {Q : Exit → St → Prop} {S : St} (b : Bool) (hb : ev S.tm c = .bool b) (h1 : b = true → AW P x Q S) (h2 : b = false → AW P y Q S) : AW P (.cond c x y) Q S := by
  intro φ w a H T
  have hv := T.ev c
  rw [hb] at hv
  refine wp_cond_split hv.bool_inv (fun e => h1 e φ w a H T) (fun e => h2 e φ w a H T)

end Go.Par
