/- Texts MaA MaB MaC MaD MaE MaF MaG MaH MaI, one behind another. -/
import Derived.RowKit3
import Derived.Laws.AppendOwn
import Derived.Laws.MakeOwn
import Derived.Deep.LoopGhost
import Derived.WalkKit
import Derived.Below
import Derived.Laws.Slices
import Derived.Laws.StructEq
import Derived.Laws.Cover3
import Derived.Laws.Small
import Derived.Lib.LazyBuf
namespace Go.Par

/-- Where an object lies: nowhere yet (a nil slice), or in a block of so many elements, or a map's; 'res': a name that is kept for one to come. -/
inductive Loc where
  | nil
  | res
  | blk (b cap : Nat)
  | mp (b : Nat)

/-- Plain values: 'ro': a slice that nobody writes any more (true: surely not nil); 'mu': a slice of an object; 'mus': one that begins later; 'mp': a map; 'ptr': into an object; 'rop': to cells that nobody writes any more. -/
inductive AV where
  | any
  | int (k : IntKind) (n : Int)
  | bool (b : Bool)
  | nils
  | ro (k : Bool) (xs : List AV)
  | mu (o n : Nat)
  | mus (o off n : Nat)
  | mp (o : Nat)
  | ptr (o off : Nat)
  | rop (cs : List AV)
  | nilp
  | agg (cs : List AV)
  | tup (vs : List AV)
  | clo (f : FuncId) (cap : List AV)
  | bnd (f : FuncId) (first : List AV)
  | nilf
  | ifc (t : TypeId) (v : AV)
  | nili
  deriving Inhabited

def AV.flat : AV → List AV
  | .agg cs => cs
  | v => [v]

def AV.one : AV → Bool
  | .agg _ | .tup _ | .any => false
  | _ => true

abbrev Names := Nat → Option Loc

inductive VR (φ : Names) (B : Nat → Prop) (w : World) : AV → Value → Prop where
  | any (v : Value) : VR φ B w .any v
  | int (k : IntKind) (n : Int) : VR φ B w (.int k n) (.int k n)
  | bool (b : Bool) : VR φ B w (.bool b) (.bool b)
  | nils : VR φ B w .nils (.slice none 0 0)
  | roNil (k : Bool) (a : Option Addr) (c : Nat) (ha : k = true → a.isSome = true) (hc : a = none → c = 0) : VR φ B w (.ro k []) (.slice a 0 c)
  | ro (k : Bool) (xs : List AV) (n b off c s : Nat) (f : Nat → Value) (hn : n = xs.length) (hc : n ≤ c) (hB : ¬ B b) (hb : b < w.heap.size)
      (hs : ∀ x ∈ xs, x.flat.length = s)
      (hcell : ∀ j u, (xs.flatMap AV.flat)[j]? = some u → w.cell? ⟨b, off + j, none⟩ = some (f j))
      (hval : ∀ j u, (xs.flatMap AV.flat)[j]? = some u → VR φ B w u (f j)) : VR φ B w (.ro k xs) (.slice (some ⟨b, off, none⟩) n c)
  | muN (o : Nat) (h : φ o = some .nil) : VR φ B w (.mu o 0) (.slice none 0 0)
  | mu (o n b cap : Nat) (h : φ o = some (.blk b cap)) (hn : n ≤ cap) : VR φ B w (.mu o n) (.slice (some ⟨b, 0, none⟩) n cap)
  | mus (o off n b cap c : Nat) (h : φ o = some (.blk b cap)) (hn : off + n ≤ cap) (hc : n ≤ c) : VR φ B w (.mus o off n) (.slice (some ⟨b, off, none⟩) n c)
  | mp (o b : Nat) (h : φ o = some (.mp b)) : VR φ B w (.mp o) (.map (some b))
  | ptr (o off b cap : Nat) (h : φ o = some (.blk b cap)) : VR φ B w (.ptr o off) (.pointer (some ⟨b, off, none⟩))
  | rop (cs : List AV) (b off : Nat) (f : Nat → Value) (hB : ¬ B b) (hb : b < w.heap.size)
      (hcell : ∀ j u, cs[j]? = some u → w.cell? ⟨b, off + j, none⟩ = some (f j))
      (hval : ∀ j u, cs[j]? = some u → VR φ B w u (f j)) : VR φ B w (.rop cs) (.pointer (some ⟨b, off, none⟩))
  | nilp : VR φ B w .nilp (.pointer none)
  | agg (cs : List AV) (vs : Array Value) (hl : cs.length = vs.size) (h : ∀ j u, cs[j]? = some u → VR φ B w u (vs.getD j undef)) : VR φ B w (.agg cs) (.agg vs)
  | tup (cs : List AV) (vs : Array Value) (hl : cs.length = vs.size) (h : ∀ j u, cs[j]? = some u → VR φ B w u (vs.getD j undef)) : VR φ B w (.tup cs) (.tuple vs)
  | clo (f : FuncId) (cs : List AV) (vs : Array Value) (hl : cs.length = vs.size) (h : ∀ j u, cs[j]? = some u → VR φ B w u (vs.getD j undef)) : VR φ B w (.clo f cs) (.func (.func f) #[] vs)
  | bnd (f : FuncId) (cs : List AV) (vs : Array Value) (hl : cs.length = vs.size) (h : ∀ j u, cs[j]? = some u → VR φ B w u (vs.getD j undef)) : VR φ B w (.bnd f cs) (.func (.func f) vs #[])
  | nilf : VR φ B w .nilf .nilFunc
  | ifc (t : TypeId) (u : AV) (v : Value) (h : VR φ B w u v) : VR φ B w (.ifc t u) (.iface t v)
  | nili : VR φ B w .nili .nilIface

def Ext (φ φ' : Names) : Prop := ∀ o l, φ o = some l → φ' o = some l
theorem Ext.refl (φ : Names) : Ext φ φ := fun _ _ h => h
theorem Ext.trans {φ φ' φ'' : Names} (h : Ext φ φ') (h' : Ext φ' φ'') : Ext φ φ'' := fun o l q => h' o l (h o l q)

/-- What is not an object's own stays as it is. -/
structure Keeps (B : Nat → Prop) (w : World) (B' : Nat → Prop) (w' : World) : Prop where
  os : w'.os = w.os
  tape : w'.tape = w.tape
  output : w'.output = w.output
  size : w.heap.size ≤ w'.heap.size
  block : ∀ b, b < w.heap.size → ¬ B b → ¬ B' b ∧ w'.heap[b]? = w.heap[b]?

theorem Keeps.refl (B : Nat → Prop) (w : World) : Keeps B w B w := ⟨rfl, rfl, rfl, Nat.le_refl _, fun _ _ h => ⟨h, rfl⟩⟩
theorem Keeps.trans {B B' B'' : Nat → Prop} {w w' w'' : World} (h : Keeps B w B' w') (k : Keeps B' w' B'' w'') : Keeps B w B'' w'' :=
  ⟨k.os.trans h.os, k.tape.trans h.tape, k.output.trans h.output, Nat.le_trans h.size k.size, fun b hb hB =>
    let ⟨h1, h2⟩ := h.block b hb hB
    let ⟨k1, k2⟩ := k.block b (Nat.lt_of_lt_of_le hb h.size) h1
    ⟨k1, k2.trans h2⟩⟩

theorem cell_of_block {w w' : World} {a : Addr} (h : w'.heap[a.block]? = w.heap[a.block]?) : w'.cell? a = w.cell? a := by simp [World.cell?, h]

/-- But for names that are kept. -/
def ExtW (φ φ' : Names) : Prop := ∀ o l, l ≠ .res → φ o = some l → φ' o = some l
theorem Ext.w {φ φ' : Names} (h : Ext φ φ') : ExtW φ φ' := fun o l _ q => h o l q

theorem VR.monoW {φ φ' : Names} {B B' : Nat → Prop} {w w' : World} {u : AV} {v : Value} (h : VR φ B w u v) (hφ : ExtW φ φ') (hk : Keeps B w B' w') : VR φ' B' w' u v := by
  induction h with
  | any v => exact .any v
  | int k n => exact .int k n
  | bool b => exact .bool b
  | nils => exact .nils
  | roNil k a c ha hc => exact .roNil k a c ha hc
  | ro k xs n b off c s f hn hc hB hb hs hcell _ ih =>
    obtain ⟨h1, h2⟩ := hk.block b hb hB
    exact .ro k xs n b off c s f hn hc h1 (Nat.lt_of_lt_of_le hb hk.size) hs (fun j u hu => (cell_of_block (a := ⟨b, off + j, none⟩) h2).trans (hcell j u hu)) ih
  | muN o h => exact .muN o (hφ _ _ (by simp) h)
  | mu o n b cap h hn => exact .mu o n b cap (hφ _ _ (by simp) h) hn
  | mus o off n b cap c h hn hc => exact .mus o off n b cap c (hφ _ _ (by simp) h) hn hc
  | mp o b h => exact .mp o b (hφ _ _ (by simp) h)
  | ptr o off b cap h => exact .ptr o off b cap (hφ _ _ (by simp) h)
  | rop cs b off f hB hb hcell _ ih =>
    obtain ⟨h1, h2⟩ := hk.block b hb hB
    exact .rop cs b off f h1 (Nat.lt_of_lt_of_le hb hk.size) (fun j u hu => (cell_of_block (a := ⟨b, off + j, none⟩) h2).trans (hcell j u hu)) ih
  | nilp => exact .nilp
  | agg cs vs hl _ ih => exact .agg cs vs hl ih
  | tup cs vs hl _ ih => exact .tup cs vs hl ih
  | clo f cs vs hl _ ih => exact .clo f cs vs hl ih
  | bnd f cs vs hl _ ih => exact .bnd f cs vs hl ih
  | nilf => exact .nilf
  | ifc t u v _ ih => exact .ifc t u v ih
  | nili => exact .nili

theorem VR.mono {φ φ' : Names} {B B' : Nat → Prop} {w w' : World} {u : AV} {v : Value} (h : VR φ B w u v) (hφ : Ext φ φ') (hk : Keeps B w B' w') : VR φ' B' w' u v := h.monoW hφ.w hk

structure Ob where
  cells : List AV
  ty : TypeId
  sz : Nat
  nn : Bool

abbrev Heap := Nat → Option Ob
def upd (h : Heap) (o : Nat) (x : Option Ob) : Heap := fun o' => if o' = o then x else h o'
theorem upd_same (h : Heap) (o : Nat) (x : Option Ob) : upd h o x o = x := by simp [upd]
theorem upd_ne (h : Heap) {o o' : Nat} (x : Option Ob) (hne : o' ≠ o) : upd h o x o' = h o' := by simp [upd, hne]

/-- The object lies in that block. -/
def lies (φ : Names) (o b cap : Nat) : Prop := φ o = some (.blk b cap) ∨ φ o = some (.mp b)
theorem lies.mono {φ φ' : Names} {o b cap : Nat} (h : lies φ o b cap) (e : ExtW φ φ') : lies φ' o b cap := h.elim (fun q => .inl (e _ _ (by simp) q)) fun q => .inr (e _ _ (by simp) q)
theorem lies.congr {φ φ' : Names} {o o' b cap : Nat} (h : lies φ o b cap) (e : φ' o' = φ o) : lies φ' o' b cap := by unfold lies at h ⊢; rw [e]; exact h
def own (φ : Names) (h : Heap) (b : Nat) : Prop := ∃ o cap, (h o).isSome = true ∧ lies φ o b cap

/-- A map's entry as one value: key and what it holds. -/
def entryV (es : Array MapEntry) (j : Nat) : Value := match es[j]? with | some e => .tuple #[e.key, e.val] | none => undef

def ObR (φ : Names) (B : Nat → Prop) (w : World) (x : Ob) : Loc → Prop
  | .nil => x.cells = [] ∧ x.nn = false
  | .res => False
  | .blk b cap => ∃ cur, w.heap[b]? = some (.cells cur x.ty (0, 0)) ∧ cur.size = cap * x.sz ∧ cap ≤ maxLen ∧ x.cells.length ≤ cur.size ∧ ∀ j u, x.cells[j]? = some u → VR φ B w u (cur.getD j undef)
  | .mp b => x.sz = 0 ∧ ∃ es clock, w.heap[b]? = some (.map es clock) ∧ x.cells.length = es.size ∧ ∀ j u, x.cells[j]? = some u → VR φ B w u (entryV es j)

theorem ObR.to {φ φ' : Names} {B B' : Nat → Prop} {w w' : World} {x : Ob} {l : Loc} (h : ObR φ B w x l) (hb : ∀ b, ((∃ c, l = .blk b c) ∨ l = .mp b) → w'.heap[b]? = w.heap[b]?) (hv : ∀ u v, VR φ B w u v → VR φ' B' w' u v) : ObR φ' B' w' x l := by
  cases l with
  | nil => exact h
  | res => exact h.elim
  | blk b cap => obtain ⟨cur, k1, k2, k3, k4, k5⟩ := h; exact ⟨cur, (hb b (.inl ⟨cap, rfl⟩)).trans k1, k2, k3, k4, fun j u hu => hv _ _ (k5 j u hu)⟩
  | mp b => obtain ⟨k0, es, c, k1, k2, k5⟩ := h; exact ⟨k0, es, c, (hb b (.inr rfl)).trans k1, k2, fun j u hu => hv _ _ (k5 j u hu)⟩
theorem ObR.weakM {φ φ' : Names} {B B' : Nat → Prop} {w : World} {x : Ob} {l : Loc} (h : ObR φ B w x l) (e : Ext φ φ') (k : Keeps B w B' w) : ObR φ' B' w x l := h.to (fun _ _ => rfl) fun _ _ V => V.mono e k
theorem ObR.weak {φ : Names} {B B' : Nat → Prop} {w : World} {x : Ob} {l : Loc} (h : ObR φ B w x l) (hv : ∀ u v, VR φ B w u v → VR φ B' w u v) : ObR φ B' w x l := h.to (fun _ _ => rfl) hv

structure HR (φ : Names) (w : World) (h : Heap) : Prop where
  ob : ∀ o x, h o = some x → ∃ l, φ o = some l ∧ ObR φ (own φ h) w x l
  inj : ∀ o o' b c c', (h o).isSome = true → (h o').isSome = true → lies φ o b c → lies φ o' b c' → o = o'
  free : ∃ N, ∀ o, N ≤ o → φ o = none

theorem HR.fresh {φ : Names} {w : World} {h : Heap} (H : HR φ w h) : ∃ o, φ o = none ∧ h o = none := by
  obtain ⟨N, hN⟩ := H.free
  refine ⟨N, hN N (Nat.le_refl _), ?_⟩
  cases hx : h N with
  | none => rfl
  | some x =>
    obtain ⟨l, hl, _⟩ := H.ob N x hx
    rw [hN N (Nat.le_refl _)] at hl
    cases hl

theorem HR.own_lt {φ : Names} {w : World} {h : Heap} (H : HR φ w h) {b : Nat} (hb : own φ h b) : b < w.heap.size := by
  obtain ⟨o, cap, ho, hl⟩ := hb
  obtain ⟨x, hx⟩ := Option.isSome_iff_exists.1 ho
  obtain ⟨l, hl', hr⟩ := H.ob o x hx
  rcases hl with hl | hl
  · rw [hl] at hl'
    cases hl'
    obtain ⟨cur, hcur, _⟩ := hr
    exact (Array.getElem?_eq_some_iff.1 hcur).1
  · rw [hl] at hl'
    cases hl'
    obtain ⟨_, es, clock, hcur, _⟩ := hr
    exact (Array.getElem?_eq_some_iff.1 hcur).1

abbrev Tm := List (Nat × AV)
def get : Tm → Nat → AV
  | [], _ => .any
  | (d, v) :: l, t => if d = t then v else get l t

structure St where
  n : Nat
  tm : Tm
  h : Heap

structure TR (φ : Names) (B : Nat → Prop) (w : World) (n : Nat) (tm : Tm) (a : Act) : Prop where
  defers : a.defers = []
  size : a.tmps.size = n
  val : ∀ t, VR φ B w (get tm t) (a.tmps.getD t undef)

theorem TR.monoW {φ φ' : Names} {B B' : Nat → Prop} {w w' : World} {n : Nat} {tm : Tm} {a : Act} (h : TR φ B w n tm a) (hφ : ExtW φ φ') (hk : Keeps B w B' w') : TR φ' B' w' n tm a :=
  ⟨h.defers, h.size, fun t => (h.val t).monoW hφ hk⟩

theorem TR.mono {φ φ' : Names} {B B' : Nat → Prop} {w w' : World} {n : Nat} {tm : Tm} {a : Act} (h : TR φ B w n tm a) (hφ : Ext φ φ') (hk : Keeps B w B' w') : TR φ' B' w' n tm a :=
  ⟨h.defers, h.size, fun t => (h.val t).mono hφ hk⟩

theorem TR.put {φ : Names} {B : Nat → Prop} {w : World} {n : Nat} {tm : Tm} {a : Act} (h : TR φ B w n tm a) {d : Nat} (hd : d < n) {u : AV} {v : Value} (hv : VR φ B w u v) : TR φ B w n ((d, u) :: tm) (a.put (some d) v) := by
  refine ⟨h.defers, by simp [Act.put, h.size], fun t => ?_⟩
  simp only [get, Act.put]
  by_cases e : d = t
  · subst e
    rw [if_pos rfl]
    simp [h.size, hd, hv]
  · rw [if_neg e]
    simpa [Array.getElem?_setIfInBounds_ne e] using h.val t

theorem TR.put_none {φ : Names} {B : Nat → Prop} {w : World} {n : Nat} {tm : Tm} {a : Act} (h : TR φ B w n tm a) (v : Value) : TR φ B w n tm (a.put none v) := h

/-- Two states of one world: what is told by the one is told by the other, too. -/
def GStep (S S' : St) : Prop := S.n = S'.n ∧ ∀ φ w a, HR φ w S.h → TR φ (own φ S.h) w S.n S.tm a →
  ∃ φ', Ext φ φ' ∧ HR φ' w S'.h ∧ TR φ' (own φ' S'.h) w S'.n S'.tm a ∧ ∀ b, own φ' S'.h b → own φ S.h b

theorem GStep.refl (S : St) : GStep S S := ⟨rfl, fun φ _ _ h t => ⟨φ, Ext.refl φ, h, t, fun _ q => q⟩⟩
theorem GStep.trans {S S' S'' : St} (h : GStep S S') (k : GStep S' S'') : GStep S S'' :=
  ⟨h.1.trans k.1, fun φ w a H T =>
    let ⟨φ', e, H', T', o⟩ := h.2 φ w a H T
    let ⟨φ'', e', H'', T'', o'⟩ := k.2 φ' w a H' T'
    ⟨φ'', e.trans e', H'', T'', fun b q => o b (o' b q)⟩⟩

theorem Keeps.less {B B' : Nat → Prop} (w : World) (h : ∀ b, B' b → B b) : Keeps B w B' w := ⟨rfl, rfl, rfl, Nat.le_refl _, fun b _ hB => ⟨fun q => hB (h b q), rfl⟩⟩

def Lift (φ : Names) (h : Heap) (w : World) (n : Nat) (Q : Exit → St → Prop) : Exit → Act → World → Prop := fun e a' w' =>
  ∃ φ' S', Ext φ φ' ∧ Keeps (own φ h) w (own φ' S'.h) w' ∧ HR φ' w' S'.h ∧ S'.n = n ∧ TR φ' (own φ' S'.h) w' S'.n S'.tm a' ∧ Q e S'

def AW (P : Program) (c : Code) (Q : Exit → St → Prop) (S : St) : Prop :=
  ∀ φ w a, HR φ w S.h → TR φ (own φ S.h) w S.n S.tm a → c.wp P (Lift φ S.h w S.n Q) a w

theorem AW.mono {P : Program} {c : Code} {Q Q' : Exit → St → Prop} {S : St} (h : AW P c Q S) (hq : ∀ e S, Q e S → Q' e S) : AW P c Q' S :=
  fun φ w a H T => Code.wp_mono (fun _ _ _ ⟨φ', S', h1, h2, h3, h4, h5, h6⟩ => ⟨φ', S', h1, h2, h3, h4, h5, hq _ _ h6⟩) (h φ w a H T)

theorem Lift.trans {φ φ' : Names} {h h' : Heap} {w w' : World} {n : Nat} {Q : Exit → St → Prop} {e : Exit} {a : Act} {W : World} (hφ : Ext φ φ') (hk : Keeps (own φ h) w (own φ' h') w')
    (H : Lift φ' h' w' n Q e a W) : Lift φ h w n Q e a W := by
  obtain ⟨φ'', S', h1, h2, h3, h4, h5, h6⟩ := H
  exact ⟨φ'', S', hφ.trans h1, hk.trans h2, h3, h4, h5, h6⟩

theorem AW.ghost {P : Program} {c : Code} {Q : Exit → St → Prop} {S S' : St} (g : GStep S S') (h : AW P c Q S') : AW P c Q S := by
  intro φ w a H T
  obtain ⟨φ', e, H', T', o⟩ := g.2 φ w a H T
  have := h φ' w a H' T'
  rw [← g.1] at this
  exact Code.wp_mono (fun _ _ _ q => Lift.trans e (Keeps.less w o) q) this

/-- What stands behind. -/
def Then (K : St → Prop) (Q : Exit → St → Prop) : Exit → St → Prop
  | .normal, S => K S
  | e, S => Q e S

theorem AW.seq {P : Program} {x y : Code} {Q : Exit → St → Prop} {S : St} (h : ∀ K : St → Prop, (∀ S', AW P y Q S' → K S') → AW P x (Then K Q) S) : AW P (.seq x y) Q S := by
  intro φ w a H T
  refine wp_seq (Code.wp_mono ?_ (h (AW P y Q) (fun _ q => q) φ w a H T))
  rintro e a' w' ⟨φ', S', h1, h2, h3, h4, h5, h6⟩
  cases e with
  | normal =>
    have := h6 φ' w' a' h3 h5
    rw [h4] at this
    exact Code.wp_mono (fun _ _ _ q => Lift.trans h1 h2 q) this
  | _ => exact ⟨φ', S', h1, h2, h3, h4, h5, h6⟩

theorem AW.skip {P : Program} {Q : Exit → St → Prop} {S : St} (h : Q .normal S) : AW P .skip Q S :=
  fun φ w _ H T => wp_skip ⟨φ, S, Ext.refl φ, Keeps.refl _ w, H, rfl, T, h⟩
theorem AW.exit {P : Program} {Q : Exit → St → Prop} {S : St} {id : Nat} (h : Q (.exit id) S) : AW P (.exit id) Q S :=
  fun φ w _ H T => wp_exit ⟨φ, S, Ext.refl φ, Keeps.refl _ w, H, rfl, T, h⟩
theorem AW.ret {P : Program} {Q : Exit → St → Prop} {S : St} (h : Q .ret S) : AW P .ret Q S :=
  fun φ w _ H T => wp_ret ⟨φ, S, Ext.refl φ, Keeps.refl _ w, H, rfl, T, h⟩

def InBlock (id : Nat) (Q : Exit → St → Prop) : Exit → St → Prop
  | .exit id', S => if id' = id then Q .normal S else Q (.exit id') S
  | e, S => Q e S

theorem AW.block {P : Program} {c : Code} {Q : Exit → St → Prop} {S : St} {id : Nat} (h : AW P c (InBlock id Q) S) : AW P (.block id c) Q S := by
  intro φ w a H T
  refine wp_block (Code.wp_mono ?_ (h φ w a H T))
  rintro e a' w' ⟨φ', S', h1, h2, h3, h4, h5, h6⟩
  cases e with
  | exit id' =>
    simp only [InBlock] at h6
    simp only [Exit.inBlock]
    split
    · rename_i e; rw [if_pos e] at h6; exact ⟨φ', S', h1, h2, h3, h4, h5, h6⟩
    · rename_i e; rw [if_neg e] at h6; exact ⟨φ', S', h1, h2, h3, h4, h5, h6⟩
  | _ => exact ⟨φ', S', h1, h2, h3, h4, h5, h6⟩

theorem AW.loop {P : Program} {c : Code} {Q : Exit → St → Prop} {S : St} {X : Type} (inv : X → St) (μ : X → Nat) (x0 : X) (h0 : GStep S (inv x0))
    (round : ∀ x, AW P c (Then (fun S' => ∃ x', GStep S' (inv x') ∧ μ x' < μ x) Q) (inv x)) : AW P (.loop c) Q S := by
  refine AW.ghost h0 ?_
  intro φ w a H T
  have hn : ∀ m, (inv x0).n = m → (Code.loop c).wp P (Lift φ (inv x0).h w m Q) a w := by
    intro m hm
    refine wp_loop_ghost (fun k a' w' => ∃ x φ', μ x = k ∧ Ext φ φ' ∧ Keeps (own φ (inv x0).h) w (own φ' (inv x).h) w' ∧ HR φ' w' (inv x).h ∧ (inv x).n = m ∧ TR φ' (own φ' (inv x).h) w' (inv x).n (inv x).tm a') (μ x0)
      ⟨x0, φ, rfl, Ext.refl φ, Keeps.refl _ w, H, hm, T⟩ ?_
    rintro k a' w' ⟨x, φ', rfl, h1, h2, h3, h4, h5⟩
    refine Code.wp_mono ?_ (round x φ' w' a' h3 h5)
    rintro e a'' w'' ⟨φ'', S', k1, k2, k3, k4, k5, k6⟩
    cases e with
    | normal =>
      obtain ⟨x', g, hlt⟩ := k6
      obtain ⟨φ3, e3, H3, T3, o3⟩ := g.2 φ'' w'' a'' k3 k5
      exact ⟨μ x', hlt, x', φ3, rfl, (h1.trans k1).trans e3, (h2.trans k2).trans (Keeps.less w'' o3), H3, by rw [← g.1, k4, h4], T3⟩
    | _ => exact ⟨φ'', S', h1.trans k1, h2.trans k2, k3, by rw [k4, h4], k5, k6⟩
  exact hn _ rfl

theorem VR.bool_inv {φ : Names} {B : Nat → Prop} {w : World} {b : Bool} {v : Value} (h : VR φ B w (.bool b) v) : v = .bool b := by cases h; rfl
theorem VR.int_inv {φ : Names} {B : Nat → Prop} {w : World} {k : IntKind} {n : Int} {v : Value} (h : VR φ B w (.int k n) v) : v = .int k n := by cases h; rfl

/-- A constant as a plain value. -/
def absV : Value → AV
  | .int k n => .int k n
  | .bool b => .bool b
  | .slice none 0 0 => .nils
  | .pointer none => .nilp
  | .nilFunc => .nilf
  | .nilIface => .nili
  | .agg vs => .agg (vs.toList.map absV1)
  | _ => .any
where absV1 : Value → AV
  | .int k n => .int k n
  | .bool b => .bool b
  | .slice none 0 0 => .nils
  | .pointer none => .nilp
  | .nilFunc => .nilf
  | .nilIface => .nili
  | _ => .any

theorem absV1_VR (φ : Names) (B : Nat → Prop) (w : World) (v : Value) : VR φ B w (absV.absV1 v) v := by
  unfold absV.absV1
  split <;> constructor

theorem absV_VR (φ : Names) (B : Nat → Prop) (w : World) (v : Value) : VR φ B w (absV v) v := by
  unfold absV
  split
  all_goals first
    | constructor
      done
    | skip
  rename_i vs
  refine .agg _ _ (by simp) ?_
  intro j u hu
  simp only [List.getElem?_map, Option.map_eq_some_iff] at hu
  obtain ⟨v, hv, rfl⟩ := hu
  have : vs.getD j undef = v := by simpa using congrArg (·.getD undef) hv
  rw [this]
  exact absV1_VR φ B w v

def ev (tm : Tm) : Operand → AV
  | .tmp t => get tm t
  | .const v => absV v
  | .func f => .clo f []
  | .global _ => .any

theorem TR.ev {φ : Names} {B : Nat → Prop} {w : World} {n : Nat} {tm : Tm} {a : Act} (h : TR φ B w n tm a) (x : Operand) : VR φ B w (ev tm x) (a.eval x) := by
  cases x with
  | tmp t => exact h.val t
  | const v => exact absV_VR φ B w v
  | func f => exact .clo f [] #[] rfl (by simp)
  | global g => exact .any _

theorem AW.cond {P : Program} {c : Operand} {x y : Code} {Q : Exit → St → Prop} {S : St} (b : Bool) (hb : ev S.tm c = .bool b) (h1 : b = true → AW P x Q S) (h2 : b = false → AW P y Q S) : AW P (.cond c x y) Q S := by
  intro φ w a H T
  have hv := T.ev c
  rw [hb] at hv
  refine wp_cond_split hv.bool_inv (fun e => h1 e φ w a H T) (fun e => h2 e φ w a H T)

end Go.Par

namespace Go.Par

inductive Sh where
  | prim
  | bool
  | int (k : IntKind)
  | slice (e : TypeId)
  | map (k e : TypeId)
  | struct (fs : List (Nat × Nat × TypeId))
  | arr (n : Nat) (e : TypeId)
  deriving Inhabited

/-- What is told of a type. -/
structure TD where
  sh : Sh
  size : Nat
  bytes : Nat
  zero : Value

def Sh.agg : Sh → Bool
  | .struct _ | .arr _ _ => true
  | _ => false

def Sh.ok (P : Program) (t : TypeId) : Sh → Prop
  | .prim => (P.underlying t).any (fun d => match d with | .struct _ | .array _ _ => false | _ => true) = true
  | .bool => P.underlying t = some .bool
  | .int k => P.underlying t = some (.int k)
  | .slice e => P.underlying t = some (.slice e)
  | .map k e => P.underlying t = some (.map k e)
  | .struct fs => ∃ l, P.underlying t = some (.struct l) ∧ l.toList.map (fun f => (f.offset, (P.info? f.type).map (·.size), f.type)) = fs.map (fun f => (f.1, some f.2.1, f.2.2))
  | .arr n e => P.underlying t = some (.array n e)

def TD.ok (P : Program) (t : TypeId) (d : TD) : Prop :=
  (∃ i, P.info? t = some i ∧ i.size = d.size ∧ i.bytes = d.bytes ∧ i.zero = some d.zero) ∧ d.sh.ok P t

abbrev Types := Nat → Option TD
def Types.ok (Θ : Types) (P : Program) : Prop := ∀ t d, Θ t = some d → d.ok P t

def AV.known : AV → Bool
  | .any => false
  | _ => true

section facts
variable {φ : Names} {B : Nat → Prop} {w : World}

theorem VR.flat {u : AV} {v : Value} (h : VR φ B w u v) (hk : u.known = true) : u.flat.length = v.cells.size ∧ ∀ j c, u.flat[j]? = some c → VR φ B w c (v.cells.getD j undef) := by
  have one : ∀ (u : AV) (v : Value), VR φ B w u v → ([u] : List AV).length = (#[v] : Array Value).size ∧ ∀ j c, ([u] : List AV)[j]? = some c → VR φ B w c ((#[v] : Array Value).getD j undef) := by
    intro u v h
    refine ⟨rfl, ?_⟩
    intro j c hc
    cases j with
    | zero => simp at hc; subst hc; simpa using h
    | succ j => simp at hc
  cases h with
  | any => simp [AV.known] at hk
  | agg cs vs hl h => exact ⟨hl, h⟩
  | _ => refine one _ _ ?_; first | (constructor <;> assumption) | (constructor; done)

theorem VR.oneCell {u : AV} {v : Value} (h : VR φ B w u v) (hk : u.one = true) : v.oneCell' = true := by
  cases h <;> first | rfl | (simp [AV.one] at hk)

theorem VR.weaken {B' : Nat → Prop} {u : AV} {v : Value} (h : VR φ B w u v) (hB : ∀ b, B' b → B b) : VR φ B' w u v :=
  h.mono (Ext.refl φ) (Keeps.less w hB)

end facts

theorem HR.same {φ : Names} {w w' : World} {h : Heap} (H : HR φ w h) (hs : w.heap.size ≤ w'.heap.size) (hb : ∀ b, b < w.heap.size → w'.heap[b]? = w.heap[b]?) (ho : w'.os = w.os) (ht : w'.tape = w.tape) (hp : w'.output = w.output) : HR φ w' h := by
  have hk : Keeps (own φ h) w (own φ h) w' := ⟨ho, ht, hp, hs, fun b hl hB => ⟨hB, hb b hl⟩⟩
  refine ⟨fun o x hx => ?_, H.inj, H.free⟩
  obtain ⟨l, hl, hr⟩ := H.ob o x hx
  refine ⟨l, hl, ?_⟩
  cases l with
  | nil => exact hr
  | res => exact hr.elim
  | blk b cap =>
    obtain ⟨cur, h1, h2, h3, h4, h5⟩ := hr
    exact ⟨cur, (hb b (Array.getElem?_eq_some_iff.1 h1).1).trans h1, h2, h3, h4, fun j u hu => (h5 j u hu).mono (Ext.refl φ) hk⟩
  | mp b =>
    obtain ⟨h0, es, c, h1, h2, h5⟩ := hr
    exact ⟨h0, es, c, (hb b (Array.getElem?_eq_some_iff.1 h1).1).trans h1, h2, fun j u hu => (h5 j u hu).mono (Ext.refl φ) hk⟩

theorem Keeps.alloc (B : Nat → Prop) (w : World) (o : Obj) : Keeps B w B (w.alloc o) :=
  ⟨rfl, rfl, rfl, by simp, fun b hb hB => ⟨hB, RowKit.Below.heap_alloc w o b hb⟩⟩

theorem HR.alloc {φ : Names} {w : World} {h : Heap} (H : HR φ w h) (o : Obj) : HR φ (w.alloc o) h :=
  H.same (by simp) (fun b hb => RowKit.Below.heap_alloc w o b hb) rfl rfl rfl

/-- The operation yields 'v', and leaves all objects as they are. -/
def OpRun (P : Program) (o : Oper) (φ : Names) (h : Heap) (w : World) (a : Act) (v : AV) : Prop :=
  ∀ (next : Act → World → Prop) (Q : Exit → Act → World → Prop),
    (∀ φ' w' x, Ext φ φ' → Keeps (own φ h) w (own φ' h) w' → HR φ' w' h → VR φ' (own φ' h) w' v x → next (a.put o.dst x) w') → o.wp P a w next Q

theorem OpRun.same {P : Program} {o : Oper} {φ : Names} {h : Heap} {w : World} {a : Act} {v : AV} {x : Value} (H : HR φ w h)
    (hr : (execOp a.eval o).run P w = .ok (.value x) w) (hv : VR φ (own φ h) w v x) : OpRun P o φ h w a v := by
  intro next Q hn
  unfold Oper.wp
  rw [hr]
  exact hn φ w x (Ext.refl φ) (Keeps.refl _ w) H hv

theorem OpRun.alloc {P : Program} {o : Oper} {φ : Names} {h : Heap} {w : World} {a : Act} {v : AV} {x : Value} {ob : Obj} (H : HR φ w h)
    (hr : (execOp a.eval o).run P w = .ok (.value x) (w.alloc ob)) (hv : VR φ (own φ h) (w.alloc ob) v x) : OpRun P o φ h w a v := by
  intro next Q hn
  unfold Oper.wp
  rw [hr]
  exact hn φ _ x (Ext.refl φ) (Keeps.alloc _ w ob) (H.alloc ob) hv

/-- A new block that nobody will write. -/
theorem VR.new_rop {φ : Names} {h : Heap} {w : World} (H : HR φ w h) (t : TypeId) (cs : List AV) (vs : Array Value) (hl : cs.length = vs.size) (hv : ∀ j u, cs[j]? = some u → VR φ (own φ h) w u (vs.getD j undef)) :
    VR φ (own φ h) (w.alloc (.cells vs t)) (.rop cs) (.pointer (some ⟨w.heap.size, 0, none⟩)) := by
  refine .rop cs w.heap.size 0 (fun j => vs.getD j undef) (fun hb => Nat.lt_irrefl _ (H.own_lt hb)) (by simp) ?_ (fun j u hu => (hv j u hu).mono (Ext.refl φ) (Keeps.alloc _ w _))
  intro j u hu
  have hj : j < vs.size := by rw [← hl]; exact (List.getElem?_eq_some_iff.1 hu).1
  have := World.cell?_alloc_new w vs t j
  simp only [Nat.zero_add]
  rw [this]
  simp [hj]

theorem VR.new_ro {φ : Names} {h : Heap} {w : World} (H : HR φ w h) (t : TypeId) (k : Bool) (xs : List AV) (vs : Array Value) (s n : Nat) (hn : n = xs.length) (hs : ∀ x ∈ xs, x.flat.length = s) (hl : (xs.flatMap AV.flat).length = vs.size)
    (hv : ∀ j u, (xs.flatMap AV.flat)[j]? = some u → VR φ (own φ h) w u (vs.getD j undef)) (c : Nat) (hc : n ≤ c) :
    VR φ (own φ h) (w.alloc (.cells vs t)) (.ro k xs) (.slice (some ⟨w.heap.size, 0, none⟩) n c) := by
  refine .ro k xs n w.heap.size 0 c s (fun j => vs.getD j undef) hn hc (fun hb => Nat.lt_irrefl _ (H.own_lt hb)) (by simp) hs ?_ (fun j u hu => (hv j u hu).mono (Ext.refl φ) (Keeps.alloc _ w _))
  intro j u hu
  have hj : j < vs.size := by rw [← hl]; exact (List.getElem?_eq_some_iff.1 hu).1
  have := World.cell?_alloc_new w vs t j
  simp only [Nat.zero_add]
  rw [this]
  simp [hj]

/-- Calls that leave all objects as they are, and hand back one value. -/
def Enters (P : Program) (f : FuncId) : Prop := ∀ args w, (callFunc f args).run P w = .ok (.enter f args) w

def VRs (φ : Names) (B : Nat → Prop) (w : World) (us : List AV) (vs : Array Value) : Prop := us.length = vs.size ∧ ∀ j u, us[j]? = some u → VR φ B w u (vs.getD j undef)

def AC (P : Program) (f : FuncId) (us : List AV) (h : Heap) (Q : AV → Heap → Prop) : Prop :=
  Enters P f ∧ ∀ φ w vs, HR φ w h → VRs φ (own φ h) w us vs → Calls P f vs w fun e w' =>
    ∃ φ' h' r v, Ext φ φ' ∧ Keeps (own φ h) w (own φ' h') w' ∧ HR φ' w' h' ∧ e = .returned v ∧ VR φ' (own φ' h') w' r v ∧ Q r h'

theorem AC.mono {P : Program} {f : FuncId} {us : List AV} {h : Heap} {Q Q' : AV → Heap → Prop} (H : AC P f us h Q) (hq : ∀ r h', Q r h' → Q' r h') : AC P f us h Q' :=
  ⟨H.1, fun φ w vs h1 h2 => (H.2 φ w vs h1 h2).mono fun _ _ ⟨φ', h', r, v, a, b, c, d, e, g⟩ => ⟨φ', h', r, v, a, b, c, d, e, hq r h' g⟩⟩

def Pure (P : Program) (f : FuncId) (us : List AV) (r : AV) : Prop := ∀ h, AC P f us h fun r' h' => r' = r ∧ h' = h

theorem Pure.ac {P : Program} {f : FuncId} {us : List AV} {r : AV} {h : Heap} {Q : AV → Heap → Prop} (H : Pure P f us r) (hq : Q r h) : AC P f us h Q :=
  (H h).mono fun r' h' ⟨e, e'⟩ => by subst e; subst e'; exact hq

/-- Cells written one behind another. -/
def setAt (cs : List AV) (off : Nat) : List AV → List AV
  | [] => cs
  | v :: vs => setAt (cs.set off v) (off + 1) vs

def fillA (place : Nat → Option (Nat × Nat)) (cs : List AV) : List (Nat × AV) → Option (List AV)
  | [] => some cs
  | (i, v) :: r =>
    match place i with
    | none => none
    | some (off, size) => if v.known = true ∧ v.flat.length = size ∧ off + size ≤ cs.length then fillA place (setAt cs off v.flat) r else none

def lenA : AV → Option Nat
  | .nils => some 0
  | .ro _ xs => some xs.length
  | .mu _ n => some n
  | _ => none

def cmpA : BinOp → Int → Int → Option Bool
  | .eql, a, b => some (a == b)
  | .neq, a, b => some (a != b)
  | .lss, a, b => some (a < b)
  | .leq, a, b => some (a ≤ b)
  | .gtr, a, b => some (a > b)
  | .geq, a, b => some (a ≥ b)
  | _, _, _ => none

/-- Whole numbers, of plain cells. -/
def intsA : List AV → Option (List Int)
  | [] => some []
  | .int .i64 a :: l => (intsA l).map (a :: ·)
  | _ :: _ => none
def eqFs (P : Program) : Nat → List Field → Bool
  | _, [] => true
  | i, f :: fs => f.name != "_" && f.offset == i && (match P.underlying f.type with | some (.int _) => true | _ => false) && eqFs P (i + 1) fs
/-- A struct of so many whole numbers, which can be compared. -/
def eqTy (P : Program) (t : TypeId) (n : Nat) : Bool :=
  (match P.underlying t with | some (.struct _) => true | _ => false) && (P.fieldsOf t).toList.length == n && eqFs P 0 (P.fieldsOf t).toList && !P.stoodInHeld t && !P.eqGuardType P.depth t
def eqA (P : Program) (op : BinOp) (t : TypeId) (as bs : List AV) (k : AV → Prop) : Prop :=
  match op, intsA as, intsA bs with
  | .eql, some la, some lb => la.length = lb.length ∧ eqTy P t la.length = true ∧ k (.bool (decide (la = lb)))
  | _, _, _ => False

/-- Bits, as the machine has them. -/
def andI (q : IntKind) (a b : Int) : Int := q.wrap ((BitVec.ofInt q.bits a &&& BitVec.ofInt q.bits b).toNat : Int)
def shrI (q : IntKind) (a b : Int) : Int := a.fdiv (2 ^ (min b.toNat q.bits))
def binA (P : Program) (Θ : Types) (op : BinOp) (t : TypeId) (x y : AV) (k : AV → Prop) : Prop :=
  match x, y with
  | .int q a, .int q' b => q = q' ∧
    match op with
    | .add => k (.int q (q.wrap (a + b)))
    | .sub => k (.int q (q.wrap (a - b)))
    | .mul => k (.int q (q.wrap (a * b)))
    | .quo => b ≠ 0 ∧ k (.int q (q.wrap (a.tdiv b)))
    | .rem => b ≠ 0 ∧ k (.int q (a.tmod b))
    | .eql => k (.bool (a == b))
    | .neq => k (.bool (a != b))
    | .lss => k (.bool (a < b))
    | .leq => k (.bool (a ≤ b))
    | .gtr => k (.bool (a > b))
    | .geq => k (.bool (a ≥ b))
    | .and => k (.int q (andI q a b))
    | .shr => 0 ≤ b ∧ k (.int q (shrI q a b))
    | _ => False
  | .bool a, .bool b =>
    match Θ t with
    | some ⟨.bool, _, _, _⟩ =>
      match op with
      | .eql => k (.bool (a == b))
      | .neq => k (.bool (a != b))
      | _ => False
    | _ => False
  | .nils, .nils | .ro true _, .nils =>
    match Θ t with
    | some ⟨.slice _, _, _, _⟩ =>
      match op with
      | .eql => k (.bool (match x with | .nils => true | _ => false))
      | .neq => k (.bool (match x with | .nils => false | _ => true))
      | _ => False
    | _ => False
  | .agg as, .agg bs => eqA P op t as bs k
  | _, _ => False

def loadA (Θ : Types) (t : TypeId) (cs : List AV) (k : AV → Prop) : Prop :=
  match Θ t with
  | none => False
  | some d => if d.sh.agg then d.size ≤ cs.length ∧ k (.agg (cs.take d.size)) else match cs with | c :: _ => k c | [] => False

def callA (P : Program) (f : AV) (args : List AV) (k : AV → Prop) : Prop :=
  match f with
  | .clo f cap => ∃ r, Pure P f (args ++ cap) r ∧ k r
  | .bnd f first => ∃ r, Pure P f (first ++ args) r ∧ k r
  | _ => False

def pOp (P : Program) (Θ : Types) (ρ : Operand → AV) (h : Heap) (o : Op) (k : AV → Prop) : Prop :=
  match o with
  | .move x | .assign x => k (ρ x)
  | .pick c a b => match ρ c with | .bool t => k (if t then ρ a else ρ b) | _ => False
  | .box _ x => (ρ x).known = true ∧ k (.rop (ρ x).flat)
  | .alloc t => match Θ t with | some d => (absV d.zero).known = true ∧ k (.rop (absV d.zero).flat) | none => False
  | .build t parts =>
    match Θ t with
    | some ⟨.struct fs, _, _, z⟩ => match fillA (fun i => (fs[i]?).map fun p => (p.1, p.2.1)) (absV z).flat (parts.toList.map fun p => (p.1, ρ p.2)) with | some cs => (absV z).known = true ∧ k (.agg cs) | none => False
    | some ⟨.arr _ e, _, _, z⟩ =>
      match Θ e with
      | some d => match fillA (fun i => some (i * d.size, d.size)) (absV z).flat (parts.toList.map fun p => (p.1, ρ p.2)) with | some cs => (absV z).known = true ∧ k (.agg cs) | none => False
      | none => False
    | _ => False
  | .index t x i =>
    match Θ t, ρ x, ρ i with
    | some ⟨.arr m e, _, _, _⟩, .agg cs, .int _ n =>
      match Θ e with
      | some d => (0 ≤ n ∧ n < m) ∧ loadA Θ e (cs.drop (n.toNat * d.size)) k
      | none => False
    | _, _, _ => False
  | .buildSlice t n parts =>
    match Θ t with
    | some ⟨.slice e, _, _, _⟩ =>
      match Θ e with
      | some d => parts.toList.map Prod.fst = List.range n ∧ n * d.size ≤ 16777216 ∧ (∀ p ∈ parts.toList, (ρ p.2).known = true ∧ (ρ p.2).flat.length = d.size) ∧
          k (.ro true (parts.toList.map fun p => ρ p.2))
      | none => False
    | _ => False
  | .load t x =>
    match ρ x with
    | .rop cs => loadA Θ t cs k
    | .ptr o off => match h o with | some ob => loadA Θ t (ob.cells.drop off) k | none => False
    | _ => False
  | .binOp op t x y _ => binA P Θ op t (ρ x) (ρ y) k
  | .unOp op _ x =>
    match op, ρ x with
    | .not, .bool b => k (.bool !b)
    | .neg, .int q n => k (.int q (q.wrap (0 - n)))
    | _, _ => False
  | .convert src dst x =>
    match Θ src, Θ dst, ρ x with
    | some _, some ⟨.int q, _, _, _⟩, .int _ n => k (.int q (q.wrap n))
    | _, _, _ => False
  | .makeFunc (.func f) first captured => if first.size = 0 then k (.clo f (captured.toList.map (ρ))) else if captured.size = 0 then k (.bnd f (first.toList.map (ρ))) else False
  | .makeSlice t l c =>
    match Θ t, ρ l, ρ c with
    | some ⟨.slice e, _, _, _⟩, .int _ n, .int _ m =>
      match Θ e with
      | some d => n = m ∧ 0 ≤ n ∧ (d.bytes : Int) * n ≤ 140737488355328 ∧ n ≤ 140737488355328 ∧ (absV d.zero).known = true ∧ (absV d.zero).flat.length = d.size ∧ k (.ro true (List.replicate n.toNat (absV d.zero)))
      | none => False
    | _, _, _ => False
  | .slice t x lo hi mx =>
    match Θ t with
    | some ⟨.slice e, _, _, _⟩ =>
      match Θ e with
      | some d =>
        if mx.isSome then False else
        match ρ x, lo.map ρ, hi.map ρ with
        | .ro q xs, none, none => k (.ro q xs)
        | .ro q xs, some (.int _ a), none => 0 ≤ a ∧ a ≤ xs.length ∧ (∀ y ∈ xs, y.flat.length = d.size) ∧ k (.ro q (xs.drop a.toNat))
        | .ro q xs, none, some (.int _ b) => 0 ≤ b ∧ b ≤ xs.length ∧ (∀ y ∈ xs, y.flat.length = d.size) ∧ k (.ro q (xs.take b.toNat))
        | .ro q xs, some (.int _ a), some (.int _ b) => 0 ≤ a ∧ a ≤ b ∧ b ≤ xs.length ∧ (∀ y ∈ xs, y.flat.length = d.size) ∧ k (.ro q ((xs.take b.toNat).drop a.toNat))
        | .mu o n, none, some (.int _ b) => 0 ≤ b ∧ b ≤ n ∧ 0 < n ∧ k (.mu o b.toNat)
        | .mu o n, some (.int _ a), none => 0 ≤ a ∧ a < n ∧ d.size = 1 ∧ k (.mus o a.toNat (n - a.toNat))
        | _, _, _ => False
      | none => False
    | some ⟨.arr m e, _, _, _⟩ =>
      match Θ e, ρ x with
      | some d, .rop cs => (mx.isSome = false ∧ lo.isSome = false ∧ hi.isSome = false ∧ d.size = 1 ∧ m ≤ cs.length ∧ ∀ y ∈ cs.take m, y.flat = [y]) ∧ k (.ro true (cs.take m))
      | _, _ => False
    | _ => False
  | .fieldAddr t x f =>
    match Θ t with
    | some ⟨.struct fs, _, _, _⟩ =>
      match fs[f]? with
      | some (off, size, _) => size ≠ 0 ∧ match ρ x with
        | .rop cs => k (.rop (cs.drop off))
        | .ptr o q => k (.ptr o (q + off))
        | _ => False
      | none => False
    | _ => False
  | .field t x f =>
    match Θ t with
    | some ⟨.struct fs, _, _, _⟩ =>
      match fs[f]?, ρ x with
      | some (off, _, ft), .agg cs => loadA Θ ft (cs.drop off) k
      | _, _ => False
    | _ => False
  | .indexAddr t x i =>
    match Θ t, ρ x, ρ i with
    | some ⟨.slice e, _, _, _⟩, .ro _ xs, .int _ n =>
      match Θ e with
      | some d => (0 ≤ n ∧ n < xs.length) ∧ (xs.getD n.toNat .any).flat.length = d.size ∧ k (.rop (xs.getD n.toNat .any).flat)
      | none => False
    | some ⟨.slice e, _, _, _⟩, .mu o m, .int _ n =>
      match Θ e with
      | some d => (0 ≤ n ∧ n < m) ∧ k (.ptr o (n.toNat * d.size))
      | none => False
    | some ⟨.arr m e, _, _, _⟩, .ptr o q, .int _ n =>
      match Θ e with
      | some d => (0 ≤ n ∧ n < m) ∧ k (.ptr o (q + n.toNat * d.size))
      | none => False
    | some ⟨.arr m e, _, _, _⟩, .rop cs, .int _ n =>
      match Θ e with
      | some d => (0 ≤ n ∧ n < m) ∧ k (.rop (cs.drop (n.toNat * d.size)))
      | none => False
    | _, _, _ => False
  | .makeInterface t x => P.concrete t = true ∧ k (.ifc t (ρ x))
  | .typeAssert x _ t ok => match ρ x with | .ifc t' u => (ok = true ∧ P.concrete t = true ∧ t' = t) ∧ k (.tup [u, .bool true]) | _ => False
  | .nilCheck x => match ρ x with | .ptr o q => k (.ptr o q) | .rop cs => k (.rop cs) | .ifc t u => k (.ifc t u) | _ => False
  | .extract x i => match ρ x with | .tup vs => (match vs[i]? with | some v => k v | none => False) | _ => False
  | .call c =>
    match c.callee with
    | .value f => callA P (ρ f) (c.args.toList.map (ρ)) k
    | .builtin b =>
      match b, c.args.toList.map (ρ), c.argTypes.toList with
      | .len, [x], [t] =>
        match Θ t, lenA x with
        | some ⟨.slice _, _, _, _⟩, some n => k (.int .i64 n)
        | _, _ => False
      | .max, [.int q a, .int q' b], _ => q = q' ∧ k (.int q (if b > a then b else a))
      | .min, [.int q a, .int q' b], _ => q = q' ∧ k (.int q (if b < a then b else a))
      | _, _, _ => False
    | _ => False
  | _ => False

end Go.Par

namespace Go.Par

theorem loadA_val {Θ : Types} {t : TypeId} {cs : List AV} {k : AV → Prop} (H : loadA Θ t cs k) : ∃ v, k v ∧ loadA Θ t cs (fun u => u = v) := by
  unfold loadA at H ⊢
  repeat' (split at H)
  all_goals first
    | exact H.elim
    | exact ⟨_, H.2, by simp_all⟩
    | exact ⟨_, H, by simp_all⟩

theorem eqA_val {P : Program} {op : BinOp} {t : TypeId} {as bs : List AV} {k : AV → Prop} (H : eqA P op t as bs k) : ∃ v, k v ∧ eqA P op t as bs (fun u => u = v) := by
  unfold eqA at H ⊢
  split at H
  · exact ⟨_, H.2.2, H.1, H.2.1, rfl⟩
  · exact H.elim
theorem binA_val {P : Program} {Θ : Types} {op : BinOp} {t : TypeId} {x y : AV} {k : AV → Prop} (H : binA P Θ op t x y k) : ∃ v, k v ∧ binA P Θ op t x y (fun u => u = v) := by
  unfold binA at H ⊢
  split at H
  · obtain ⟨e, H⟩ := H
    split at H
    all_goals first
      | exact H.elim
      | exact ⟨_, H, e, rfl⟩
      | exact ⟨_, H.2, e, H.1, rfl⟩
  all_goals first
    | exact H.elim
    | exact eqA_val H
    | (repeat' (split at H)) <;> first | exact H.elim | exact ⟨_, H, by simp_all⟩

theorem callA_val {P : Program} {f : AV} {args : List AV} {k : AV → Prop} (H : callA P f args k) : ∃ v, k v ∧ callA P f args (fun u => u = v) := by
  unfold callA at H ⊢
  split at H
  · obtain ⟨r, hr, hk⟩ := H
    exact ⟨r, hk, r, hr, rfl⟩
  · obtain ⟨r, hr, hk⟩ := H
    exact ⟨r, hk, r, hr, rfl⟩
  · exact H.elim

theorem pOp_val {P : Program} {Θ : Types} {ρ : Operand → AV} {h : Heap} {o : Op} {k : AV → Prop} (H : pOp P Θ ρ h o k) : ∃ v, k v ∧ pOp P Θ ρ h o (fun u => u = v) := by
  cases o with
  | move x => exact ⟨_, H, rfl⟩
  | assign x => exact ⟨_, H, rfl⟩
  | pick c a b =>
    simp only [pOp] at H ⊢
    split at H
    · exact ⟨_, H, rfl⟩
    · exact H.elim
  | box t x => exact ⟨_, H.2, H.1, rfl⟩
  | alloc t =>
    simp only [pOp] at H ⊢
    split at H
    · exact ⟨_, H.2, H.1, rfl⟩
    · exact H.elim
  | build t ps =>
    simp only [pOp] at H ⊢
    split at H
    · split at H
      · exact ⟨_, H.2, by simp_all⟩
      · exact H.elim
    · split at H
      · split at H
        · exact ⟨_, H.2, by simp_all⟩
        · exact H.elim
      · exact H.elim
    · exact H.elim
  | index t x i =>
    simp only [pOp] at H ⊢
    split at H
    · split at H
      · obtain ⟨h1, h2⟩ := H
        obtain ⟨v, g1, g2⟩ := loadA_val h2
        exact ⟨v, g1, h1, g2⟩
      · exact H.elim
    · exact H.elim
  | buildSlice t n ps =>
    simp only [pOp] at H ⊢
    split at H
    · split at H
      · obtain ⟨h1, h2, h3, h4⟩ := H
        exact ⟨_, h4, h1, h2, h3, rfl⟩
      · exact H.elim
    · exact H.elim
  | load t x =>
    simp only [pOp] at H ⊢
    split at H
    · exact loadA_val H
    · split at H
      · exact loadA_val H
      · exact H.elim
    · exact H.elim
  | binOp op t x y u => exact binA_val H
  | unOp op t x =>
    simp only [pOp] at H ⊢
    split at H
    · exact ⟨_, H, by simp_all⟩
    · exact ⟨_, H, by simp_all⟩
    · exact H.elim
  | convert s d x =>
    simp only [pOp] at H ⊢
    split at H
    · exact ⟨_, H, by simp_all⟩
    · exact H.elim
  | makeFunc f a c =>
    cases f with
    | func f =>
      simp only [pOp] at H ⊢
      split at H
      · exact ⟨_, H, by simp_all⟩
      · split at H
        · exact ⟨_, H, by simp_all⟩
        · exact H.elim
    | _ => exact H.elim
  | makeSlice t l c =>
    simp only [pOp] at H ⊢
    split at H
    · split at H
      · obtain ⟨h1, h2, h3, h4, h5, h6, h7⟩ := H
        exact ⟨_, h7, h1, h2, h3, h4, h5, h6, rfl⟩
      · exact H.elim
    · exact H.elim
  | slice t x lo hi mx =>
    simp only [pOp] at H ⊢
    split at H
    · split at H
      · split at H
        · exact H.elim
        · rename_i hmx
          simp only [hmx]
          split at H
          · exact ⟨_, H, rfl⟩
          · exact ⟨_, H.2.2.2, H.1, H.2.1, H.2.2.1, rfl⟩
          · exact ⟨_, H.2.2.2, H.1, H.2.1, H.2.2.1, rfl⟩
          · exact ⟨_, H.2.2.2.2, H.1, H.2.1, H.2.2.1, H.2.2.2.1, rfl⟩
          · exact ⟨_, H.2.2.2, H.1, H.2.1, H.2.2.1, rfl⟩
          · exact ⟨_, H.2.2.2, H.1, H.2.1, H.2.2.1, rfl⟩
          · exact H.elim
      · exact H.elim
    · split at H
      · exact ⟨_, H.2, H.1, rfl⟩
      · exact H.elim
    · exact H.elim
  | fieldAddr t x f =>
    simp only [pOp] at H ⊢
    split at H
    · split at H
      · obtain ⟨h1, H⟩ := H
        split at H
        · exact ⟨_, H, h1, rfl⟩
        · exact ⟨_, H, h1, rfl⟩
        · exact H.elim
      · exact H.elim
    · exact H.elim
  | field t x f =>
    simp only [pOp] at H ⊢
    split at H
    · split at H
      · exact loadA_val H
      · exact H.elim
    · exact H.elim
  | indexAddr t x i =>
    simp only [pOp] at H ⊢
    split at H
    · split at H
      · exact ⟨_, H.2.2, H.1, H.2.1, rfl⟩
      · exact H.elim
    · split at H
      · exact ⟨_, H.2, H.1, rfl⟩
      · exact H.elim
    · split at H
      · exact ⟨_, H.2, H.1, rfl⟩
      · exact H.elim
    · split at H
      · exact ⟨_, H.2, H.1, rfl⟩
      · exact H.elim
    · exact H.elim
  | makeInterface t x => exact ⟨_, H.2, H.1, rfl⟩
  | typeAssert x xT t c =>
    simp only [pOp] at H ⊢
    split at H
    · exact ⟨_, H.2, H.1, rfl⟩
    · exact H.elim
  | nilCheck x =>
    simp only [pOp] at H ⊢
    split at H
    · exact ⟨_, H, rfl⟩
    · exact ⟨_, H, rfl⟩
    · exact ⟨_, H, rfl⟩
    · exact H.elim
  | extract x i =>
    simp only [pOp] at H ⊢
    split at H
    · split at H
      · exact ⟨_, H, by simp_all⟩
      · exact H.elim
    · exact H.elim
  | call c =>
    simp only [pOp] at H ⊢
    split at H
    · exact callA_val H
    · split at H
      · split at H
        · exact ⟨_, H, by simp_all⟩
        · exact H.elim
      · exact ⟨_, H.2, H.1, rfl⟩
      · exact ⟨_, H.2, H.1, rfl⟩
      · exact H.elim
    · exact H.elim
  | _ => exact H.elim

end Go.Par

set_option linter.unusedSimpArgs false
namespace Go.Par

section types
variable {P : Program} {t : TypeId} {d : TD} {w : World}

theorem TD.ok.sizeOf (h : d.ok P t) : (sizeOf t).run P w = .ok d.size w := by
  obtain ⟨⟨i, hi, h1, _, _⟩, _⟩ := h
  simp [Go.sizeOf, typeInfo, hi, h1]

theorem TD.ok.zero (h : d.ok P t) : (zeroValue t).run P w = .ok d.zero w := by
  obtain ⟨⟨i, hi, _, _, h3⟩, _⟩ := h
  simp [Go.zeroValue, typeInfo, hi, h3]

theorem TD.ok.isAgg (h : d.ok P t) : (isAgg t).run P w = .ok d.sh.agg w := by
  obtain ⟨_, h⟩ := h
  cases hs : d.sh with
  | prim =>
    rw [hs] at h
    simp only [Sh.ok] at h
    cases hu : P.underlying t with
    | none => simp [hu] at h
    | some x =>
      simp only [hu, Option.any_some] at h
      unfold Go.isAgg
      simp only [Sem.run_bind, run_underlying hu, Result.andThen_ok, Sh.agg]
      cases x <;> simp at h ⊢
  | struct fs =>
    rw [hs] at h
    obtain ⟨l, hl, _⟩ := h
    simp [Go.isAgg, run_underlying hl, Sh.agg]
  | arr n e => rw [hs] at h; simp [Go.isAgg, run_underlying h, Sh.agg]
  | bool => rw [hs] at h; simp [Go.isAgg, run_underlying h, Sh.agg]
  | int k => rw [hs] at h; simp [Go.isAgg, run_underlying h, Sh.agg]
  | slice e => rw [hs] at h; simp [Go.isAgg, run_underlying h, Sh.agg]
  | map k e => rw [hs] at h; simp [Go.isAgg, run_underlying h, Sh.agg]

theorem TD.ok.map {k e : TypeId} {s b : Nat} {z : Value} (h : (⟨.map k e, s, b, z⟩ : TD).ok P t) : P.underlying t = some (.map k e) := h.2
theorem TD.ok.slice {e : TypeId} {s b : Nat} {z : Value} (h : (⟨.slice e, s, b, z⟩ : TD).ok P t) : P.underlying t = some (.slice e) := h.2
end types

theorem add_plain (b o j : Nat) : (⟨b, o, none⟩ : Addr).add j = ⟨b, o + j, none⟩ := by unfold Addr.add; split <;> simp_all

theorem loadVar_run {P : Program} {Θ : Types} (hΘ : Θ.ok P) {φ : Names} {B : Nat → Prop} {w : World} {t : TypeId} {cs : List AV} {v : AV} {b off : Nat} {f : Nat → Value}
    (hcell : ∀ j u, cs[j]? = some u → w.cell? ⟨b, off + j, none⟩ = some (f j)) (hval : ∀ j u, cs[j]? = some u → VR φ B w u (f j))
    (hp : loadA Θ t cs (fun u => u = v)) : ∃ x, (loadVar t ⟨b, off, none⟩).run P w = .ok x w ∧ VR φ B w v x := by
  unfold loadA at hp
  split at hp
  · exact hp.elim
  · rename_i d hd
    have ok := hΘ t d hd
    unfold loadVar
    simp only [Sem.run_bind, ok.isAgg, Result.andThen_ok, Sem.run_ite]
    split at hp
    · rename_i hagg
      obtain ⟨hle, rfl⟩ := hp
      have hl := run_loadCells_list (P := P) w ⟨b, off, none⟩ ((List.range d.size).map f) (fun j v hj => by
        simp only [List.getElem?_map, Option.map_eq_some_iff] at hj
        obtain ⟨i, hi, rfl⟩ := hj
        obtain ⟨h1, h2⟩ := List.getElem?_eq_some_iff.1 hi
        simp at h2 h1
        subst h2
        rw [add_plain]
        exact hcell _ _ (List.getElem?_eq_getElem (by omega)))
      simp only [List.length_map, List.length_range] at hl
      simp only [hagg, if_true, ok.sizeOf, Result.andThen_ok, Sem.run_bind, hl, Sem.run_pure]
      refine ⟨_, rfl, .agg _ _ (by simp; omega) ?_⟩
      intro j u hu
      have hj : j < d.size := by
        rw [List.getElem?_take] at hu
        split at hu
        · assumption
        · cases hu
      rw [List.getElem?_take, if_pos hj] at hu
      have : (((List.range d.size).map f).toArray).getD j undef = f j := by simp [hj]
      rw [this]
      exact hval j u hu
    · rename_i hagg
      cases cs with
      | nil => exact hp.elim
      | cons c cs =>
        simp only at hp
        subst hp
        have h0 := hcell 0 c rfl
        simp only [Bool.not_eq_true] at hagg
        simp only [hagg, Bool.false_eq_true, if_false]
        refine ⟨f 0, ?_, hval 0 c rfl⟩
        rw [Nat.add_zero] at h0
        simp [run_load, h0]

theorem load_ob {φ : Names} {B : Nat → Prop} {w : World} {x : Ob} {b cap : Nat} (h : ObR φ B w x (.blk b cap)) : ∃ f : Nat → Value,
    (∀ j u, x.cells[j]? = some u → w.cell? ⟨b, j, none⟩ = some (f j)) ∧ (∀ j u, x.cells[j]? = some u → VR φ B w u (f j)) := by
  obtain ⟨cur, h1, h2, h3, h4, h5⟩ := h
  refine ⟨fun j => cur.getD j undef, fun j u hu => ?_, h5⟩
  have hj : j < cur.size := Nat.lt_of_lt_of_le (List.getElem?_eq_some_iff.1 hu).1 h4
  rw [cell_of_row w b j cur x.ty (0, 0) h1]
  simp [hj]

section runs
variable {P : Program} {Θ : Types} {o : Oper} {φ : Names} {h : Heap} {w : World} {a : Act} {ρ : Operand → AV} {v : AV}

theorem run_load_ptr (hΘ : Θ.ok P) (H : HR φ w h) {t : TypeId} {x : Operand} (ho : o.op = .load t x) (hx : VR φ (own φ h) w (ρ x) (a.eval x)) (hp : pOp P Θ ρ h (.load t x) (fun u => u = v)) : OpRun P o φ h w a v := by
  simp only [pOp] at hp
  split at hp
  · rename_i cs e
    rw [e] at hx
    generalize hq : a.eval x = q at hx
    cases hx with
    | rop _ b off f hB hb hcell hval =>
      obtain ⟨y, h1, h2⟩ := loadVar_run hΘ hcell hval hp
      refine OpRun.same H ?_ h2
      simp [execOp, ho, hq, Instr.loadAt, Instr.sureAddr, h1]
  · rename_i ob off e
    rw [e] at hx
    generalize hq : a.eval x = q at hx
    split at hp
    · rename_i x' hx'
      cases hx with
      | ptr _ _ b cap hl =>
        obtain ⟨l, hl', hr⟩ := H.ob _ _ hx'
        rw [hl] at hl'
        cases hl'
        obtain ⟨f, hf1, hf2⟩ := load_ob hr
        obtain ⟨y, h1, h2⟩ := loadVar_run (b := b) (off := off) (f := fun j => f (off + j)) hΘ (fun j u hu => hf1 (off + j) u (by rw [List.getElem?_drop] at hu; exact hu)) (fun j u hu => hf2 (off + j) u (by rw [List.getElem?_drop] at hu; exact hu)) hp
        refine OpRun.same H ?_ h2
        simp [execOp, ho, hq, Instr.loadAt, Instr.sureAddr, h1]
    · exact hp.elim
  · exact hp.elim

theorem eqFields_ints {d : Nat} {X Y : Array Value} : ∀ (fs : List Field) (i : Nat) (la lb : List Int) (w : World), eqFs P i fs = true → fs.length = la.length → la.length = lb.length → (∀ (j : Nat) (a : Int), la[j]? = some a → X[i + j]? = some (.int .i64 a)) → (∀ (j : Nat) (a : Int), lb[j]? = some a → Y[i + j]? = some (.int .i64 a)) → (Op.eqFields (d + 1) X Y fs).run P w = .ok (decide (la = lb)) w
  | [], i, la, lb, w, _, h1, h2, _, _ => by
    have e1 : la = [] := List.eq_nil_of_length_eq_zero h1.symm
    subst e1
    have e2 : lb = [] := List.eq_nil_of_length_eq_zero h2.symm
    subst e2
    simp [Op.eqFields]
  | f :: fs, i, [], lb, w, _, h1, _, _, _ => by cases h1
  | f :: fs, i, a :: la, [], w, _, _, h2, _, _ => by cases h2
  | f :: fs, i, a :: la, b :: lb, w, he, h1, h2, hX, hY => by
    simp only [eqFs, Bool.and_eq_true, bne_iff_ne, ne_eq, beq_iff_eq] at he
    obtain ⟨⟨⟨e1, e2⟩, e3⟩, e4⟩ := he
    have x0 := hX 0 a rfl
    have y0 := hY 0 b rfl
    rw [Nat.add_zero] at x0 y0
    split at e3
    · rename_i k hu
      have ih := eqFields_ints (d := d) (X := X) (Y := Y) fs (i + 1) la lb w e4 (by simpa using h1) (by simpa using h2) (fun j c hc => by have := hX (j + 1) c (by simpa using hc); rwa [show i + 1 + j = i + (j + 1) by omega]) (fun j c hc => by have := hY (j + 1) c (by simpa using hc); rwa [show i + 1 + j = i + (j + 1) by omega])
      have px : (part f.type X f.offset).run P w = .ok (.int .i64 a) w := by simp [part, isAgg, run_underlying hu, e2, x0]
      have py : (part f.type Y f.offset).run P w = .ok (.int .i64 b) w := by simp [part, isAgg, run_underlying hu, e2, y0]
      have pe : (Op.equalIn (d + 1) f.type (.int .i64 a) (.int .i64 b)).run P w = .ok (a == b) w := run_equalIn_int w d f.type .i64 k a b hu
      simp only [Op.eqFields]
      rw [if_pos e1]
      simp only [Sem.run_bind, px, py, pe, Result.andThen_ok]
      by_cases c : a = b
      · subst c
        simp [ih]
      · simp [c]
    · cases e3

theorem intsA_some : ∀ {as : List AV} {la : List Int}, intsA as = some la → as.length = la.length ∧ ∀ (j : Nat) (a : Int), la[j]? = some a → as[j]? = some (.int .i64 a)
  | [], la, h => by
    simp only [intsA, Option.some.injEq] at h
    subst h
    exact ⟨rfl, fun j a h => by simp at h⟩
  | c :: as, la, h => by
    unfold intsA at h
    split at h
    · rename_i e; cases e
    · rename_i a l e
      cases e
      rw [Option.map_eq_some_iff] at h
      obtain ⟨l', h1, rfl⟩ := h
      obtain ⟨g1, g2⟩ := intsA_some h1
      refine ⟨by simp [g1], fun j b hj => ?_⟩
      cases j with
      | zero => simp at hj; subst hj; rfl
      | succ j => simp at hj; simpa using g2 j b hj
    · cases h

theorem run_eqA {op : BinOp} {t : TypeId} {as bs : List AV} {X Y : Value} {ox oy : Operand} (hx : VR φ (own φ h) w (.agg as) X) (hy : VR φ (own φ h) w (.agg bs) Y) (hp : eqA P op t as bs (fun u => u = v)) :
    ∃ q, (do eqGuard op t ox oy X Y; binOp op t X Y : Sem Value).run P w = .ok q w ∧ VR φ (own φ h) w v q := by
  unfold eqA at hp
  split at hp
  · rename_i la lb ha hb
    obtain ⟨hl, ht, rfl⟩ := hp
    unfold eqTy at ht
    simp only [Bool.and_eq_true, beq_iff_eq, Bool.not_eq_true'] at ht
    obtain ⟨⟨⟨⟨t1, t2⟩, t3⟩, t4⟩, t5⟩ := ht
    have hu : P.underlying t = some (.struct (P.fieldsOf t)) := by
      split at t1
      · rename_i fs e
        simp only [Program.fieldsOf, e]
      · cases t1
    cases hx with
    | agg _ xs hlx hvx =>
      cases hy with
      | agg _ ys hly hvy =>
        obtain ⟨a1, a2⟩ := intsA_some ha
        obtain ⟨b1, b2⟩ := intsA_some hb
        have gx : ∀ (j : Nat) (a : Int), la[j]? = some a → xs[0 + j]? = some (.int .i64 a) := by
          intro j a hj
          have q := hvx j _ (a2 j a hj)
          have hj' : j < xs.size := by
            have := (List.getElem?_eq_some_iff.1 hj).1
            omega
          rw [Nat.zero_add, Array.getElem?_eq_getElem hj']
          rw [Array.getD_eq_getD_getElem?, Array.getElem?_eq_getElem hj', Option.getD_some] at q
          generalize xs[j] = z at q
          cases q
          rfl
        have gy : ∀ (j : Nat) (a : Int), lb[j]? = some a → ys[0 + j]? = some (.int .i64 a) := by
          intro j a hj
          have q := hvy j _ (b2 j a hj)
          have hj' : j < ys.size := by
            have := (List.getElem?_eq_some_iff.1 hj).1
            omega
          rw [Nat.zero_add, Array.getElem?_eq_getElem hj']
          rw [Array.getD_eq_getD_getElem?, Array.getElem?_eq_getElem hj', Option.getD_some] at q
          generalize ys[j] = z at q
          cases q
          rfl
        refine ⟨.bool (decide (la = lb)), ?_, VR.bool _⟩
        have e1 := eqFields_ints (P := P) (d := 9998) (X := xs) (Y := ys) (P.fieldsOf t).toList 0 la lb w t3 t2 hl gx gy
        have e2 := run_equalIn_struct (P := P) w 9999 t xs ys hu t4
        rw [e1] at e2
        simp only [Sem.run_bind, run_eqGuard_agg w .eql t ox oy xs ys t5, Result.andThen_ok]
        rw [run_eql_struct w t xs ys, e2]
        simp
  · exact hp.elim

theorem run_binA (hΘ : Θ.ok P) {op : BinOp} {t : TypeId} {x y : AV} {X Y : Value} {ox oy : Operand} (hx : VR φ (own φ h) w x X) (hy : VR φ (own φ h) w y Y) (hp : binA P Θ op t x y (fun u => u = v)) :
    ∃ q, (do eqGuard op t ox oy X Y; binOp op t X Y : Sem Value).run P w = .ok q w ∧ VR φ (own φ h) w v q := by
  unfold binA at hp
  split at hp
  · cases hx
    cases hy
    obtain ⟨rfl, hp⟩ := hp
    split at hp
    all_goals first
      | exact hp.elim
      | (subst hp; refine ⟨_, ?_, VR.int _ _⟩; simp [go_sem, Op.intArith, Op.intDiv]; done)
      | (subst hp; refine ⟨_, ?_, VR.bool _⟩; simp [go_sem, Op.intArith, Op.intDiv]; done)
      | (obtain ⟨hne, rfl⟩ := hp; refine ⟨_, ?_, VR.int _ _⟩; simp [go_sem, Op.intArith, Op.intDiv, hne]; done)
      | (subst hp; refine ⟨_, ?_, VR.int _ _⟩; simp [go_sem, Op.intBits, andI]; done)
      | (obtain ⟨hne, rfl⟩ := hp; refine ⟨_, ?_, VR.int _ _⟩; simp [go_sem, Op.shift, shrI, Int.not_lt.2 hne]; done)
  · cases hx
    cases hy
    split at hp
    · rename_i hd
      have hu : P.underlying t = some .bool := (hΘ t _ hd).2
      split at hp
      · subst hp
        refine ⟨_, ?_, VR.bool _⟩
        simp [go_sem, run_eql_bool _ _ _ _ hu]
      · subst hp
        refine ⟨_, ?_, VR.bool _⟩
        simp [go_sem, run_neq_bool _ _ _ _ hu]
        exact (by decide : ∀ p q : Bool, (p == q) = (!p != q)) _ _
      · exact hp.elim
    · exact hp.elim
  · cases hx
    cases hy
    split at hp
    · rename_i hd
      have hu : P.underlying t = some (.slice _) := (hΘ t _ hd).2
      split at hp
      · subst hp
        refine ⟨_, ?_, VR.bool _⟩
        simp [go_sem, run_eql_slice_nil _ _ _ _ _ _ hu]
      · subst hp
        refine ⟨_, ?_, VR.bool _⟩
        simp [go_sem, run_neq_slice_nil _ _ _ _ _ _ hu]
      · exact hp.elim
    · exact hp.elim
  · have : ∃ b n c, X = .slice (some b) n c := by
      cases hx with
      | roNil k a c ha _ =>
        obtain ⟨b, hb⟩ := Option.isSome_iff_exists.1 (ha rfl)
        exact ⟨b, 0, c, by rw [hb]⟩
      | ro k xs n b off c s f => exact ⟨_, _, _, rfl⟩
    obtain ⟨b, n, c, rfl⟩ := this
    cases hy
    split at hp
    · rename_i hd
      have hu : P.underlying t = some (.slice _) := (hΘ t _ hd).2
      split at hp
      · subst hp
        refine ⟨_, ?_, VR.bool _⟩
        simp [go_sem, run_eql_slice_nil _ _ _ _ _ _ hu]
      · subst hp
        refine ⟨_, ?_, VR.bool _⟩
        simp [go_sem, run_neq_slice_nil _ _ _ _ _ _ hu]
      · exact hp.elim
    · exact hp.elim
  · exact run_eqA hx hy hp
  · exact hp.elim
end runs

end Go.Par

set_option linter.unusedSimpArgs false
namespace Go.Par

/-! Lists of cells. -/
theorem setAt_length (vs : List AV) : ∀ (cs : List AV) (off : Nat), (setAt cs off vs).length = cs.length := by
  induction vs with
  | nil => intros; rfl
  | cons v vs ih => intro cs off; simp [setAt, ih]

theorem setAt_get (vs : List AV) : ∀ (cs : List AV) (off j : Nat), off + vs.length ≤ cs.length → (setAt cs off vs)[j]? = if off ≤ j ∧ j < off + vs.length then vs[j - off]? else cs[j]? := by
  induction vs with
  | nil => intro cs off j _; simp [setAt]; omega
  | cons v vs ih =>
    intro cs off j hle
    simp only [List.length_cons] at hle
    rw [setAt, ih _ _ _ (by simp; omega)]
    by_cases h : off + 1 ≤ j ∧ j < off + 1 + vs.length
    · rw [if_pos h, if_pos (by simp; omega)]
      obtain ⟨k, rfl⟩ : ∃ k, j = off + 1 + k := ⟨j - (off + 1), by omega⟩
      rw [show off + 1 + k - off = k + 1 by omega, show off + 1 + k - (off + 1) = k by omega, List.getElem?_cons_succ]
    · rw [if_neg h]
      by_cases e : j = off
      · subst e
        rw [if_pos (by simp)]
        rw [Nat.sub_self, List.getElem?_cons_zero, List.getElem?_set_self (by omega)]
      · rw [if_neg (by simp only [List.length_cons]; omega)]
        rw [List.getElem?_set_ne (by omega)]

/-- Cells put into an array of values, one behind another. -/
def setAtV (cs : Array Value) (off : Nat) (vs : Array Value) : Array Value := vs.zipIdx.foldl (fun cs (c, j) => cs.setIfInBounds (off + j) c) cs

theorem setAtV_aux (off : Nat) : ∀ (l : List Value) (i : Nat) (cs : Array Value), ((l.zipIdx i).foldl (fun cs (c, j) => cs.setIfInBounds (off + j) c) cs).size = cs.size ∧
    ∀ j, ((l.zipIdx i).foldl (fun cs (c, j) => cs.setIfInBounds (off + j) c) cs).getD j undef = if off + i ≤ j ∧ j < off + i + l.length ∧ j < cs.size then l.getD (j - (off + i)) undef else cs.getD j undef := by
  intro l
  induction l with
  | nil => intro i cs; simp; intros; omega
  | cons v l ih =>
    intro i cs
    obtain ⟨h1, h2⟩ := ih (i + 1) (cs.setIfInBounds (off + i) v)
    simp only [List.zipIdx_cons, List.foldl_cons]
    refine ⟨by simpa using h1, fun j => ?_⟩
    rw [h2 j]
    simp only [List.length_cons, Array.size_setIfInBounds]
    by_cases h : off + (i + 1) ≤ j ∧ j < off + (i + 1) + l.length ∧ j < cs.size
    · rw [if_pos h, if_pos (by omega)]
      obtain ⟨k, rfl⟩ : ∃ k, j = off + (i + 1) + k := ⟨j - (off + (i + 1)), by omega⟩
      rw [show off + (i + 1) + k - (off + i) = k + 1 by omega, show off + (i + 1) + k - (off + (i + 1)) = k by omega]
      simp
    · rw [if_neg h]
      by_cases e : j = off + i
      · subst e
        by_cases hl : off + i < cs.size
        · rw [if_pos (by omega)]
          simp [hl]
        · rw [if_neg (by omega)]
          simp [Array.getElem?_eq_none (Nat.le_of_not_lt hl), hl]
      · rw [if_neg (by omega)]
        simp [Array.getElem?_setIfInBounds_ne (Ne.symm e)]

theorem setAtV_spec (cs : Array Value) (off : Nat) (vs : Array Value) : (setAtV cs off vs).size = cs.size ∧
    ∀ j, (setAtV cs off vs).getD j undef = if off ≤ j ∧ j < off + vs.size ∧ j < cs.size then vs.getD (j - off) undef else cs.getD j undef := by
  have h := setAtV_aux off vs.toList 0 cs
  have e : setAtV cs off vs = (vs.toList.zipIdx 0).foldl (fun cs (c, j) => cs.setIfInBounds (off + j) c) cs := by
    unfold setAtV
    rw [← Array.foldl_toList, Array.toList_zipIdx]
  rw [e]
  refine ⟨h.1, fun j => ?_⟩
  rw [h.2 j]
  simp

/-- 'cells' are told by 'cs'. -/
def CR (φ : Names) (B : Nat → Prop) (w : World) (cs : List AV) (vs : Array Value) : Prop := cs.length = vs.size ∧ ∀ j u, cs[j]? = some u → VR φ B w u (vs.getD j undef)

theorem CR.setAt {φ : Names} {B : Nat → Prop} {w : World} {cs us : List AV} {vs xs : Array Value} (h : CR φ B w cs vs) (hu : CR φ B w us xs) {off : Nat} (hle : off + us.length ≤ cs.length) : CR φ B w (setAt cs off us) (setAtV vs off xs) := by
  obtain ⟨h1, h2⟩ := setAtV_spec vs off xs
  refine ⟨by rw [setAt_length, h1, h.1], fun j u hj => ?_⟩
  have hlt := (List.getElem?_eq_some_iff.1 hj).1
  rw [setAt_length] at hlt
  rw [setAt_get _ _ _ _ hle] at hj
  rw [h2]
  have e1 := h.1
  have e2 := hu.1
  by_cases hc : off ≤ j ∧ j < off + us.length
  · rw [if_pos hc] at hj
    rw [if_pos (by omega)]
    exact hu.2 _ _ hj
  · rw [if_neg hc] at hj
    rw [if_neg (by omega)]
    exact h.2 _ _ hj

theorem fill_run {φ : Names} {B : Nat → Prop} {w : World} (place : Nat → Option (Nat × Nat)) : ∀ (us : List (Nat × AV)) (vs : List (Nat × Value)) (cs cs' : List AV) (xs : Array Value),
    us.map Prod.fst = vs.map Prod.fst → (∀ (j : Nat) (u : Nat × AV) (v : Nat × Value), us[j]? = some u → vs[j]? = some v → VR φ B w u.2 v.2) → CR φ B w cs xs → fillA place cs us = some cs' →
    ∃ xs', Instr.fill place xs vs = some xs' ∧ CR φ B w cs' xs' := by
  intro us
  induction us with
  | nil =>
    intro vs cs cs' xs he _ hc hf
    cases vs with
    | nil => simp only [fillA, Option.some.injEq] at hf; subst hf; exact ⟨xs, rfl, hc⟩
    | cons v vs => simp at he
  | cons u us ih =>
    intro vs cs cs' xs he hv hc hf
    cases vs with
    | nil => simp at he
    | cons v vs =>
      obtain ⟨i, u⟩ := u
      obtain ⟨i', v⟩ := v
      simp only [List.map_cons, List.cons.injEq] at he
      obtain ⟨rfl, he⟩ := he
      simp only [fillA] at hf
      cases hp : place i with
      | none => simp [hp] at hf
      | some q =>
        obtain ⟨off, size⟩ := q
        simp only [hp] at hf
        split at hf
        · rename_i hc3
          obtain ⟨k1, k2, k3⟩ := hc3
          have hfl := (hv 0 (i, u) (i, v) rfl rfl).flat k1
          have hle := hc.1
          have hin : off + u.flat.length ≤ cs.length := by omega
          obtain ⟨xs', h1, h2⟩ := ih vs (setAt cs off u.flat) cs' (setAtV xs off v.cells) he (fun j a b ha hb => hv (j + 1) a b (by simpa using ha) (by simpa using hb)) (hc.setAt (us := u.flat) (xs := v.cells) hfl hin) hf
          refine ⟨xs', ?_, h2⟩
          have hl : u.flat.length = v.cells.size := hfl.1
          show (match place i with | none => none | some (off, size) => if v.cells.size ≠ size || off + v.cells.size > xs.size then none else Instr.fill place (setAtV xs off v.cells) vs) = some xs'
          simp only [hp]
          rw [if_neg (by simp; omega)]
          exact h1
        · cases hf

theorem map_parts (ps : Array (Nat × Operand)) (f : Operand → Value) : (ps.map fun (i, x) => (i, f x)).toList = ps.toList.map fun p => (p.1, f p.2) := by
  simp

section runs
variable {P : Program} {Θ : Types} {o : Oper} {φ : Names} {h : Heap} {w : World} {a : Act} {ρ : Operand → AV} {v : AV}

theorem run_build (hΘ : Θ.ok P) (H : HR φ w h) {t : TypeId} {ps : Array (Nat × Operand)} (ho : o.op = .build t ps) (hx : ∀ x ∈ (Op.build t ps).operands, VR φ (own φ h) w (ρ x) (a.eval x))
    (hp : pOp P Θ ρ h (.build t ps) (fun u => u = v)) : OpRun P o φ h w a v := by
  simp only [pOp] at hp
  split at hp
  · rename_i fs s b z hd
    have ok := hΘ t _ hd
    obtain ⟨l, hl, hfs⟩ := ok.2
    split at hp
    · rename_i cs hf
      obtain ⟨hk, rfl⟩ := hp
      have hz : VR φ (own φ h) w (absV z) z := absV_VR _ _ _ _
      have hplaces : ∃ places : Array (Nat × Nat), (l.mapM fun (f : Field) => (do pure (f.offset, ← sizeOf f.type) : Sem (Nat × Nat))).run P w = .ok places w ∧ places.toList = fs.map fun p => (p.1, p.2.1) := by
        have aux : ∀ (l : List Field) (fs : List (Nat × Nat × TypeId)), l.map (fun f => (f.offset, (P.info? f.type).map (·.size), f.type)) = fs.map (fun f => (f.1, some f.2.1, f.2.2)) →
            (l.mapM fun (f : Field) => (Prod.mk f.offset <$> sizeOf f.type : Sem (Nat × Nat))).run P w = .ok (fs.map fun p => (p.1, p.2.1)) w := by
          intro l
          induction l with
          | nil => intro fs h; cases fs with | nil => rfl | cons a b => simp at h
          | cons f l ih =>
            intro fs h
            cases fs with
            | nil => simp at h
            | cons q fs =>
              simp only [List.map_cons, List.cons.injEq, Prod.mk.injEq] at h
              obtain ⟨⟨h1, h2, _⟩, h3⟩ := h
              cases hi : P.info? f.type with
              | none => simp [hi] at h2
              | some i =>
                simp only [hi, Option.map_some, Option.some.injEq] at h2
                have hsz : (sizeOf f.type).run P w = .ok i.size w := by simp [sizeOf, typeInfo, hi]
                simp only [List.mapM_cons, Sem.run_bind, Sem.run_map, hsz, Result.andThen_ok, ih fs h3, Sem.run_pure, h1, h2, List.map_cons]
        refine ⟨(fs.map fun p => (p.1, p.2.1)).toArray, ?_, by simp⟩
        rw [Array.mapM_eq_mapM_toList]
        simp only [bind_pure_comp, Sem.run_map, aux l.toList fs hfs, Result.andThen_ok]
      obtain ⟨places, hpl, hpl2⟩ := hplaces
      have hfl := hz.flat hk
      obtain ⟨xs', h1, h2⟩ := fill_run (φ := φ) (B := own φ h) (w := w) (fun i => (fs[i]?).map fun p => (p.1, p.2.1)) (ps.toList.map fun p => (p.1, ρ p.2)) (ps.toList.map fun p => (p.1, a.eval p.2)) (absV z).flat cs z.cells (by simp) (by
        intro j u v hu hv
        simp only [List.getElem?_map, Option.map_eq_some_iff] at hu hv
        obtain ⟨p, hp, rfl⟩ := hu
        obtain ⟨p', hp', rfl⟩ := hv
        rw [hp] at hp'
        cases hp'
        exact hx _ (by
          simp only [Op.operands, List.mem_toArray, List.mem_map]
          exact ⟨p, List.mem_of_getElem? hp, rfl⟩)) hfl hf
      refine OpRun.same (x := .agg xs') H ?_ (.agg cs xs' h2.1 h2.2)
      have hzero := ok.zero (w := w)
      have hpl3 : ∀ i : Nat, places[i]? = (fs[i]?).map fun p => (p.1, p.2.1) := by intro i; rw [← List.getElem?_map, ← hpl2]; simp
      simp only [execOp, ho, Instr.build, Sem.run_bind, hzero, Result.andThen_ok, run_underlying hl, hpl, Sem.run_pure]
      rw [map_parts]
      simp only [hpl3, h1, Sem.run_bind, Sem.run_pure, Result.andThen_ok]
    · exact hp.elim
  · rename_i m e s b z hd
    have ok := hΘ t _ hd
    have hu : P.underlying t = some (.array m e) := ok.2
    split at hp
    · rename_i d hde
      split at hp
      · rename_i cs hf
        obtain ⟨hk, rfl⟩ := hp
        have hz : VR φ (own φ h) w (absV z) z := absV_VR _ _ _ _
        have hfl := hz.flat hk
        obtain ⟨xs', h1, h2⟩ := fill_run (φ := φ) (B := own φ h) (w := w) (fun i => some (i * d.size, d.size)) (ps.toList.map fun p => (p.1, ρ p.2)) (ps.toList.map fun p => (p.1, a.eval p.2)) (absV z).flat cs z.cells (by simp) (by
          intro j u v hu hv
          simp only [List.getElem?_map, Option.map_eq_some_iff] at hu hv
          obtain ⟨p, hp, rfl⟩ := hu
          obtain ⟨p', hp', rfl⟩ := hv
          rw [hp] at hp'
          cases hp'
          exact hx _ (by
            simp only [Op.operands, List.mem_toArray, List.mem_map]
            exact ⟨p, List.mem_of_getElem? hp, rfl⟩)) hfl hf
        refine OpRun.same (x := .agg xs') H ?_ (.agg cs xs' h2.1 h2.2)
        have hzero := ok.zero (w := w)
        have hsz := (hΘ e d hde).sizeOf (w := w)
        simp only [execOp, ho, Instr.build, Sem.run_bind, hzero, Result.andThen_ok, run_underlying hu, hsz, Sem.run_pure]
        rw [map_parts]
        simp only [h1, Sem.run_bind, Sem.run_pure, Result.andThen_ok]
      · exact hp.elim
    · exact hp.elim
  · exact hp.elim
end runs

end Go.Par

set_option linter.unusedSimpArgs false
namespace Go.Par

theorem flatMap_getElem {xs : List AV} {s : Nat} (hs : ∀ x ∈ xs, x.flat.length = s) : ∀ (i j : Nat), j < s → (xs.flatMap AV.flat)[i * s + j]? = (xs[i]?).bind (·.flat[j]?) := by
  induction xs with
  | nil => intro i j _; simp
  | cons x xs ih =>
    intro i j hj
    have hx := hs x (by simp)
    rw [List.flatMap_cons]
    cases i with
    | zero => rw [List.getElem?_append_left (by omega)]; simp
    | succ i =>
      rw [Nat.succ_mul, List.getElem?_append_right (by omega)]
      rw [show i * s + s + j - x.flat.length = i * s + j by omega, ih (fun y hy => hs y (by simp [hy])) i j hj]
      simp

theorem flatMap_drop {xs : List AV} {s : Nat} (hs : ∀ x ∈ xs, x.flat.length = s) : ∀ a, (xs.drop a).flatMap AV.flat = (xs.flatMap AV.flat).drop (a * s) := by
  induction xs with
  | nil => intro a; simp
  | cons x xs ih =>
    intro a
    have hx := hs x (by simp)
    cases a with
    | zero => simp
    | succ a =>
      have e : x.flat.drop (a * s + s) = [] := List.drop_of_length_le (by omega)
      rw [List.drop_succ_cons, ih (fun y hy => hs y (by simp [hy])), List.flatMap_cons, Nat.succ_mul, List.drop_append, e, List.nil_append]
      congr 1
      omega

theorem flatMap_take {xs : List AV} {s : Nat} (hs : ∀ x ∈ xs, x.flat.length = s) : ∀ a, (xs.take a).flatMap AV.flat = (xs.flatMap AV.flat).take (a * s) := by
  induction xs with
  | nil => intro a; simp
  | cons x xs ih =>
    intro a
    have hx := hs x (by simp)
    cases a with
    | zero => simp
    | succ a =>
      have e : x.flat.take (a * s + s) = x.flat := List.take_of_length_le (by omega)
      rw [List.take_succ_cons, List.flatMap_cons, ih (fun y hy => hs y (by simp [hy])), List.flatMap_cons, Nat.succ_mul, List.take_append, e]
      congr 2
      omega

theorem replicate_flat (x : AV) : ∀ (n j : Nat), ((List.replicate n x).flatMap AV.flat)[j]? = if j < n * x.flat.length then x.flat[j % x.flat.length]? else none := by
  intro n
  induction n with
  | zero => intro j; simp
  | succ n ih =>
    intro j
    rw [List.replicate_succ, List.flatMap_cons, Nat.succ_mul]
    by_cases h : j < x.flat.length
    · rw [List.getElem?_append_left h, Nat.mod_eq_of_lt h, if_pos (by omega)]
    · rw [List.getElem?_append_right (by omega), ih]
      have : (j - x.flat.length) % x.flat.length = j % x.flat.length := by
        rw [← Nat.mod_eq_sub_mod (by omega)]
      rw [this]
      split <;> split <;> first | rfl | omega

theorem VR.ro_inv {φ : Names} {B : Nat → Prop} {w : World} {q : Bool} {xs : List AV} {V : Value} (h : VR φ B w (.ro q xs) V) :
    ∃ a c, V = .slice a xs.length c ∧ xs.length ≤ c ∧ (q = true → a.isSome = true) ∧ (a = none → c = 0) ∧ (xs = [] ∨ ∃ (b off s : Nat) (f : Nat → Value), a = some ⟨b, off, none⟩ ∧ ¬ B b ∧ b < w.heap.size ∧ (∀ x ∈ xs, x.flat.length = s) ∧
      (∀ (j : Nat) u, (xs.flatMap AV.flat)[j]? = some u → w.cell? ⟨b, off + j, none⟩ = some (f j)) ∧ (∀ (j : Nat) u, (xs.flatMap AV.flat)[j]? = some u → VR φ B w u (f j))) := by
  cases h with
  | roNil k a c ha hc => exact ⟨a, c, rfl, Nat.zero_le _, ha, hc, .inl rfl⟩
  | ro k xs n b off c s f hn hc hB hb hs hcell hval => exact ⟨some ⟨b, off, none⟩, c, by rw [hn], by omega, fun _ => rfl, (fun e => by cases e), .inr ⟨b, off, s, f, rfl, hB, hb, hs, hcell, hval⟩⟩

theorem VR.ro_mk {φ : Names} {B : Nat → Prop} {w : World} {q : Bool} {xs : List AV} {a : Option Addr} {c n : Nat} (hn : n = xs.length) (hc : xs.length ≤ c) (ha : q = true → a.isSome = true) (hac : a = none → c = 0)
    (h : xs = [] ∨ ∃ (b off s : Nat) (f : Nat → Value), a = some ⟨b, off, none⟩ ∧ ¬ B b ∧ b < w.heap.size ∧ (∀ x ∈ xs, x.flat.length = s) ∧
      (∀ (j : Nat) u, (xs.flatMap AV.flat)[j]? = some u → w.cell? ⟨b, off + j, none⟩ = some (f j)) ∧ (∀ (j : Nat) u, (xs.flatMap AV.flat)[j]? = some u → VR φ B w u (f j))) : VR φ B w (.ro q xs) (.slice a n c) := by
  subst hn
  rcases h with rfl | ⟨b, off, s, f, rfl, hB, hb, hs, hcell, hval⟩
  · exact .roNil q a c ha hac
  · exact .ro q xs _ b off c s f rfl hc hB hb hs hcell hval

theorem VR.ro_sub {φ : Names} {B : Nat → Prop} {w : World} {q : Bool} {xs : List AV} {A : Option Addr} {n c l m s : Nat} (h : VR φ B w (.ro q xs) (.slice A n c)) (hs : ∀ x ∈ xs, x.flat.length = s) (hl : l ≤ m) (hm : m ≤ xs.length) :
    VR φ B w (.ro q ((xs.take m).drop l)) (sliced A l m c s) := by
  obtain ⟨a, c', e, hc, ha, hac, hx⟩ := h.ro_inv
  cases e
  unfold sliced
  have hlen : ((xs.take m).drop l).length = m - l := by simp; omega
  refine VR.ro_mk hlen.symm (by omega) ?_ ?_ ?_
  · intro e
    have := ha e
    split <;> simpa using this
  · intro e
    have : c = 0 := hac (by split at e <;> simpa using e)
    omega
  · by_cases hlm : l = m
    · left
      apply List.eq_nil_of_length_eq_zero
      omega
    · right
      rcases hx with rfl | ⟨b, off, s', f, rfl, hB, hb, hs', hcell, hval⟩
      · simp at hm; omega
      · have hss : s' = s := by
          cases xs with
          | nil => simp at hm; omega
          | cons x xs => rw [← hs' x (by simp), ← hs x (by simp)]
        subst hss
        have hne : c ≠ l := by omega
        have hsub : ∀ x ∈ (xs.take m).drop l, x.flat.length = s' := fun x hx => hs x (List.mem_of_mem_take (List.mem_of_mem_drop hx))
        have hget : ∀ (j : Nat) u, (((xs.take m).drop l).flatMap AV.flat)[j]? = some u → (xs.flatMap AV.flat)[l * s' + j]? = some u := by
          intro j u hu
          rw [flatMap_drop (s := s') (fun x hx => hs x (List.mem_of_mem_take hx)), flatMap_take hs, List.getElem?_drop, List.getElem?_take] at hu
          split at hu
          · exact hu
          · cases hu
        refine ⟨b, off + l * s', s', fun j => f (l * s' + j), ?_, hB, hb, hsub, ?_, ?_⟩
        · rw [if_neg hne]
          simp [add_plain]
        · intro j u hu
          rw [Nat.add_assoc]
          exact hcell _ u (hget j u hu)
        · intro j u hu
          exact hval _ u (hget j u hu)

section runs
variable {P : Program} {Θ : Types} {o : Oper} {φ : Names} {h : Heap} {w : World} {a : Act} {ρ : Operand → AV} {v : AV}

theorem run_sliceOp (hΘ : Θ.ok P) (H : HR φ w h) {t : TypeId} {x : Operand} {lo hi mx : Option Operand} (ho : o.op = .slice t x lo hi mx) (hx : ∀ y ∈ (Op.slice t x lo hi mx).operands, VR φ (own φ h) w (ρ y) (a.eval y))
    (hp : pOp P Θ ρ h (.slice t x lo hi mx) (fun u => u = v)) : OpRun P o φ h w a v := by
  simp only [pOp] at hp
  split at hp
  · rename_i e _ _ _ hd
    have hu := (hΘ t _ hd).slice
    have hel : P.elem t = e := by simp [Program.elem, hu]
    split at hp
    · rename_i d hde
      have hsz := (hΘ e d hde).sizeOf (w := w)
      have hu' : P.underlying t = some (.slice (P.elem t)) := by rw [hel]; exact hu
      split at hp
      · exact hp.elim
      · rename_i hmx
        have hmx' : mx = none := by cases mx <;> simp at hmx ⊢
        subst hmx'
        have vx := hx x (by simp [Op.operands])
        have vlo : ∀ y, lo = some y → VR φ (own φ h) w (ρ y) (a.eval y) := fun y hy => hx y (by subst hy; simp [Op.operands])
        have vhi : ∀ y, hi = some y → VR φ (own φ h) w (ρ y) (a.eval y) := fun y hy => hx y (by subst hy; simp [Op.operands])
        split at hp
        · rename_i q xs e1 e2 e3
          subst hp
          rw [e1] at vx
          have hlo : lo = none := by cases lo <;> simp at e2 ⊢
          have hhi : hi = none := by cases hi <;> simp at e3 ⊢
          subst hlo; subst hhi
          obtain ⟨A, c, eV, hc, hA, hAc, hX⟩ := vx.ro_inv
          refine OpRun.same H (x := sliced A 0 xs.length c d.size) ?_ ?_
          · simp [execOp, ho, eV, run_sliceAt_slice _ _ _ _ _ _ hu', run_slice_all _ _ _ _ _ hu', hel, hsz]
          · unfold sliced
            have hA' : (if c = 0 then A else A.map (·.add (0 * d.size))) = A := by cases A <;> simp [Addr.add]
            rw [hA', Nat.sub_zero, Nat.sub_zero]
            exact VR.ro_mk rfl hc hA hAc hX
        · rename_i q xs k b e1 e2 e3
          obtain ⟨h0, h1, hs, rfl⟩ := hp
          rw [e1] at vx
          obtain ⟨y, rfl, ey⟩ := Option.map_eq_some_iff.1 e2
          have hhi : hi = none := by cases hi <;> simp at e3 ⊢
          subst hhi
          have vy := vlo y rfl
          rw [ey] at vy
          obtain ⟨A, c, eV, hc, hA, hAc, hX⟩ := vx.ro_inv
          have hq := VR.ro_sub (l := b.toNat) (m := xs.length) (by rw [← eV]; exact vx) hs (by omega) (Nat.le_refl _)
          rw [List.take_length] at hq
          refine OpRun.same H ?_ hq
          simp [execOp, ho, eV, vy.int_inv, run_sliceAt_slice _ _ _ _ _ _ hu', run_slice_l _ _ _ _ _ hu' _ _ h0 h1, hel, hsz]
        · rename_i q xs k b e1 e2 e3
          obtain ⟨h0, h1, hs, rfl⟩ := hp
          rw [e1] at vx
          obtain ⟨y, rfl, ey⟩ := Option.map_eq_some_iff.1 e3
          have hlo : lo = none := by cases lo <;> simp at e2 ⊢
          subst hlo
          have vy := vhi y rfl
          rw [ey] at vy
          obtain ⟨A, c, eV, hc, hA, hAc, hX⟩ := vx.ro_inv
          have hq := VR.ro_sub (l := 0) (m := b.toNat) (by rw [← eV]; exact vx) hs (by omega) (by omega)
          rw [List.drop_zero] at hq
          refine OpRun.same H ?_ hq
          simp [execOp, ho, eV, vy.int_inv, run_sliceAt_slice _ _ _ _ _ _ hu', run_slice_h (P := P) w t A xs.length c hu' k b h0 (by omega), hel, hsz]
        · rename_i q xs k b k' b' e1 e2 e3
          obtain ⟨h0, h1, h2, hs, rfl⟩ := hp
          rw [e1] at vx
          obtain ⟨y, rfl, ey⟩ := Option.map_eq_some_iff.1 e2
          obtain ⟨z, rfl, ez⟩ := Option.map_eq_some_iff.1 e3
          have vy := vlo y rfl
          rw [ey] at vy
          have vz := vhi z rfl
          rw [ez] at vz
          obtain ⟨A, c, eV, hc, hA, hAc, hX⟩ := vx.ro_inv
          have hq := VR.ro_sub (l := b.toNat) (m := b'.toNat) (by rw [← eV]; exact vx) hs (by omega) (by omega)
          refine OpRun.same H ?_ hq
          simp [execOp, ho, eV, vy.int_inv, vz.int_inv, run_sliceAt_slice _ _ _ _ _ _ hu', run_slice_lh (P := P) w t A xs.length c hu' k k' b b' h0 h1 (by omega), hel, hsz]
        · rename_i ob n k b e1 e2 e3
          obtain ⟨h0, h1, h2, rfl⟩ := hp
          rw [e1] at vx
          obtain ⟨y, rfl, ey⟩ := Option.map_eq_some_iff.1 e3
          have hlo : lo = none := by cases lo <;> simp at e2 ⊢
          subst hlo
          have vy := vhi y rfl
          rw [ey] at vy
          generalize hq : a.eval x = V at vx
          cases vx with
          | muN o hl => omega
          | mu o n b' cap hl hn =>
            refine OpRun.same H (x := sliced (some ⟨b', 0, none⟩) 0 b.toNat cap d.size) ?_ ?_
            · simp [execOp, ho, hq, vy.int_inv, run_sliceAt_slice _ _ _ _ _ _ hu', run_slice_h (P := P) w t (some ⟨b', 0, none⟩) n cap hu' k b h0 (by omega), hel, hsz]
            · unfold sliced
              have hA' : (if cap = 0 then some (⟨b', 0, none⟩ : Addr) else (some (⟨b', 0, none⟩ : Addr)).map (·.add (0 * d.size))) = some ⟨b', 0, none⟩ := by simp [Addr.add]
              rw [hA', Nat.sub_zero, Nat.sub_zero]
              exact .mu ob _ b' cap hl (by omega)
        · rename_i ob n k b e1 e2 e3
          obtain ⟨h0, h1, h2, rfl⟩ := hp
          rw [e1] at vx
          obtain ⟨y, rfl, ey⟩ := Option.map_eq_some_iff.1 e2
          have hhi : hi = none := by cases hi <;> simp at e3 ⊢
          subst hhi
          have vy := vlo y rfl
          rw [ey] at vy
          generalize hq : a.eval x = V at vx
          cases vx with
          | muN o hl => omega
          | mu o n b' cap hl hn =>
            refine OpRun.same H (x := sliced (some ⟨b', 0, none⟩) b.toNat n cap d.size) ?_ ?_
            · simp [execOp, ho, hq, vy.int_inv, run_sliceAt_slice _ _ _ _ _ _ hu', run_slice_l (P := P) w t (some ⟨b', 0, none⟩) n cap hu' k b h0 (by omega), hel, hsz]
            · unfold sliced
              have hc : ¬ cap = b.toNat := by omega
              have hA' : (if cap = b.toNat then some (⟨b', 0, none⟩ : Addr) else (some (⟨b', 0, none⟩ : Addr)).map (·.add (b.toNat * d.size))) = some ⟨b', b.toNat, none⟩ := by
                rw [if_neg hc, h2, Nat.mul_one]
                show some (Addr.add _ _) = _
                unfold Addr.add
                split <;> simp_all
              rw [hA']
              exact .mus ob _ _ b' cap _ hl (by omega) (by omega)
        · exact hp.elim
    · exact hp.elim
  · rename_i m e _ _ _ hd
    have hu : P.underlying t = some (.array m e) := (hΘ t _ hd).2
    have hel : P.elem t = e := by simp [Program.elem, hu]
    have hal : P.arrayLen t = m := by simp [Program.arrayLen, hu]
    split at hp
    · rename_i d cs hde e1
      obtain ⟨⟨q1, q2, q3, q4, q5, q6⟩, rfl⟩ := hp
      have hmx : mx = none := by cases mx <;> simp at q1 ⊢
      have hlo : lo = none := by cases lo <;> simp at q2 ⊢
      have hhi : hi = none := by cases hi <;> simp at q3 ⊢
      subst hmx; subst hlo; subst hhi
      have hsz := (hΘ e d hde).sizeOf (w := w)
      have hu' : P.underlying t = some (.array (P.arrayLen t) (P.elem t)) := by rw [hal, hel]; exact hu
      have vx := hx x (by simp [Op.operands])
      rw [e1] at vx
      generalize hq : a.eval x = V at vx
      cases vx with
      | rop _ b off f hB hb hcell hval =>
        have ef : (cs.take m).flatMap AV.flat = cs.take m := by
          have : ∀ l : List AV, (∀ y ∈ l, y.flat = [y]) → l.flatMap AV.flat = l := by
            intro l
            induction l with
            | nil => intro _; rfl
            | cons a l ih => intro h; rw [List.flatMap_cons, h a (by simp), ih fun u hu => h u (by simp [hu])]; rfl
          exact this _ q6
        have hget : ∀ (j : Nat) u, (cs.take m)[j]? = some u → cs[j]? = some u := fun j u hj => by
          rw [List.getElem?_take] at hj
          split at hj
          · exact hj
          · cases hj
        refine OpRun.same H (x := .slice (some ⟨b, off, none⟩) m m) ?_ ?_
        · simp [execOp, ho, hq, run_sliceAt_array_all w t ⟨b, off, none⟩ hu', hal, hel, hsz, slicedAt, Addr.add]
        · exact .ro true (cs.take m) m b off m 1 f (by simp; omega) (Nat.le_refl _) hB hb (fun y hy => by rw [q6 y hy]; rfl) (fun j u hj => hcell j u (hget j u (by rw [ef] at hj; exact hj))) (fun j u hj => hval j u (hget j u (by rw [ef] at hj; exact hj)))
    · exact hp.elim
  · exact hp.elim
end runs
end Go.Par

set_option linter.unusedSimpArgs false
namespace Go.Par

theorem fillA_seq (s : Nat) : ∀ (us : List (Nat × AV)) (i0 : Nat) (cs : List AV), us.map Prod.fst = List.range' i0 us.length → (∀ u ∈ us, u.2.known = true ∧ u.2.flat.length = s) → (i0 + us.length) * s ≤ cs.length →
    ∃ cs', fillA (fun i => some (i * s, s)) cs us = some cs' ∧ cs'.length = cs.length ∧ ∀ j : Nat, cs'[j]? = if i0 * s ≤ j ∧ j < (i0 + us.length) * s then ((us.map Prod.snd).flatMap AV.flat)[j - i0 * s]? else cs[j]? := by
  intro us
  induction us with
  | nil => intro i0 cs _ _ _; exact ⟨cs, rfl, rfl, fun j => by rw [if_neg (by simp)]⟩
  | cons u us ih =>
    intro i0 cs hi hk hle
    obtain ⟨i, u⟩ := u
    simp only [List.map_cons, List.length_cons, List.range'_succ, List.cons.injEq] at hi
    obtain ⟨rfl, hi⟩ := hi
    obtain ⟨k1, k2⟩ := hk (i, u) (by simp)
    simp only at k1 k2
    simp only [List.length_cons] at hle
    have e1 : (i + 1) * s = i * s + s := Nat.succ_mul i s
    have e2 : (i + (us.length + 1)) * s = (i + 1 + us.length) * s := by congr 1; omega
    have e3 : (i + 1) * s ≤ (i + 1 + us.length) * s := Nat.mul_le_mul_right _ (by omega)
    obtain ⟨cs', h1, h2, h3⟩ := ih (i + 1) (setAt cs (i * s) u.flat) hi (fun u hu => hk u (by simp [hu])) (by rw [setAt_length, ← e2]; exact hle)
    refine ⟨cs', ?_, by rw [h2, setAt_length], fun j => ?_⟩
    · simp only [fillA]
      rw [if_pos ⟨k1, k2, by omega⟩]
      exact h1
    · rw [h3 j, setAt_get _ _ _ _ (by omega)]
      simp only [List.length_cons, List.map_cons, List.flatMap_cons]
      rw [e2]
      by_cases c1 : (i + 1) * s ≤ j ∧ j < (i + 1 + us.length) * s
      · rw [if_pos c1, if_pos (by omega), List.getElem?_append_right (by omega)]
        congr 1
        omega
      · rw [if_neg c1]
        by_cases c2 : i * s ≤ j ∧ j < i * s + u.flat.length
        · rw [if_pos c2, if_pos (by omega), List.getElem?_append_left (by omega)]
        · rw [if_neg c2, if_neg (by omega)]

section runs
variable {P : Program} {Θ : Types} {o : Oper} {φ : Names} {h : Heap} {w : World} {a : Act} {ρ : Operand → AV} {v : AV}

theorem buildSlice_core (hΘ : Θ.ok P) {t : TypeId} {n : Nat} {ps : Array (Nat × Operand)} (hx : ∀ x ∈ (Op.buildSlice t n ps).operands, VR φ (own φ h) w (ρ x) (a.eval x))
    {e : TypeId} {sz bt : Nat} {z : Value} {d : TD} (hd : Θ t = some ⟨.slice e, sz, bt, z⟩) (hde : Θ e = some d) (hr : ps.toList.map Prod.fst = List.range n) (hle : n * d.size ≤ 16777216) (hk : ∀ p ∈ ps.toList, (ρ p.2).known = true ∧ (ρ p.2).flat.length = d.size) :
    ∃ xs' : Array Value, (Instr.buildSlice t n (ps.map fun (i, x) => (i, a.eval x))).run P w = .ok (.slice (some ⟨w.heap.size, 0, none⟩) n n) (w.alloc (.cells xs' e)) ∧ ps.toList.length = n ∧
      ((ps.toList.map fun p => ρ p.2).flatMap AV.flat).length = xs'.size ∧ xs'.size = n * d.size ∧ ∀ j u, ((ps.toList.map fun p => ρ p.2).flatMap AV.flat)[j]? = some u → VR φ (own φ h) w u (xs'.getD j undef) := by
  have hu := (hΘ t _ hd).slice
  have ok := hΘ e d hde
  have hlen : ps.toList.length = n := by
    have := congrArg List.length hr
    simpa using this
  have hfst : ((ps.toList.map fun p => (p.1, ρ p.2)).map Prod.fst) = List.range' 0 (ps.toList.map fun p => (p.1, ρ p.2)).length := by
    rw [List.map_map, List.length_map, hlen, ← List.range_eq_range', ← hr]
    rfl
  obtain ⟨cs', f1, f2, f3⟩ := fillA_seq d.size (ps.toList.map fun p => (p.1, ρ p.2)) 0 (List.replicate (n * d.size) .any) hfst (by
    intro u hu
    obtain ⟨p, hp, rfl⟩ := List.mem_map.1 hu
    exact hk p hp) (by rw [List.length_map, hlen]; simp)
  have hzc : ∃ zc : Array Value, zc.size = n * d.size ∧ ∀ cells, Instr.fill (fun i => some (i * d.size, d.size)) zc (ps.toList.map fun p => (p.1, a.eval p.2)) = some cells →
      (Instr.buildSlice t n (ps.map fun (i, x) => (i, a.eval x))).run P w = .ok (.slice (some ⟨w.heap.size, 0, none⟩) n n) (w.alloc (.cells cells e)) := by
    by_cases hz0 : n * d.size = 0
    · refine ⟨(Array.range (n * d.size)).map fun i => (#[] : Array Value)[i % (#[] : Array Value).size]!, by simp, fun cells hc => ?_⟩
      simp only [Instr.buildSlice, Sem.run_bind, run_underlying hu, Result.andThen_ok, ok.sizeOf]
      rw [if_neg (by omega), if_pos hz0]
      simp only [Sem.run_pure, Result.andThen_ok, map_parts, Sem.run_bind, hc]
      simp [newRow]
    · refine ⟨(Array.range (n * d.size)).map fun i => d.zero.cells[i % d.zero.cells.size]!, by simp, fun cells hc => ?_⟩
      simp only [Instr.buildSlice, Sem.run_bind, run_underlying hu, Result.andThen_ok, ok.sizeOf]
      rw [if_neg (by omega), if_neg hz0]
      simp only [Sem.run_pure, Result.andThen_ok, map_parts, Sem.run_bind, ok.zero, hc]
      simp [newRow]
  obtain ⟨zc, hzs, hrun⟩ := hzc
  obtain ⟨xs', g1, g2⟩ := fill_run (φ := φ) (B := own φ h) (w := w) (fun i => some (i * d.size, d.size)) (ps.toList.map fun p => (p.1, ρ p.2)) (ps.toList.map fun p => (p.1, a.eval p.2)) (List.replicate (n * d.size) .any) cs' zc (by simp) (by
    intro j u v hu hv
    simp only [List.getElem?_map, Option.map_eq_some_iff] at hu hv
    obtain ⟨p, hp, rfl⟩ := hu
    obtain ⟨p', hp', rfl⟩ := hv
    rw [hp] at hp'
    cases hp'
    exact hx _ (by
      simp only [Op.operands, List.mem_toArray, List.mem_map]
      exact ⟨p, List.mem_of_getElem? hp, rfl⟩)) ⟨by simp [hzs], fun j u hu => by
        have := List.mem_of_getElem? hu
        rw [(List.mem_replicate.1 this).2]
        exact .any _⟩ f1
  have hrun := hrun _ g1
  have hflat : cs' = (ps.toList.map fun p => ρ p.2).flatMap AV.flat := by
    apply List.ext_getElem?
    intro j
    rw [f3 j]
    simp only [Nat.zero_mul, List.length_map, hlen, Nat.zero_add, Nat.sub_zero, List.map_map]
    have hL : ((ps.toList.map fun p => ρ p.2).flatMap AV.flat).length = n * d.size := by
      have : ∀ (l : List (Nat × Operand)), (∀ p ∈ l, (ρ p.2).flat.length = d.size) → ((l.map fun p => ρ p.2).flatMap AV.flat).length = l.length * d.size := by
        intro l
        induction l with
        | nil => intro _; simp
        | cons p l ih => intro hl; rw [List.map_cons, List.flatMap_cons, List.length_append, ih (fun p hp => hl p (by simp [hp])), hl p (by simp), List.length_cons, Nat.succ_mul]; omega
      rw [this _ (fun p hp => (hk p hp).2), hlen]
    by_cases hj : j < n * d.size
    · rw [if_pos ⟨Nat.zero_le _, hj⟩]; rfl
    · rw [if_neg (by omega), List.getElem?_eq_none (by simp; omega), List.getElem?_eq_none (by omega)]
  subst hflat
  have hL : ((ps.toList.map fun p => ρ p.2).flatMap AV.flat).length = n * d.size := by
    have : ∀ (l : List (Nat × Operand)), (∀ p ∈ l, (ρ p.2).flat.length = d.size) → ((l.map fun p => ρ p.2).flatMap AV.flat).length = l.length * d.size := by
      intro l
      induction l with
      | nil => intro _; simp
      | cons p l ih => intro hl; rw [List.map_cons, List.flatMap_cons, List.length_append, ih (fun p hp => hl p (by simp [hp])), hl p (by simp), List.length_cons, Nat.succ_mul]; omega
    rw [this _ (fun p hp => (hk p hp).2), hlen]
  exact ⟨xs', hrun, hlen, g2.1, by rw [← g2.1, hL], g2.2⟩

theorem run_buildSlice (hΘ : Θ.ok P) (H : HR φ w h) {t : TypeId} {n : Nat} {ps : Array (Nat × Operand)} (ho : o.op = .buildSlice t n ps) (hx : ∀ x ∈ (Op.buildSlice t n ps).operands, VR φ (own φ h) w (ρ x) (a.eval x))
    (hp : pOp P Θ ρ h (.buildSlice t n ps) (fun u => u = v)) : OpRun P o φ h w a v := by
  simp only [pOp] at hp
  split at hp
  · rename_i e _ _ _ hd
    split at hp
    · rename_i d hde
      obtain ⟨hr, hle, hk, rfl⟩ := hp
      obtain ⟨xs', hrun, hlen, g1, g3, g2⟩ := buildSlice_core (h := h) hΘ hx hd hde hr hle hk
      have hnew := VR.new_ro (φ := φ) (h := h) (w := w) H e true (ps.toList.map fun p => ρ p.2) xs' d.size n (by simp [← hlen]) (by
        intro x hx
        obtain ⟨p, hp, rfl⟩ := List.mem_map.1 hx
        exact (hk p hp).2) g1 g2 n (Nat.le_refl _)
      refine OpRun.alloc H ?_ hnew
      simp [execOp, ho, hrun]
    · exact hp.elim
  · exact hp.elim

theorem run_makeSliceOp (hΘ : Θ.ok P) (H : HR φ w h) {t : TypeId} {l c : Operand} (ho : o.op = .makeSlice t l c) (hx : ∀ x ∈ (Op.makeSlice t l c).operands, VR φ (own φ h) w (ρ x) (a.eval x))
    (hp : pOp P Θ ρ h (.makeSlice t l c) (fun u => u = v)) : OpRun P o φ h w a v := by
  simp only [pOp] at hp
  split at hp
  · rename_i e _ _ _ k1 n k2 m hd e1 e2
    have hu := (hΘ t _ hd).slice
    split at hp
    · rename_i d hde
      have ok := hΘ e d hde
      obtain ⟨i, hi, i1, i2, i3⟩ := ok.1
      obtain ⟨rfl, h0, hb, hm, hk, hfl, rfl⟩ := hp
      have v1 := hx l (by simp [Op.operands])
      have v2 := hx c (by simp [Op.operands])
      rw [e1] at v1
      rw [e2] at v2
      have hz : VR φ (own φ h) w (absV d.zero) d.zero := absV_VR _ _ _ _
      have hzf := hz.flat hk
      have hr := run_make (P := P) w t e i d.zero hu hi i3 k1 k2 n n h0 (Int.le_refl _) (by rw [i2]; omega) (by omega)
      have hnew := VR.new_ro (φ := φ) (h := h) (w := w) H e true (List.replicate n.toNat (absV d.zero)) (madeCells d.zero.cells (n.toNat * i.size)) d.size n.toNat (by simp) (by
        intro x hx
        rw [(List.mem_replicate.1 hx).2, hfl]) (by
          have : ∀ m : Nat, ((List.replicate m (absV d.zero)).flatMap AV.flat).length = m * d.size := by
            intro m
            induction m with
            | zero => simp
            | succ m ih => rw [List.replicate_succ, List.flatMap_cons, List.length_append, ih, hfl, Nat.succ_mul]; omega
          rw [this, size_madeCells, i1]) (by
          intro j u hu
          rw [replicate_flat, hfl] at hu
          split at hu
          · rename_i hj
            have h2 := hzf.2 _ _ hu
            have e : (madeCells d.zero.cells (n.toNat * i.size)).getD j undef = d.zero.cells.getD (j % d.size) undef := by
              have hlt : j % d.size < d.zero.cells.size := by rw [← hzf.1, hfl]; exact Nat.mod_lt _ (by rcases Nat.eq_zero_or_pos d.size with h | h; (rw [h] at hj; omega); exact h)
              have hs : d.zero.cells.size = d.size := by rw [← hzf.1, hfl]
              simp [madeCells, i1, hj, hs, getElem!_def, Array.getElem?_eq_getElem hlt]
            rw [e]
            exact h2
          · cases hu) n.toNat (Nat.le_refl _)
      refine OpRun.alloc H ?_ hnew
      simp [execOp, ho, v1.int_inv, v2.int_inv, hr]
    · exact hp.elim
  · exact hp.elim

theorem run_fieldAddr (hΘ : Θ.ok P) (H : HR φ w h) {t : TypeId} {x : Operand} {f : Nat} (ho : o.op = .fieldAddr t x f) (hx : ∀ y ∈ (Op.fieldAddr t x f).operands, VR φ (own φ h) w (ρ y) (a.eval y))
    (hp : pOp P Θ ρ h (.fieldAddr t x f) (fun u => u = v)) : OpRun P o φ h w a v := by
  simp only [pOp] at hp
  split at hp
  · rename_i fs _ _ _ hd
    obtain ⟨l, hl, hfs⟩ := (hΘ t _ hd).2
    split at hp
    · rename_i off size ft hf
      obtain ⟨hne, hp⟩ := hp
      have hf' : ∃ F : Field, l[f]? = some F ∧ F.offset = off ∧ (sizeOf F.type).run P w = .ok size w := by
        have := congrArg (·[f]?) hfs
        simp only [List.getElem?_map, hf, Option.map_some, Option.map_eq_some_iff] at this
        obtain ⟨F, hF, he⟩ := this
        simp only [Prod.mk.injEq, Option.map_eq_some_iff] at he
        obtain ⟨e1, ⟨i, hi, e2⟩, _⟩ := he
        exact ⟨F, by simpa using hF, e1, by simp [sizeOf, typeInfo, hi, e2]⟩
      obtain ⟨F, hF, e1, e2⟩ := hf'
      have vx := hx x (by simp [Op.operands])
      have run : ∀ b q, (Instr.fieldAt t (.pointer (some ⟨b, q, none⟩)) f).run P w = .ok (.pointer (some ⟨b, q + off, none⟩)) w := by
        intro b q
        simp [Instr.fieldAt, run_underlying hl, hF, Instr.sureAddr, fieldPlace, e2, hne, e1, add_plain]
      split at hp
      · rename_i cs e3
        subst hp
        rw [e3] at vx
        generalize hq : a.eval x = V at vx
        cases vx with
        | rop _ b q g hB hb hcell hval =>
          refine OpRun.same H (x := .pointer (some ⟨b, q + off, none⟩)) ?_ ?_
          · simp [execOp, ho, hq, run]
          · refine .rop _ b (q + off) (fun j => g (off + j)) hB hb ?_ ?_
            · intro j u hu
              rw [List.getElem?_drop] at hu
              rw [Nat.add_assoc]
              exact hcell _ u hu
            · intro j u hu
              rw [List.getElem?_drop] at hu
              exact hval _ u hu
      · rename_i ob q e3
        subst hp
        rw [e3] at vx
        generalize hq : a.eval x = V at vx
        cases vx with
        | ptr _ _ b cap hl' =>
          refine OpRun.same H (x := .pointer (some ⟨b, q + off, none⟩)) ?_ (.ptr _ _ b cap hl')
          simp [execOp, ho, hq, run]
      · exact hp.elim
    · exact hp.elim
  · exact hp.elim

theorem run_indexAddr (hΘ : Θ.ok P) (H : HR φ w h) {t : TypeId} {x i : Operand} (ho : o.op = .indexAddr t x i) (hx : ∀ y ∈ (Op.indexAddr t x i).operands, VR φ (own φ h) w (ρ y) (a.eval y))
    (hp : pOp P Θ ρ h (.indexAddr t x i) (fun u => u = v)) : OpRun P o φ h w a v := by
  simp only [pOp] at hp
  have vx := hx x (by simp [Op.operands])
  have vi := hx i (by simp [Op.operands])
  split at hp
  · rename_i e _ _ _ q xs k n hd e1 e2
    have hu := (hΘ t _ hd).slice
    rw [e1] at vx
    rw [e2] at vi
    split at hp
    · rename_i d hde
      have ok := hΘ e d hde
      obtain ⟨⟨h0, h1⟩, hs, rfl⟩ := hp
      obtain ⟨A, c, eV, hc, hA, _, hX⟩ := vx.ro_inv
      rcases hX with rfl | ⟨b, off, s, f, rfl, hB, hb, hss, hcell, hval⟩
      · simp at h1; omega
      · have hlt : n.toNat < xs.length := by omega
        have hxs : xs.getD n.toNat .any = xs[n.toNat] := by simp [hlt]
        have hsd : s = d.size := by rw [← hs, hxs]; exact (hss _ (List.getElem_mem hlt)).symm
        subst hsd
        refine OpRun.same H (x := .pointer (some ⟨b, off + n.toNat * d.size, none⟩)) ?_ ?_
        · simp [execOp, ho, eV, vi.int_inv, Instr.indexAt, asIntOf, run_underlying hu, h0, h1, ok.sizeOf, add_plain]
        · have hget : ∀ (j : Nat) u, (xs.getD n.toNat .any).flat[j]? = some u → (xs.flatMap AV.flat)[n.toNat * d.size + j]? = some u := by
            intro j u hu
            have hj : j < d.size := by rw [← hs]; exact (List.getElem?_eq_some_iff.1 hu).1
            rw [flatMap_getElem hss _ _ hj, List.getElem?_eq_getElem hlt]
            rw [hxs] at hu
            exact hu
          refine .rop _ b _ (fun j => f (n.toNat * d.size + j)) hB hb ?_ ?_
          · intro j u hu
            rw [Nat.add_assoc]
            exact hcell _ u (hget j u hu)
          · intro j u hu
            exact hval _ u (hget j u hu)
    · exact hp.elim
  · rename_i e _ _ _ ob m k n hd e1 e2
    have hu := (hΘ t _ hd).slice
    rw [e1] at vx
    rw [e2] at vi
    split at hp
    · rename_i d hde
      have ok := hΘ e d hde
      obtain ⟨⟨h0, h1⟩, rfl⟩ := hp
      generalize hq : a.eval x = V at vx
      cases vx with
      | muN o hl => simp at h1; omega
      | mu _ _ b cap hl hn =>
        refine OpRun.same H (x := .pointer (some ⟨b, n.toNat * d.size, none⟩)) ?_ (.ptr _ _ b cap hl)
        simp [execOp, ho, hq, vi.int_inv, Instr.indexAt, asIntOf, run_underlying hu, h0, h1, ok.sizeOf, add_plain]
    · exact hp.elim
  · rename_i m e _ _ _ ob q k n hd e1 e2
    have hu : P.underlying t = some (.array m e) := (hΘ t _ hd).2
    rw [e1] at vx
    rw [e2] at vi
    split at hp
    · rename_i d hde
      have ok := hΘ e d hde
      obtain ⟨⟨h0, h1⟩, rfl⟩ := hp
      generalize hq : a.eval x = V at vx
      cases vx with
      | ptr _ _ b cap hl =>
        refine OpRun.same H (x := .pointer (some ⟨b, q + n.toNat * d.size, none⟩)) ?_ (.ptr _ _ b cap hl)
        simp [execOp, ho, hq, vi.int_inv, Instr.indexAt, asIntOf, run_underlying hu, Instr.sureAddr, h0, h1, ok.sizeOf, add_plain]
    · exact hp.elim
  · rename_i m e _ _ _ cs k n hd e1 e2
    have hu : P.underlying t = some (.array m e) := (hΘ t _ hd).2
    rw [e1] at vx
    rw [e2] at vi
    split at hp
    · rename_i d hde
      have ok := hΘ e d hde
      obtain ⟨⟨h0, h1⟩, rfl⟩ := hp
      generalize hq : a.eval x = V at vx
      cases vx with
      | rop _ b off f hB hb hcell hval =>
        refine OpRun.same H (x := .pointer (some ⟨b, off + n.toNat * d.size, none⟩)) ?_ ?_
        · simp [execOp, ho, hq, vi.int_inv, Instr.indexAt, asIntOf, run_underlying hu, Instr.sureAddr, h0, h1, ok.sizeOf, add_plain]
        · refine .rop _ b _ (fun j => f (n.toNat * d.size + j)) hB hb ?_ ?_
          · intro j u hu
            rw [List.getElem?_drop] at hu
            rw [Nat.add_assoc]
            exact hcell _ u hu
          · intro j u hu
            rw [List.getElem?_drop] at hu
            exact hval _ u hu
    · exact hp.elim
  · exact hp.elim
end runs
end Go.Par

set_option linter.unusedSimpArgs false
namespace Go.Par

section runs
variable {P : Program} {Θ : Types} {o : Oper} {φ : Names} {h : Heap} {w : World} {a : Act} {ρ : Operand → AV} {v : AV}

theorem VRs.map (xs : List Operand) (f : Operand → Value) (hx : ∀ x ∈ xs, VR φ (own φ h) w (ρ x) (f x)) : VRs φ (own φ h) w (xs.map ρ) (xs.toArray.map f) := by
  refine ⟨by simp, fun j u hu => ?_⟩
  simp only [List.getElem?_map, Option.map_eq_some_iff] at hu
  obtain ⟨x, hx', rfl⟩ := hu
  have : (xs.toArray.map f).getD j undef = f x := by simp [hx']
  rw [this]
  exact hx x (List.mem_of_getElem? hx')

theorem VRs.append {us us' : List AV} {vs vs' : Array Value} (h1 : VRs φ (own φ h) w us vs) (h2 : VRs φ (own φ h) w us' vs') : VRs φ (own φ h) w (us ++ us') (vs ++ vs') := by
  refine ⟨by simp [h1.1, h2.1], fun j u hu => ?_⟩
  have e := h1.1
  by_cases hj : j < us.length
  · rw [List.getElem?_append_left hj] at hu
    have : (vs ++ vs').getD j undef = vs.getD j undef := by simp [Array.getElem?_append, ← e, hj]
    rw [this]
    exact h1.2 j u hu
  · rw [List.getElem?_append_right (by omega)] at hu
    have : (vs ++ vs').getD j undef = vs'.getD (j - us.length) undef := by simp [Array.getElem?_append, ← e, hj]
    rw [this]
    exact h2.2 _ u hu

theorem run_callA (H : HR φ w h) {c : Call} {f : Operand} (ho : o.op = .call c) (hc : c.callee = .value f) (hx : ∀ y ∈ (Op.call c).operands, VR φ (own φ h) w (ρ y) (a.eval y))
    (hp : callA P (ρ f) (c.args.toList.map ρ) (fun u => u = v)) : OpRun P o φ h w a v := by
  unfold callA at hp
  split at hp
  · rename_i g cap e
    obtain ⟨r, hr, rfl⟩ := hp
    have vf := hx f (by simp [Op.operands, Call.operands, hc])
    rw [e] at vf
    generalize hq : a.eval f = V at vf
    cases vf with
    | clo _ _ vs hl hv =>
      have hargs := VRs.map (ρ := ρ) c.args.toList a.eval (fun x hx' => hx x (by
        simp only [Op.operands, Call.operands, hc, Array.mem_append]
        exact .inr (by simpa using hx')))
      have hall := hargs.append (us' := cap) (vs' := vs) ⟨hl, hv⟩
      obtain ⟨h1, h2⟩ := hr h
      have hcall := h2 φ w _ H hall
      rw [Array.toArray_toList] at hcall
      intro next Q hn
      unfold Oper.wp
      have hrun : (execOp a.eval o).run P w = .ok (.enter g (c.args.map a.eval ++ vs)) w := by
        simp [execOp, ho, resolve, hc, hq, Deferred.ofValue, invoke, h1 _ _]
      rw [hrun, Oper.upon_enter]
      refine Calls.mono hcall ?_
      rintro e' w' ⟨φ', h', r', v', e1, e2, e3, e5, e4, e6, e7⟩
      subst e5; subst e6; subst e7
      exact hn φ' w' v' e1 e2 e3 e4
  · rename_i g first e
    obtain ⟨r, hr, rfl⟩ := hp
    have vf := hx f (by simp [Op.operands, Call.operands, hc])
    rw [e] at vf
    generalize hq : a.eval f = V at vf
    cases vf with
    | bnd _ _ vs hl hv =>
      have hargs := VRs.map (ρ := ρ) c.args.toList a.eval (fun x hx' => hx x (by
        simp only [Op.operands, Call.operands, hc, Array.mem_append]
        exact .inr (by simpa using hx')))
      have hall := VRs.append (us := first) (vs := vs) ⟨hl, hv⟩ hargs
      obtain ⟨h1, h2⟩ := hr h
      have hcall := h2 φ w _ H hall
      rw [Array.toArray_toList] at hcall
      intro next Q hn
      unfold Oper.wp
      have hrun : (execOp a.eval o).run P w = .ok (.enter g (vs ++ c.args.map a.eval)) w := by
        simp [execOp, ho, resolve, hc, hq, Deferred.ofValue, invoke, h1 _ _]
      rw [hrun, Oper.upon_enter]
      refine Calls.mono hcall ?_
      rintro e' w' ⟨φ', h', r', v', e1, e2, e3, e5, e4, e6, e7⟩
      subst e5; subst e6; subst e7
      exact hn φ' w' v' e1 e2 e3 e4
  · exact hp.elim

theorem pOp_run (hΘ : Θ.ok P) (H : HR φ w h) (hx : ∀ y ∈ o.op.operands, VR φ (own φ h) w (ρ y) (a.eval y)) (hp : pOp P Θ ρ h o.op (fun u => u = v)) : OpRun P o φ h w a v := by
  generalize ho : o.op = op at hx hp
  cases op with
  | move x =>
    simp only [pOp] at hp
    subst hp
    exact OpRun.same H (by simp [execOp, ho]) (hx x (by simp [Op.operands]))
  | assign x =>
    simp only [pOp] at hp
    subst hp
    exact OpRun.same H (by simp [execOp, ho]) (hx x (by simp [Op.operands]))
  | pick c x y =>
    simp only [pOp] at hp
    split at hp
    · rename_i t e
      subst hp
      have vc := hx c (by simp [Op.operands])
      rw [e] at vc
      refine OpRun.same H (x := if t then a.eval x else a.eval y) (by simp [execOp, ho, vc.bool_inv, asBool]) ?_
      cases t
      · exact hx y (by simp [Op.operands])
      · exact hx x (by simp [Op.operands])
    · exact hp.elim
  | box t x =>
    obtain ⟨hk, rfl⟩ := hp
    have hf := (hx x (by simp [Op.operands])).flat hk
    refine OpRun.alloc H (x := .pointer (some ⟨w.heap.size, 0, none⟩)) (ob := .cells (a.eval x).cells t) ?_ (VR.new_rop H t _ _ hf.1 hf.2)
    simp [execOp, ho, Instr.box, newVar, newRow]
  | alloc t =>
    simp only [pOp] at hp
    split at hp
    · rename_i d hd
      obtain ⟨hk, rfl⟩ := hp
      have hz : VR φ (own φ h) w (absV d.zero) d.zero := absV_VR _ _ _ _
      have hf := hz.flat hk
      refine OpRun.alloc H (x := .pointer (some ⟨w.heap.size, 0, none⟩)) (ob := .cells d.zero.cells t) ?_ (VR.new_rop H t _ _ hf.1 hf.2)
      simp [execOp, ho, Instr.alloc, (hΘ t d hd).zero, newVar, newRow]
    · exact hp.elim
  | build t ps => exact run_build hΘ H ho hx hp
  | buildSlice t n ps => exact run_buildSlice hΘ H ho hx hp
  | load t x => exact run_load_ptr hΘ H ho (hx x (by simp [Op.operands])) hp
  | binOp op t x y u =>
    obtain ⟨q, h1, h2⟩ := run_binA hΘ (ox := x) (oy := y) (hx x (by simp [Op.operands])) (hx y (by simp [Op.operands])) hp
    refine OpRun.same H (x := q) ?_ h2
    simp only [execOp, ho, Sem.run_bind] at h1 ⊢
    rw [h1]
    rfl
  | unOp op t x =>
    simp only [pOp] at hp
    have vx := hx x (by simp [Op.operands])
    split at hp
    · rename_i b e
      subst hp
      rw [e] at vx
      exact OpRun.same H (x := .bool (!b)) (by simp [execOp, ho, vx.bool_inv, Op.unary]) (.bool _)
    · rename_i q n e
      subst hp
      rw [e] at vx
      exact OpRun.same H (x := .int q (q.wrap (0 - n))) (by simp [execOp, ho, vx.int_inv, Op.unary, Op.intArith]) (.int _ _)
    · exact hp.elim
  | convert s d x =>
    simp only [pOp] at hp
    have vx := hx x (by simp [Op.operands])
    split at hp
    · rename_i ds q _ _ _ k n hs hd e
      subst hp
      rw [e] at vx
      have hu : P.underlying d = some (.int q) := (hΘ d _ hd).2
      have hs' : (P.underlying s).isSome = true := by
        have := (hΘ s _ hs).2
        cases hsh : ds.sh with
        | prim =>
          rw [hsh] at this
          cases hq : P.underlying s with
          | none => simp [Sh.ok, hq] at this
          | some x => rfl
        | struct fs => rw [hsh] at this; obtain ⟨l, hl, _⟩ := this; simp [hl]
        | bool => rw [hsh] at this; simp [show P.underlying s = some .bool from this]
        | int k => rw [hsh] at this; simp [show P.underlying s = some (.int k) from this]
        | slice e => rw [hsh] at this; simp [show P.underlying s = some (.slice e) from this]
        | map k e => rw [hsh] at this; simp [show P.underlying s = some (.map k e) from this]
        | arr n e => rw [hsh] at this; simp [show P.underlying s = some (.array n e) from this]
      obtain ⟨D, hD⟩ := Option.isSome_iff_exists.1 hs'
      exact OpRun.same H (x := .int q (q.wrap n)) (by simp [execOp, ho, vx.int_inv, convert, run_underlying hD, run_underlying hu, Conv.intToInt]) (.int _ _)
    · exact hp.elim
  | makeFunc f x c =>
    cases f with
    | func f =>
      simp only [pOp] at hp
      split at hp
      · rename_i hsz
        subst hp
        have hx0 : x = #[] := by
          apply Array.eq_empty_of_size_eq_zero
          exact hsz
        subst hx0
        have hcap := VRs.map (ρ := ρ) c.toList a.eval (fun y hy => hx y (by simpa [Op.operands] using hy))
        refine OpRun.same H (x := .func (.func f) #[] (c.map a.eval)) (by simp [execOp, ho, Instr.makeFunc]) (.clo f _ _ (by simp) ?_)
        have := hcap.2
        simpa using this
      · split at hp
        · rename_i hsz
          subst hp
          have hc0 : c = #[] := by
            apply Array.eq_empty_of_size_eq_zero
            exact hsz
          subst hc0
          have hcap := VRs.map (ρ := ρ) x.toList a.eval (fun y hy => hx y (by simpa [Op.operands] using hy))
          refine OpRun.same H (x := .func (.func f) (x.map a.eval) #[]) (by simp [execOp, ho, Instr.makeFunc]) (.bnd f _ _ (by simp) ?_)
          have := hcap.2
          simpa using this
        · exact hp.elim
    | _ => exact hp.elim
  | makeSlice t l c => exact run_makeSliceOp hΘ H ho hx hp
  | slice t x lo hi mx => exact run_sliceOp hΘ H ho hx hp
  | fieldAddr t x f => exact run_fieldAddr hΘ H ho hx hp
  | field t x f =>
    simp only [pOp] at hp
    have vx := hx x (by simp [Op.operands])
    split at hp
    · rename_i fs _ _ _ hd
      obtain ⟨l, hl, hfs⟩ := (hΘ t _ hd).2
      split at hp
      · rename_i off size ft cs hf e
        rw [e] at vx
        generalize hq : a.eval x = V at vx
        have := congrArg (·[f]?) hfs
        simp only [List.getElem?_map, hf, Option.map_some, Option.map_eq_some_iff] at this
        obtain ⟨F, hF, he⟩ := this
        simp only [Prod.mk.injEq, Option.map_eq_some_iff] at he
        obtain ⟨e1, _, e2⟩ := he
        have hF' : l[f]? = some F := by simpa using hF
        cases vx with
        | agg _ vs hlv hv =>
          unfold loadA at hp
          split at hp
          · exact hp.elim
          · rename_i d hde
            have ok := hΘ ft d hde
            split at hp
            · rename_i hagg
              obtain ⟨hle, rfl⟩ := hp
              rw [List.length_drop] at hle
              refine OpRun.same H (x := .agg (vs.extract off (off + d.size))) ?_ (.agg _ _ ?_ ?_)
              · simp [execOp, ho, hq, Instr.field, run_underlying hl, hF', asAgg, part, e1, e2, ok.isAgg, hagg, ok.sizeOf]
              · simp; omega
              · intro j u hu
                rw [List.getElem?_take] at hu
                split at hu
                · rw [List.getElem?_drop] at hu
                  have hj := (List.getElem?_eq_some_iff.1 hu).1
                  have := hv _ u hu
                  have e3 : (vs.extract off (off + d.size)).getD j undef = vs.getD (off + j) undef := by
                    simp [Array.getElem?_extract]
                    rw [if_pos (by omega)]
                  rw [e3]
                  exact this
                · cases hu
            · rename_i hagg
              simp only [Bool.not_eq_true] at hagg
              split at hp
              · rename_i c cs' hcs
                subst hp
                have h0 : cs[off]? = some c := by
                  have := congrArg (·[0]?) hcs
                  simpa [List.getElem?_drop] using this
                have hj : off < vs.size := by rw [← hlv]; exact (List.getElem?_eq_some_iff.1 h0).1
                refine OpRun.same H (x := vs.getD off undef) ?_ (hv off c h0)
                simp [execOp, ho, hq, Instr.field, run_underlying hl, hF', asAgg, part, e1, e2, ok.isAgg, hagg, hj]
              · exact hp.elim
      · exact hp.elim
    · exact hp.elim
  | indexAddr t x i => exact run_indexAddr hΘ H ho hx hp
  | index t x i =>
    simp only [pOp] at hp
    have vx := hx x (by simp [Op.operands])
    have vi := hx i (by simp [Op.operands])
    split at hp
    · rename_i m ft sz bt zz cs q n hd e1 e2
      have hu : P.underlying t = some (.array m ft) := (hΘ t _ hd).2
      rw [e1] at vx
      rw [e2] at vi
      split at hp
      · rename_i d hde
        obtain ⟨⟨h0, hm⟩, hp⟩ := hp
        have ok := hΘ ft d hde
        have hi := vi.int_inv
        generalize hq : a.eval x = V at vx
        cases vx with
        | agg _ vs hlv hv =>
          unfold loadA at hp
          rw [hde] at hp
          simp only at hp
          split at hp
          · rename_i hagg
            obtain ⟨hle, rfl⟩ := hp
            rw [List.length_drop] at hle
            refine OpRun.same H (x := .agg (vs.extract (n.toNat * d.size) (n.toNat * d.size + d.size))) ?_ (.agg _ _ ?_ ?_)
            · simp [execOp, ho, hq, hi, Instr.index, run_underlying hu, asIntOf, part, ok.isAgg, hagg, ok.sizeOf, h0, hm]
            · simp; omega
            · intro j u hu
              rw [List.getElem?_take] at hu
              split at hu
              · rw [List.getElem?_drop] at hu
                have hj := (List.getElem?_eq_some_iff.1 hu).1
                have := hv _ u hu
                have e3 : (vs.extract (n.toNat * d.size) (n.toNat * d.size + d.size)).getD j undef = vs.getD (n.toNat * d.size + j) undef := by
                  simp [Array.getElem?_extract]
                  rw [if_pos (by omega)]
                rw [e3]
                exact this
              · cases hu
          · rename_i hagg
            simp only [Bool.not_eq_true] at hagg
            split at hp
            · rename_i c cs' hcs
              subst hp
              have h1 : cs[n.toNat * d.size]? = some c := by
                have := congrArg (·[0]?) hcs
                simpa [List.getElem?_drop] using this
              have hj : n.toNat * d.size < vs.size := by rw [← hlv]; exact (List.getElem?_eq_some_iff.1 h1).1
              refine OpRun.same H (x := vs.getD (n.toNat * d.size) undef) ?_ (hv _ c h1)
              simp [execOp, ho, hq, hi, Instr.index, run_underlying hu, asIntOf, part, ok.isAgg, hagg, hj, ok.sizeOf, h0, hm]
            · exact hp.elim
      · exact hp.elim
    · exact hp.elim
  | makeInterface t x =>
    obtain ⟨hc, hp⟩ := hp
    subst hp
    refine OpRun.same H (x := .iface t (a.eval x)) (by simp [execOp, ho, run_makeInterface _ _ _ hc]) (.ifc t _ _ (hx x (by simp [Op.operands])))
  | typeAssert x xT t c =>
    simp only [pOp] at hp
    have vx := hx x (by simp [Op.operands])
    split at hp
    · rename_i t' u e
      obtain ⟨⟨rfl, hc, rfl⟩, hp⟩ := hp
      subst hp
      rw [e] at vx
      generalize hq : a.eval x = V at vx
      cases vx with
      | ifc _ _ v hv =>
        have hr : (Instr.typeAssert (.iface t' v) xT t' true).run P w = .ok (.tuple #[v, .bool true]) w := by
          unfold Program.concrete at hc
          cases hd : P.underlying t' with
          | none => rw [hd] at hc; cases hc
          | some D =>
            rw [hd] at hc
            cases D <;> simp [Instr.typeAssert, run_underlying hd] at hc ⊢
        refine OpRun.same H (x := .tuple #[v, .bool true]) (by simp [execOp, ho, hq, hr]) (.tup _ _ rfl ?_)
        intro j w' hj
        match j with
        | 0 => simp at hj; subst hj; simpa using hv
        | 1 => simp at hj; subst hj; exact .bool _
        | j + 2 => simp at hj
    · exact hp.elim
  | nilCheck x =>
    simp only [pOp] at hp
    have vx := hx x (by simp [Op.operands])
    split at hp
    · rename_i o' q e
      subst hp
      rw [e] at vx
      generalize hq : a.eval x = V at vx
      cases vx with
      | ptr _ _ b cap hl => exact OpRun.same H (by simp [execOp, ho, hq]) (.ptr _ _ b cap hl)
    · rename_i cs e
      subst hp
      rw [e] at vx
      generalize hq : a.eval x = V at vx
      cases vx with
      | rop _ b off f hB hb hcell hval => exact OpRun.same H (by simp [execOp, ho, hq]) (.rop _ b off f hB hb hcell hval)
    · rename_i t u e
      subst hp
      rw [e] at vx
      generalize hq : a.eval x = V at vx
      cases vx with
      | ifc _ _ v hv => exact OpRun.same H (by simp [execOp, ho, hq]) (.ifc _ _ v hv)
    · exact hp.elim
  | extract x i =>
    simp only [pOp] at hp
    have vx := hx x (by simp [Op.operands])
    split at hp
    · rename_i us e
      rw [e] at vx
      split at hp
      · rename_i u hu
        subst hp
        generalize hq : a.eval x = V at vx
        cases vx with
        | tup _ vs hl hv =>
          have hi : i < vs.size := by rw [← hl]; exact (List.getElem?_eq_some_iff.1 hu).1
          refine OpRun.same H (x := vs.getD i undef) ?_ (hv i u hu)
          simp [execOp, ho, hq, Instr.extract, hi]
      · exact hp.elim
    · exact hp.elim
  | call c =>
    simp only [pOp] at hp
    split at hp
    · rename_i f hc
      exact run_callA H ho hc hx hp
    · rename_i b hc
      have hargs : ∀ y ∈ c.args.toList, VR φ (own φ h) w (ρ y) (a.eval y) := fun y hy => hx y (by simp only [Op.operands, Call.operands, hc, Array.mem_append]; exact .inr (by simpa using hy))
      split at hp
      · rename_i x t he ht
        obtain ⟨X, hX, rfl⟩ : ∃ X, c.args.toList = [X] ∧ ρ X = x := by
          cases hl : c.args.toList with
          | nil => simp [hl] at he
          | cons y l => cases l with | nil => simp [hl] at he; exact ⟨y, rfl, he⟩ | cons z l => simp [hl] at he
        have hca : c.args = #[X] := by rw [← Array.toArray_toList (xs := c.args), hX]
        have hct : c.argTypes = #[t] := by rw [← Array.toArray_toList (xs := c.argTypes), ht]
        have vx := hargs X (by simp [hX])
        split at hp
        · rename_i _ _ _ _ n hd hn
          subst hp
          have hu := (hΘ t _ hd).slice
          have : ∃ A C, a.eval X = .slice A n C := by
            generalize hq : ρ X = u at hn vx
            generalize a.eval X = V at vx
            cases vx <;> simp [lenA] at hn
            · exact ⟨_, _, by rw [← hn]⟩
            · exact ⟨_, _, by rw [← hn]⟩
            · rename_i hn' _ _ _ _ _ _; exact ⟨_, _, by rw [← hn, hn']⟩
            · exact ⟨_, _, by rw [← hn]⟩
            · exact ⟨_, _, by rw [← hn]⟩
          obtain ⟨A, C, hA⟩ := this
          refine OpRun.same H (x := .int .i64 n) ?_ (.int _ _)
          simp [execOp, ho, resolve, hc, hca, hct, hA, invoke, builtin, Builtin.len_, run_underlying hu, goInt]
        · exact hp.elim
      · rename_i q x q' y he
        obtain ⟨rfl, rfl⟩ := hp
        obtain ⟨X, Y, hX, e1, e2⟩ : ∃ X Y, c.args.toList = [X, Y] ∧ ρ X = .int q x ∧ ρ Y = .int q y := by
          cases hl : c.args.toList with
          | nil => simp [hl] at he
          | cons y l => cases l with
            | nil => simp [hl] at he
            | cons z l => cases l with | nil => simp [hl] at he; exact ⟨_, _, rfl, he.1, he.2⟩ | cons z l => simp [hl] at he
        have hca : c.args = #[X, Y] := by rw [← Array.toArray_toList (xs := c.args), hX]
        have vx := hargs X (by simp [hX])
        have vy := hargs Y (by simp [hX])
        rw [e1] at vx
        rw [e2] at vy
        refine OpRun.same H (x := .int q (if y > x then y else x)) ?_ (.int _ _)
        simp [execOp, ho, resolve, hc, hca, vx.int_inv, vy.int_inv, invoke, builtin, Builtin.max_, Builtin.max2]
      · rename_i q x q' y he
        obtain ⟨rfl, rfl⟩ := hp
        obtain ⟨X, Y, hX, e1, e2⟩ : ∃ X Y, c.args.toList = [X, Y] ∧ ρ X = .int q x ∧ ρ Y = .int q y := by
          cases hl : c.args.toList with
          | nil => simp [hl] at he
          | cons y l => cases l with
            | nil => simp [hl] at he
            | cons z l => cases l with | nil => simp [hl] at he; exact ⟨_, _, rfl, he.1, he.2⟩ | cons z l => simp [hl] at he
        have hca : c.args = #[X, Y] := by rw [← Array.toArray_toList (xs := c.args), hX]
        have vx := hargs X (by simp [hX])
        have vy := hargs Y (by simp [hX])
        rw [e1] at vx
        rw [e2] at vy
        refine OpRun.same H (x := .int q (if y < x then y else x)) ?_ (.int _ _)
        simp [execOp, ho, resolve, hc, hca, vx.int_inv, vy.int_inv, invoke, builtin, Builtin.min_, Builtin.min2]
      · exact hp.elim
    · exact hp.elim
  | _ => exact hp.elim
end runs
end Go.Par

set_option linter.unusedSimpArgs false
namespace Go.Par

def bind1 (φ : Names) (n : Nat) (l : Loc) : Names := fun o => if o = n then some l else φ o

theorem Ext.bind1 {φ : Names} {n : Nat} (h : φ n = none) (l : Loc) : Ext φ (bind1 φ n l) := by
  intro o l' ho
  unfold Par.bind1
  by_cases e : o = n
  · subst e; rw [h] at ho; cases ho
  · rw [if_neg e]; exact ho

theorem bind1_same (φ : Names) (n : Nat) (l : Loc) : bind1 φ n l n = some l := by simp [bind1]
theorem bind1_ne (φ : Names) {n o : Nat} (l : Loc) (h : o ≠ n) : bind1 φ n l o = φ o := by simp [bind1, h]

theorem lies_same {φ : Names} {n : Nat} {l : Loc} {b c : Nat} : lies (bind1 φ n l) n b c ↔ l = .blk b c ∨ l = .mp b := by simp [lies, bind1_same]
theorem lies_ne {φ : Names} {n o : Nat} {l : Loc} {b c : Nat} (h : o ≠ n) : lies (bind1 φ n l) o b c ↔ lies φ o b c := by simp [lies, bind1_ne φ l h]
/-- A name that nothing has. -/
def FreeN (φ : Names) (n : Nat) : Prop := φ n = none ∨ φ n = some .res

theorem ExtW.bind1 {φ : Names} {n : Nat} (h : FreeN φ n) (l : Loc) : ExtW φ (bind1 φ n l) := by
  intro o l' hl ho
  unfold Par.bind1
  by_cases e : o = n
  · subst e
    rcases h with h | h
    · rw [h] at ho; cases ho
    · rw [h] at ho; cases ho; exact absurd rfl hl
  · rw [if_neg e]; exact ho

/-- A name is given to what lies at 'l'. The world 'w'' is 'w' but for what lies there. -/
theorem HR.name {φ : Names} {w w' : World} {h : Heap} (H : HR φ w h) {n : Nat} (hφ : FreeN φ n) (hn : h n = none) {l : Loc} {x : Ob}
    (hl : ∀ b c, (l = .blk b c ∨ l = .mp b) → ¬ own φ h b)
    (hk : Keeps (own φ h) w (own (bind1 φ n l) (upd h n (some x))) w') (hold : ∀ b, own φ h b → w'.heap[b]? = w.heap[b]?)
    (hx : ObR (bind1 φ n l) (own (bind1 φ n l) (upd h n (some x))) w' x l) : HR (bind1 φ n l) w' (upd h n (some x)) := by
  refine ⟨fun o y hy => ?_, fun o o' b c c' h1 h2 e1 e2 => ?_, ?_⟩
  · by_cases e : o = n
    · subst e
      rw [upd_same] at hy
      cases hy
      exact ⟨l, bind1_same _ _ _, hx⟩
    · rw [upd_ne _ _ e] at hy
      obtain ⟨l', h1, h2⟩ := H.ob o y hy
      refine ⟨l', by rw [bind1_ne _ _ e]; exact h1, ?_⟩
      cases l' with
      | nil => exact h2
      | res => exact h2.elim
      | blk b cap =>
        obtain ⟨cur, k1, k2, k3, k4, k5⟩ := h2
        exact ⟨cur, (hold b ⟨o, cap, by simp [hy], .inl h1⟩).trans k1, k2, k3, k4, fun j u hu => (k5 j u hu).monoW (ExtW.bind1 hφ l) hk⟩
      | mp b =>
        obtain ⟨k0, es, c, k1, k2, k5⟩ := h2
        exact ⟨k0, es, c, (hold b ⟨o, 0, by simp [hy], .inr h1⟩).trans k1, k2, fun j u hu => (k5 j u hu).monoW (ExtW.bind1 hφ l) hk⟩
  · by_cases e : o = n
    · by_cases e' : o' = n
      · rw [e, e']
      · subst e
        rw [lies_same] at e1
        rw [lies_ne e'] at e2
        rw [upd_ne _ _ e'] at h2
        exact absurd ⟨o', c', h2, e2⟩ (hl b c e1)
    · by_cases e' : o' = n
      · subst e'
        rw [lies_same] at e2
        rw [lies_ne e] at e1
        rw [upd_ne _ _ e] at h1
        exact absurd ⟨o, c, h1, e1⟩ (hl b c' e2)
      · rw [lies_ne e] at e1
        rw [lies_ne e'] at e2
        rw [upd_ne _ _ e] at h1
        rw [upd_ne _ _ e'] at h2
        exact H.inj o o' b c c' h1 h2 e1 e2
  · obtain ⟨N, hN⟩ := H.free
    refine ⟨max N (n + 1), fun o ho => ?_⟩
    rw [bind1_ne _ _ (by omega)]
    exact hN o (by omega)

theorem own_name {φ : Names} {h : Heap} {n : Nat} (hn : h n = none) {l : Loc} {x : Ob} {b : Nat} : own (bind1 φ n l) (upd h n (some x)) b ↔ own φ h b ∨ ∃ c, (l = .blk b c ∨ l = .mp b) := by
  constructor
  · rintro ⟨o, cap, h1, h2⟩
    by_cases e : o = n
    · subst e
      rw [lies_same] at h2
      exact .inr ⟨cap, h2⟩
    · rw [lies_ne e] at h2
      rw [upd_ne _ _ e] at h1
      exact .inl ⟨o, cap, h1, h2⟩
  · rintro (⟨o, cap, h1, h2⟩ | ⟨c, q⟩)
    · have e : o ≠ n := by rintro rfl; simp [hn] at h1
      exact ⟨o, cap, by rw [upd_ne _ _ e]; exact h1, by rw [lies_ne e]; exact h2⟩
    · exact ⟨n, c, by simp [upd_same], by rw [lies_same]; exact q⟩

/-- A new block under a new name. -/
theorem HR.newW {φ : Names} {w w' : World} {h : Heap} (H : HR φ w h) {n : Nat} (hφ : FreeN φ n) (hn : h n = none) (x : Ob) (vs : Array Value) (cap : Nat)
    (hw : ∃ d, w' = ({ w with drawn := d } : World).alloc (.cells vs x.ty)) (hsz : vs.size = cap * x.sz) (hcap : cap ≤ maxLen) (hlen : x.cells.length ≤ vs.size)
    (hv : ∀ j u, x.cells[j]? = some u → VR φ (own φ h) w u (vs.getD j undef)) :
    HR (bind1 φ n (.blk w.heap.size cap)) w' (upd h n (some x)) ∧ Keeps (own φ h) w (own (bind1 φ n (.blk w.heap.size cap)) (upd h n (some x))) w' := by
  obtain ⟨d, rfl⟩ := hw
  have hold : ∀ b, b < w.heap.size → (({ w with drawn := d } : World).alloc (.cells vs x.ty)).heap[b]? = w.heap[b]? := fun b hb => RowKit.Below.heap_alloc _ _ b hb
  have hk : Keeps (own φ h) w (own (bind1 φ n (.blk w.heap.size cap)) (upd h n (some x))) (({ w with drawn := d } : World).alloc (.cells vs x.ty)) := by
    refine ⟨rfl, rfl, rfl, by simp, fun b hb hB => ⟨fun hq => ?_, hold b hb⟩⟩
    rcases (own_name hn).1 hq with hq | ⟨c, hq⟩
    · exact hB hq
    · rcases hq with hq | hq
      · cases hq; exact Nat.lt_irrefl _ hb
      · cases hq
  refine ⟨H.name hφ hn (fun b c e => ?_) hk (fun b hb => hold b (H.own_lt hb)) ?_, hk⟩
  · rcases e with e | e
    · cases e
      exact fun hb => Nat.lt_irrefl _ (H.own_lt hb)
    · cases e
  · exact ⟨vs, heap_alloc_new ({ w with drawn := d } : World) _, hsz, hcap, hlen, fun j u hu => (hv j u hu).monoW (ExtW.bind1 hφ _) hk⟩

theorem HR.new {φ : Names} {w w' : World} {h : Heap} (H : HR φ w h) {n : Nat} (hφ : φ n = none) (hn : h n = none) (x : Ob) (vs : Array Value) (cap : Nat)
    (hw : ∃ d, w' = ({ w with drawn := d } : World).alloc (.cells vs x.ty)) (hsz : vs.size = cap * x.sz) (hcap : cap ≤ maxLen) (hlen : x.cells.length ≤ vs.size)
    (hv : ∀ j u, x.cells[j]? = some u → VR φ (own φ h) w u (vs.getD j undef)) :
    HR (bind1 φ n (.blk w.heap.size cap)) w' (upd h n (some x)) ∧ Keeps (own φ h) w (own (bind1 φ n (.blk w.heap.size cap)) (upd h n (some x))) w' := H.newW (.inl hφ) hn x vs cap hw hsz hcap hlen hv

/-- An object's block is written. -/
theorem HR.write {φ : Names} {w : World} {h : Heap} (H : HR φ w h) {o : Nat} {x : Ob} (hx : h o = some x) {b cap : Nat} (hl : φ o = some (.blk b cap)) {cur cur' : Array Value}
    (hcur : w.heap[b]? = some (.cells cur x.ty (0, 0))) (hsz : cur'.size = cur.size) (hcs : cur.size = cap * x.sz) (hcap : cap ≤ maxLen) (cells : List AV) (hlen : cells.length ≤ cur.size) (nn : Bool)
    (hv : ∀ j u, cells[j]? = some u → VR φ (own φ h) w u (cur'.getD j undef)) :
    HR φ (w.setRow b cur') (upd h o (some ⟨cells, x.ty, x.sz, nn⟩)) ∧ Keeps (own φ h) w (own φ (upd h o (some ⟨cells, x.ty, x.sz, nn⟩))) (w.setRow b cur') := by
  have hown : ∀ b', own φ (upd h o (some ⟨cells, x.ty, x.sz, nn⟩)) b' ↔ own φ h b' := by
    intro b'
    constructor
    · rintro ⟨o', c, h1, h2⟩
      refine ⟨o', c, ?_, h2⟩
      by_cases e : o' = o
      · rw [e]; simp [hx]
      · rwa [upd_ne _ _ e] at h1
    · rintro ⟨o', c, h1, h2⟩
      refine ⟨o', c, ?_, h2⟩
      by_cases e : o' = o
      · rw [e]; simp [upd_same]
      · rwa [upd_ne _ _ e]
  have hob : own φ h b := ⟨o, cap, by simp [hx], .inl hl⟩
  have hk : Keeps (own φ h) w (own φ (upd h o (some ⟨cells, x.ty, x.sz, nn⟩))) (w.setRow b cur') := by
    refine ⟨rfl, rfl, rfl, by simp, fun b' hb hB => ⟨fun q => hB ((hown b').1 q), ?_⟩⟩
    exact setRow_other w b b' cur' (fun e => hB (e ▸ hob))
  refine ⟨⟨fun o' y hy => ?_, fun o1 o2 b' c c' h1 h2 e1 e2 => ?_, H.free⟩, hk⟩
  · by_cases e : o' = o
    · subst e
      rw [upd_same] at hy
      cases hy
      exact ⟨_, hl, cur', setRow_heap w b cur cur' x.ty _ hcur, by rw [hsz, hcs], hcap, by rw [hsz]; exact hlen, fun j u hu => (hv j u hu).mono (Ext.refl φ) hk⟩
    · rw [upd_ne _ _ e] at hy
      obtain ⟨l', h1, h2⟩ := H.ob o' y hy
      refine ⟨l', h1, ?_⟩
      cases l' with
      | nil => exact h2
      | res => exact h2.elim
      | blk b' cap' =>
        obtain ⟨cur2, k1, k2, k3, k4, k5⟩ := h2
        have hne : b' ≠ b := fun eb => e (H.inj o' o b' cap' cap (by simp [hy]) (by simp [hx]) (.inl h1) (.inl (eb ▸ hl)))
        exact ⟨cur2, (setRow_other w b b' cur' hne).trans k1, k2, k3, k4, fun j u hu => (k5 j u hu).mono (Ext.refl φ) hk⟩
      | mp b' =>
        obtain ⟨k0, es, c, k1, k2, k5⟩ := h2
        have hne : b' ≠ b := fun eb => e (H.inj o' o b' 0 cap (by simp [hy]) (by simp [hx]) (.inr h1) (.inl (eb ▸ hl)))
        exact ⟨k0, es, c, (setRow_other w b b' cur' hne).trans k1, k2, fun j u hu => (k5 j u hu).mono (Ext.refl φ) hk⟩
  · have f : ∀ o', (upd h o (some ⟨cells, x.ty, x.sz, nn⟩) o').isSome = true → (h o').isSome = true := by
      intro o' ho
      by_cases e : o' = o
      · rw [e]; simp [hx]
      · rwa [upd_ne _ _ e] at ho
    exact H.inj o1 o2 b' c c' (f o1 h1) (f o2 h2) e1 e2

/-- Less is told. -/
theorem HR.less {φ : Names} {w : World} {h h' : Heap} (H : HR φ w h) (hs : ∀ o x, h' o = some x → h o = some x) : HR φ w h' ∧ ∀ b, own φ h' b → own φ h b := by
  have ho : ∀ b, own φ h' b → own φ h b := by
    rintro b ⟨o, c, h1, h2⟩
    obtain ⟨x, hx⟩ := Option.isSome_iff_exists.1 h1
    exact ⟨o, c, by simp [hs o x hx], h2⟩
  refine ⟨⟨fun o x hx => ?_, fun o o' b c c' h1 h2 => ?_, H.free⟩, ho⟩
  · obtain ⟨l, h1, h2⟩ := H.ob o x (hs o x hx)
    refine ⟨l, h1, ?_⟩
    cases l with
    | nil => exact h2
    | res => exact h2.elim
    | blk b cap =>
      obtain ⟨cur, k1, k2, k3, k4, k5⟩ := h2
      exact ⟨cur, k1, k2, k3, k4, fun j u hu => (k5 j u hu).weaken ho⟩
    | mp b => exact h2.weak fun _ _ V => V.weaken ho
  · obtain ⟨x, hx⟩ := Option.isSome_iff_exists.1 h1
    obtain ⟨y, hy⟩ := Option.isSome_iff_exists.1 h2
    exact H.inj o o' b c c' (by simp [hs o x hx]) (by simp [hs o' y hy])

end Go.Par
