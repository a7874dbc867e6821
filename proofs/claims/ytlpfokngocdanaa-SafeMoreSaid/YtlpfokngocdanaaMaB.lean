/- What operations do that leave all objects as they are. -/
import Derived.Test.YtlpfokngocdanaaMaA
import Derived.WalkKit
import Derived.Below
import Derived.Laws.Slices
namespace Go.Par

inductive Sh where
  | prim
  | bool
  | int (k : IntKind)
  | slice (e : TypeId)
  | struct (fs : List (Nat × Nat × TypeId))
  | arr (n : Nat) (e : TypeId)
  deriving Inhabited

/-- What is told of a type. -/
structure TD where
  sh : Sh
  size : Nat
  bytes : Nat
  zero : Value

def Sh.agg : Sh → Bool
  | .struct _ | .arr _ _ => true
  | _ => false

def Sh.ok (P : Program) (t : TypeId) : Sh → Prop
  | .prim => (P.underlying t).any (fun d => match d with | .struct _ | .array _ _ => false | _ => true) = true
  | .bool => P.underlying t = some .bool
  | .int k => P.underlying t = some (.int k)
  | .slice e => P.underlying t = some (.slice e)
  | .struct fs => ∃ l, P.underlying t = some (.struct l) ∧ l.toList.map (fun f => (f.offset, (P.info? f.type).map (·.size), f.type)) = fs.map (fun f => (f.1, some f.2.1, f.2.2))
  | .arr n e => P.underlying t = some (.array n e)

def TD.ok (P : Program) (t : TypeId) (d : TD) : Prop :=
  (∃ i, P.info? t = some i ∧ i.size = d.size ∧ i.bytes = d.bytes ∧ i.zero = some d.zero) ∧ d.sh.ok P t

abbrev Types := Nat → Option TD
def Types.ok (Θ : Types) (P : Program) : Prop := ∀ t d, Θ t = some d → d.ok P t

def AV.known : AV → Bool
  | .any => false
  | _ => true

section facts
variable {φ : Names} {B : Nat → Prop} {w : World}

theorem VR.flat {u : AV} {v : Value} (h : VR φ B w u v) (hk : u.known = true) : u.flat.length = v.cells.size ∧ ∀ j c, u.flat[j]? = some c → VR φ B w c (v.cells.getD j undef) := by
  have one : ∀ (u : AV) (v : Value), VR φ B w u v → ([u] : List AV).length = (#[v] : Array Value).size ∧ ∀ j c, ([u] : List AV)[j]? = some c → VR φ B w c ((#[v] : Array Value).getD j undef) := by
    intro u v h
    refine ⟨rfl, ?_⟩
    intro j c hc
    cases j with
    | zero => simp at hc; subst hc; simpa using h
    | succ j => simp at hc
  cases h with
  | any => simp [AV.known] at hk
  | agg cs vs hl h => exact ⟨hl, h⟩
  | _ => refine one _ _ ?_; first | (constructor <;> assumption) | (constructor; done)

theorem VR.oneCell {u : AV} {v : Value} (h : VR φ B w u v) (hk : u.one = true) : v.oneCell' = true := by
  cases h <;> first | rfl | (simp [AV.one] at hk)

theorem VR.weaken {B' : Nat → Prop} {u : AV} {v : Value} (h : VR φ B w u v) (hB : ∀ b, B' b → B b) : VR φ B' w u v :=
  h.mono (Ext.refl φ) (Keeps.less w hB)

end facts

theorem HR.same {φ : Names} {w w' : World} {h : Heap} (H : HR φ w h) (hs : w.heap.size ≤ w'.heap.size) (hb : ∀ b, b < w.heap.size → w'.heap[b]? = w.heap[b]?) (ho : w'.os = w.os) (ht : w'.tape = w.tape) (hp : w'.output = w.output) : HR φ w' h := by
  have hk : Keeps (own φ h) w (own φ h) w' := ⟨ho, ht, hp, hs, fun b hl hB => ⟨hB, hb b hl⟩⟩
  refine ⟨fun o x hx => ?_, H.inj, H.free⟩
  obtain ⟨l, hl, hr⟩ := H.ob o x hx
  refine ⟨l, hl, ?_⟩
  cases l with
  | nil => exact hr
  | res => exact hr.elim
  | blk b cap =>
    obtain ⟨cur, h1, h2, h3, h4, h5⟩ := hr
    exact ⟨cur, (hb b (Array.getElem?_eq_some_iff.1 h1).1).trans h1, h2, h3, h4, fun j u hu => (h5 j u hu).mono (Ext.refl φ) hk⟩

theorem Keeps.alloc (B : Nat → Prop) (w : World) (o : Obj) : Keeps B w B (w.alloc o) :=
  ⟨rfl, rfl, rfl, by simp, fun b hb hB => ⟨hB, RowKit.Below.heap_alloc w o b hb⟩⟩

theorem HR.alloc {φ : Names} {w : World} {h : Heap} (H : HR φ w h) (o : Obj) : HR φ (w.alloc o) h :=
  H.same (by simp) (fun b hb => RowKit.Below.heap_alloc w o b hb) rfl rfl rfl

/-- The operation yields 'v', and leaves all objects as they are. -/
def OpRun (P : Program) (o : Oper) (φ : Names) (h : Heap) (w : World) (a : Act) (v : AV) : Prop :=
  ∀ (next : Act → World → Prop) (Q : Exit → Act → World → Prop),
    (∀ φ' w' x, Ext φ φ' → Keeps (own φ h) w (own φ' h) w' → HR φ' w' h → VR φ' (own φ' h) w' v x → next (a.put o.dst x) w') → o.wp P a w next Q

theorem OpRun.same {P : Program} {o : Oper} {φ : Names} {h : Heap} {w : World} {a : Act} {v : AV} {x : Value} (H : HR φ w h)
    (hr : (execOp a.eval o).run P w = .ok (.value x) w) (hv : VR φ (own φ h) w v x) : OpRun P o φ h w a v := by
  intro next Q hn
  unfold Oper.wp
  rw [hr]
  exact hn φ w x (Ext.refl φ) (Keeps.refl _ w) H hv

theorem OpRun.alloc {P : Program} {o : Oper} {φ : Names} {h : Heap} {w : World} {a : Act} {v : AV} {x : Value} {ob : Obj} (H : HR φ w h)
    (hr : (execOp a.eval o).run P w = .ok (.value x) (w.alloc ob)) (hv : VR φ (own φ h) (w.alloc ob) v x) : OpRun P o φ h w a v := by
  intro next Q hn
  unfold Oper.wp
  rw [hr]
  exact hn φ _ x (Ext.refl φ) (Keeps.alloc _ w ob) (H.alloc ob) hv

/-- A new block that nobody will write. -/
theorem VR.new_rop {φ : Names} {h : Heap} {w : World} (H : HR φ w h) (t : TypeId) (cs : List AV) (vs : Array Value) (hl : cs.length = vs.size) (hv : ∀ j u, cs[j]? = some u → VR φ (own φ h) w u (vs.getD j undef)) :
    VR φ (own φ h) (w.alloc (.cells vs t)) (.rop cs) (.pointer (some ⟨w.heap.size, 0, none⟩)) := by
  refine .rop cs w.heap.size 0 (fun j => vs.getD j undef) (fun hb => Nat.lt_irrefl _ (H.own_lt hb)) (by simp) ?_ (fun j u hu => (hv j u hu).mono (Ext.refl φ) (Keeps.alloc _ w _))
  intro j u hu
  have hj : j < vs.size := by rw [← hl]; exact (List.getElem?_eq_some_iff.1 hu).1
  have := World.cell?_alloc_new w vs t j
  simp only [Nat.zero_add]
  rw [this]
  simp [hj]

theorem VR.new_ro {φ : Names} {h : Heap} {w : World} (H : HR φ w h) (t : TypeId) (k : Bool) (xs : List AV) (vs : Array Value) (s n : Nat) (hn : n = xs.length) (hs : ∀ x ∈ xs, x.flat.length = s) (hl : (xs.flatMap AV.flat).length = vs.size)
    (hv : ∀ j u, (xs.flatMap AV.flat)[j]? = some u → VR φ (own φ h) w u (vs.getD j undef)) (c : Nat) (hc : n ≤ c) :
    VR φ (own φ h) (w.alloc (.cells vs t)) (.ro k xs) (.slice (some ⟨w.heap.size, 0, none⟩) n c) := by
  refine .ro k xs n w.heap.size 0 c s (fun j => vs.getD j undef) hn hc (fun hb => Nat.lt_irrefl _ (H.own_lt hb)) (by simp) hs ?_ (fun j u hu => (hv j u hu).mono (Ext.refl φ) (Keeps.alloc _ w _))
  intro j u hu
  have hj : j < vs.size := by rw [← hl]; exact (List.getElem?_eq_some_iff.1 hu).1
  have := World.cell?_alloc_new w vs t j
  simp only [Nat.zero_add]
  rw [this]
  simp [hj]

/-- Calls that leave all objects as they are, and hand back one value. -/
def Enters (P : Program) (f : FuncId) : Prop := ∀ args w, (callFunc f args).run P w = .ok (.enter f args) w

def VRs (φ : Names) (B : Nat → Prop) (w : World) (us : List AV) (vs : Array Value) : Prop := us.length = vs.size ∧ ∀ j u, us[j]? = some u → VR φ B w u (vs.getD j undef)

def AC (P : Program) (f : FuncId) (us : List AV) (h : Heap) (Q : AV → Heap → Prop) : Prop :=
  Enters P f ∧ ∀ φ w vs, HR φ w h → VRs φ (own φ h) w us vs → Calls P f vs w fun e w' =>
    ∃ φ' h' r v, Ext φ φ' ∧ Keeps (own φ h) w (own φ' h') w' ∧ HR φ' w' h' ∧ e = .returned v ∧ VR φ' (own φ' h') w' r v ∧ Q r h'

theorem AC.mono {P : Program} {f : FuncId} {us : List AV} {h : Heap} {Q Q' : AV → Heap → Prop} (H : AC P f us h Q) (hq : ∀ r h', Q r h' → Q' r h') : AC P f us h Q' :=
  ⟨H.1, fun φ w vs h1 h2 => (H.2 φ w vs h1 h2).mono fun _ _ ⟨φ', h', r, v, a, b, c, d, e, g⟩ => ⟨φ', h', r, v, a, b, c, d, e, hq r h' g⟩⟩

def Pure (P : Program) (f : FuncId) (us : List AV) (r : AV) : Prop := ∀ h, AC P f us h fun r' h' => r' = r ∧ h' = h

theorem Pure.ac {P : Program} {f : FuncId} {us : List AV} {r : AV} {h : Heap} {Q : AV → Heap → Prop} (H : Pure P f us r) (hq : Q r h) : AC P f us h Q :=
  (H h).mono fun r' h' ⟨e, e'⟩ => by subst e; subst e'; exact hq

/-- Cells written one behind another. -/
def setAt (cs : List AV) (off : Nat) : List AV → List AV
  | [] => cs
  | v :: vs => setAt (cs.set off v) (off + 1) vs

def fillA (place : Nat → Option (Nat × Nat)) (cs : List AV) : List (Nat × AV) → Option (List AV)
  | [] => some cs
  | (i, v) :: r =>
    match place i with
    | none => none
    | some (off, size) => if v.known = true ∧ v.flat.length = size ∧ off + size ≤ cs.length then fillA place (setAt cs off v.flat) r else none

def lenA : AV → Option Nat
  | .nils => some 0
  | .ro _ xs => some xs.length
  | .mu _ n => some n
  | _ => none

def cmpA : BinOp → Int → Int → Option Bool
  | .eql, a, b => some (a == b)
  | .neq, a, b => some (a != b)
  | .lss, a, b => some (a < b)
  | .leq, a, b => some (a ≤ b)
  | .gtr, a, b => some (a > b)
  | .geq, a, b => some (a ≥ b)
  | _, _, _ => none

def binA (Θ : Types) (op : BinOp) (t : TypeId) (x y : AV) (k : AV → Prop) : Prop :=
  match x, y with
  | .int q a, .int q' b => q = q' ∧
    match op with
    | .add => k (.int q (q.wrap (a + b)))
    | .sub => k (.int q (q.wrap (a - b)))
    | .mul => k (.int q (q.wrap (a * b)))
    | .quo => b ≠ 0 ∧ k (.int q (q.wrap (a.tdiv b)))
    | .rem => b ≠ 0 ∧ k (.int q (a.tmod b))
    | .eql => k (.bool (a == b))
    | .neq => k (.bool (a != b))
    | .lss => k (.bool (a < b))
    | .leq => k (.bool (a ≤ b))
    | .gtr => k (.bool (a > b))
    | .geq => k (.bool (a ≥ b))
    | _ => False
  | .bool a, .bool b =>
    match Θ t with
    | some ⟨.bool, _, _, _⟩ =>
      match op with
      | .eql => k (.bool (a == b))
      | .neq => k (.bool (a != b))
      | _ => False
    | _ => False
  | .nils, .nils | .ro true _, .nils =>
    match Θ t with
    | some ⟨.slice _, _, _, _⟩ =>
      match op with
      | .eql => k (.bool (match x with | .nils => true | _ => false))
      | .neq => k (.bool (match x with | .nils => false | _ => true))
      | _ => False
    | _ => False
  | _, _ => False

def loadA (Θ : Types) (t : TypeId) (cs : List AV) (k : AV → Prop) : Prop :=
  match Θ t with
  | none => False
  | some d => if d.sh.agg then d.size ≤ cs.length ∧ k (.agg (cs.take d.size)) else match cs with | c :: _ => k c | [] => False

def callA (P : Program) (f : AV) (args : List AV) (k : AV → Prop) : Prop :=
  match f with
  | .clo f cap => ∃ r, Pure P f (args ++ cap) r ∧ k r
  | .bnd f first => ∃ r, Pure P f (first ++ args) r ∧ k r
  | _ => False

def pOp (P : Program) (Θ : Types) (ρ : Operand → AV) (h : Heap) (o : Op) (k : AV → Prop) : Prop :=
  match o with
  | .move x | .assign x => k (ρ x)
  | .pick c a b => match ρ c with | .bool t => k (if t then ρ a else ρ b) | _ => False
  | .box _ x => (ρ x).known = true ∧ k (.rop (ρ x).flat)
  | .alloc t => match Θ t with | some d => (absV d.zero).known = true ∧ k (.rop (absV d.zero).flat) | none => False
  | .build t parts =>
    match Θ t with
    | some ⟨.struct fs, _, _, z⟩ => match fillA (fun i => (fs[i]?).map fun p => (p.1, p.2.1)) (absV z).flat (parts.toList.map fun p => (p.1, ρ p.2)) with | some cs => (absV z).known = true ∧ k (.agg cs) | none => False
    | some ⟨.arr _ e, _, _, z⟩ =>
      match Θ e with
      | some d => match fillA (fun i => some (i * d.size, d.size)) (absV z).flat (parts.toList.map fun p => (p.1, ρ p.2)) with | some cs => (absV z).known = true ∧ k (.agg cs) | none => False
      | none => False
    | _ => False
  | .index t x i =>
    match Θ t, ρ x, ρ i with
    | some ⟨.arr m e, _, _, _⟩, .agg cs, .int _ n =>
      match Θ e with
      | some d => (0 ≤ n ∧ n < m) ∧ loadA Θ e (cs.drop (n.toNat * d.size)) k
      | none => False
    | _, _, _ => False
  | .buildSlice t n parts =>
    match Θ t with
    | some ⟨.slice e, _, _, _⟩ =>
      match Θ e with
      | some d => parts.toList.map Prod.fst = List.range n ∧ n * d.size ≤ 16777216 ∧ (∀ p ∈ parts.toList, (ρ p.2).known = true ∧ (ρ p.2).flat.length = d.size) ∧
          k (.ro true (parts.toList.map fun p => ρ p.2))
      | none => False
    | _ => False
  | .load t x =>
    match ρ x with
    | .rop cs => loadA Θ t cs k
    | .ptr o off => match h o with | some ob => loadA Θ t (ob.cells.drop off) k | none => False
    | _ => False
  | .binOp op t x y _ => binA Θ op t (ρ x) (ρ y) k
  | .unOp op _ x =>
    match op, ρ x with
    | .not, .bool b => k (.bool !b)
    | .neg, .int q n => k (.int q (q.wrap (0 - n)))
    | _, _ => False
  | .convert src dst x =>
    match Θ src, Θ dst, ρ x with
    | some _, some ⟨.int q, _, _, _⟩, .int _ n => k (.int q (q.wrap n))
    | _, _, _ => False
  | .makeFunc (.func f) first captured => if first.size = 0 then k (.clo f (captured.toList.map (ρ))) else if captured.size = 0 then k (.bnd f (first.toList.map (ρ))) else False
  | .makeSlice t l c =>
    match Θ t, ρ l, ρ c with
    | some ⟨.slice e, _, _, _⟩, .int _ n, .int _ m =>
      match Θ e with
      | some d => n = m ∧ 0 ≤ n ∧ (d.bytes : Int) * n ≤ 140737488355328 ∧ n ≤ 140737488355328 ∧ (absV d.zero).known = true ∧ (absV d.zero).flat.length = d.size ∧ k (.ro true (List.replicate n.toNat (absV d.zero)))
      | none => False
    | _, _, _ => False
  | .slice t x lo hi mx =>
    match Θ t with
    | some ⟨.slice e, _, _, _⟩ =>
      match Θ e with
      | some d =>
        if mx.isSome then False else
        match ρ x, lo.map ρ, hi.map ρ with
        | .ro q xs, none, none => k (.ro q xs)
        | .ro q xs, some (.int _ a), none => 0 ≤ a ∧ a ≤ xs.length ∧ (∀ y ∈ xs, y.flat.length = d.size) ∧ k (.ro q (xs.drop a.toNat))
        | .ro q xs, none, some (.int _ b) => 0 ≤ b ∧ b ≤ xs.length ∧ (∀ y ∈ xs, y.flat.length = d.size) ∧ k (.ro q (xs.take b.toNat))
        | .ro q xs, some (.int _ a), some (.int _ b) => 0 ≤ a ∧ a ≤ b ∧ b ≤ xs.length ∧ (∀ y ∈ xs, y.flat.length = d.size) ∧ k (.ro q ((xs.take b.toNat).drop a.toNat))
        | .mu o n, none, some (.int _ b) => 0 ≤ b ∧ b ≤ n ∧ 0 < n ∧ k (.mu o b.toNat)
        | _, _, _ => False
      | none => False
    | _ => False
  | .fieldAddr t x f =>
    match Θ t with
    | some ⟨.struct fs, _, _, _⟩ =>
      match fs[f]? with
      | some (off, size, _) => size ≠ 0 ∧ match ρ x with
        | .rop cs => k (.rop (cs.drop off))
        | .ptr o q => k (.ptr o (q + off))
        | _ => False
      | none => False
    | _ => False
  | .field t x f =>
    match Θ t with
    | some ⟨.struct fs, _, _, _⟩ =>
      match fs[f]?, ρ x with
      | some (off, _, ft), .agg cs => loadA Θ ft (cs.drop off) k
      | _, _ => False
    | _ => False
  | .indexAddr t x i =>
    match Θ t, ρ x, ρ i with
    | some ⟨.slice e, _, _, _⟩, .ro _ xs, .int _ n =>
      match Θ e with
      | some d => (0 ≤ n ∧ n < xs.length) ∧ (xs.getD n.toNat .any).flat.length = d.size ∧ k (.rop (xs.getD n.toNat .any).flat)
      | none => False
    | some ⟨.slice e, _, _, _⟩, .mu o m, .int _ n =>
      match Θ e with
      | some d => (0 ≤ n ∧ n < m) ∧ k (.ptr o (n.toNat * d.size))
      | none => False
    | some ⟨.arr m e, _, _, _⟩, .ptr o q, .int _ n =>
      match Θ e with
      | some d => (0 ≤ n ∧ n < m) ∧ k (.ptr o (q + n.toNat * d.size))
      | none => False
    | some ⟨.arr m e, _, _, _⟩, .rop cs, .int _ n =>
      match Θ e with
      | some d => (0 ≤ n ∧ n < m) ∧ k (.rop (cs.drop (n.toNat * d.size)))
      | none => False
    | _, _, _ => False
  | .makeInterface t x => P.concrete t = true ∧ k (.ifc t (ρ x))
  | .typeAssert x _ t ok => match ρ x with | .ifc t' u => (ok = true ∧ P.concrete t = true ∧ t' = t) ∧ k (.tup [u, .bool true]) | _ => False
  | .nilCheck x => match ρ x with | .ptr o q => k (.ptr o q) | .rop cs => k (.rop cs) | .ifc t u => k (.ifc t u) | _ => False
  | .extract x i => match ρ x with | .tup vs => (match vs[i]? with | some v => k v | none => False) | _ => False
  | .call c =>
    match c.callee with
    | .value f => callA P (ρ f) (c.args.toList.map (ρ)) k
    | .builtin b =>
      match b, c.args.toList.map (ρ), c.argTypes.toList with
      | .len, [x], [t] =>
        match Θ t, lenA x with
        | some ⟨.slice _, _, _, _⟩, some n => k (.int .i64 n)
        | _, _ => False
      | .max, [.int q a, .int q' b], _ => q = q' ∧ k (.int q (if b > a then b else a))
      | .min, [.int q a, .int q' b], _ => q = q' ∧ k (.int q (if b < a then b else a))
      | _, _, _ => False
    | _ => False
  | _ => False

end Go.Par
