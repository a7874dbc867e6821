/- Texts MaJ MaK MaMp MaL MaM MaN MaO MaP, one behind another. -/
import Derived.Test.YtaipmknajpbpkaaMgA
import Derived.Maps.Keyed
import Derived.DeepKeys4
import Derived.Laws.CopyRow
import Derived.Orders
set_option linter.unusedSimpArgs false
namespace Go.Par

def allOne (cs : List AV) : Prop := ∀ u ∈ cs, u.one = true

def listA : AV → Option (List AV)
  | .nils => some []
  | .ro _ ys => some ys
  | _ => none

def appendA (e : TypeId) (d : TD) (h : Heap) (s : AV) (ys : List AV) (K : AV → Heap → Prop) : Prop :=
  (0 < d.size ∧ d.zero.cells.size = d.size ∧ ∀ y ∈ ys, y.flat.length = d.size ∧ allOne y.flat) ∧
  match s with
  | .nils =>
    match ys with
    | [] => K .nils h
    | y :: ys => ((ys.length + 1) * d.bytes ≤ 140737488355328 ∧ ys.length < 140737488355328) ∧
      ∀ n, h n = none → K (.mu n (ys.length + 1)) (upd h n (some ⟨(y :: ys).flatMap AV.flat, e, d.size, true⟩))
  | .mu o n =>
    match h o with
    | some x => (x.ty = e ∧ x.sz = d.size ∧ n * d.size ≤ x.cells.length ∧ (n + ys.length) * d.bytes ≤ 140737488355328 ∧ n + ys.length ≤ 140737488355328) ∧
      ∀ n', h n' = none → K (.mu n' (n + ys.length)) (upd (upd h o none) n' (some ⟨x.cells.take (n * d.size) ++ ys.flatMap AV.flat, e, d.size, x.nn || !ys.isEmpty⟩))
    | none => False
  | _ => False

def newA (h : Heap) (t : TypeId) (x : AV) (K : AV → Heap → Prop) : Prop :=
  (x.known = true ∧ 0 < x.flat.length) ∧ ∀ n, h n = none → K (.ptr n 0) (upd h n (some ⟨x.flat, t, x.flat.length, true⟩))

/-- How a method of what lies behind an interface is found: the function, and the type of what the pointer points to, if the method wants that. -/
def Meth (P : Program) (t : TypeId) (name : String) (f : FuncId) (e : Option TypeId) : Prop :=
  ∀ a w, (method (P.types.size + Made.depth) t (.pointer (some a)) name).run P w = (match e with | none => .ok (f, .pointer (some a)) w | some e => ((loadVar e a).run P w).andThen fun v w => .ok (f, v) w)

def recvA (Θ : Types) (h : Heap) (e : Option TypeId) (u : AV) (k : AV → Prop) : Prop :=
  match u with
  | .ptr o off => match e with | none => k (.ptr o off) | some t => match h o with | some ob => loadA Θ t (ob.cells.drop off) k | none => False
  | _ => False

/-! ### Maps: their keys are whole numbers, or some of them together -/
def keyI : AV → Option (List Int)
  | .int .i64 n => some [n]
  | .agg cs => intsA cs
  | _ => none
/-- A key of that type. -/
def KeyA (P : Program) (kt : TypeId) (u : AV) : Prop :=
  match u with
  | .int .i64 _ => P.underlying kt = some (.int .i64)
  | .agg cs => ∃ l, intsA cs = some l ∧ WideMaps.KeyLaw P kt ∧ (keyOf P kt (.agg (l.map (Value.int .i64)).toArray)).isSome = true
  | _ => False
def entK : AV → Option (List Int)
  | .tup [k, _] => keyI k
  | _ => none
def KeysA (P : Program) (kt : TypeId) (cells : List AV) : Prop := (∀ u ∈ cells, ∃ k v, u = .tup [k, v] ∧ KeyA P kt k) ∧ (cells.map entK).Nodup
def lookM (key : Option (List Int)) : List AV → Option AV
  | [] => none
  | .tup [k, v] :: l => if keyI k = key then some v else lookM key l
  | _ :: l => lookM key l
def putM (k v : AV) : List AV → List AV
  | [] => [.tup [k, v]]
  | .tup [k', v'] :: l => if keyI k' = keyI k then .tup [k, v] :: l else .tup [k', v'] :: putM k v l
  | u :: l => u :: putM k v l

/-- What is copied, and to where. -/
def srcA (h : Heap) : AV → Option (List AV)
  | .ro _ ys => some ys
  | .mu o m => match h o with | some x => if x.sz = 1 ∧ m ≤ x.cells.length then some (x.cells.take m) else none | none => none
  | _ => none
def dstA : AV → Option (Nat × Nat × Nat)
  | .mu b n => some (b, 0, n)
  | .mus b off n => some (b, off, n)
  | _ => none

def vcOp (P : Program) (Θ : Types) (M : List Nat) (ρ : Operand → AV) (h : Heap) (dst : Option Nat) (o : Op) (K : AV → Heap → Prop) : Prop :=
  match o with
  | .box t x => if dst.any M.contains then newA h t (ρ x) K else pOp P Θ ρ h (.box t x) fun v => K v h
  | .alloc t => if dst.any M.contains then (match Θ t with | some d => newA h t (absV d.zero) K | none => False) else pOp P Θ ρ h (.alloc t) fun v => K v h
  | .makeSlice t l c =>
    if dst.any M.contains then
      match Θ t, ρ l, ρ c with
      | some ⟨.slice e, _, _, _⟩, .int _ n, .int _ m =>
        match Θ e with
        | some d => (n = m ∧ 0 ≤ n ∧ (d.bytes : Int) * n ≤ 140737488355328 ∧ n ≤ 140737488355328 ∧ (absV d.zero).known = true ∧ (absV d.zero).flat.length = d.size) ∧
          ∀ b, h b = none → K (.mu b n.toNat) (upd h b (some ⟨(List.replicate n.toNat (absV d.zero)).flatMap AV.flat, e, d.size, true⟩))
        | none => False
      | _, _, _ => False
    else pOp P Θ ρ h (.makeSlice t l c) fun v => K v h
  | .buildSlice t n parts =>
    if dst.any M.contains then
      match Θ t with
      | some ⟨.slice e, _, _, _⟩ =>
        match Θ e with
        | some d => (parts.toList.map Prod.fst = List.range n ∧ n * d.size ≤ 16777216 ∧ n ≤ 16777216 ∧ ∀ p ∈ parts.toList, (ρ p.2).known = true ∧ (ρ p.2).flat.length = d.size) ∧
          ∀ b, h b = none → K (.mu b n) (upd h b (some ⟨(parts.toList.map fun p => ρ p.2).flatMap AV.flat, e, d.size, true⟩))
        | none => False
      | _ => False
    else pOp P Θ ρ h (.buildSlice t n parts) fun v => K v h
  | .store t x y =>
    match ρ x with
    | .ptr o off =>
      match h o, Θ t with
      | some ob, some d => ((ρ y).known = true ∧ (ρ y).flat.length = d.size ∧ allOne (ρ y).flat ∧ off + d.size ≤ ob.cells.length) ∧
        K .any (upd h o (some ⟨setAt ob.cells off (ρ y).flat, ob.ty, ob.sz, ob.nn⟩))
      | _, _ => False
    | _ => False
  | .call c =>
    match c.callee with
    | .value f => match ρ f with | .clo f cap => AC P f (c.args.toList.map ρ ++ cap) h K | .bnd f first => AC P f (first ++ c.args.toList.map ρ) h K | _ => False
    | .invoke r name => match ρ r with | .ifc t u => ∃ f e, Meth P t name f e ∧ recvA Θ h e u fun v => AC P f (v :: c.args.toList.map ρ) h K | _ => False
    | .builtin .append =>
      match c.args.toList, c.argTypes.toList with
      | [s, y], [t, t'] => t' = t ∧
        match Θ t, listA (ρ y) with
        | some ⟨.slice e, _, _, _⟩, some ys => match Θ e with | some d => appendA e d h (ρ s) ys K | none => False
        | _, _ => False
      | _, _ => False
    | .builtin .copy =>
      match c.args.toList, c.argTypes.toList with
      | [s, y], [t, _] =>
        match Θ t, dstA (ρ s), srcA h (ρ y) with
        | some ⟨.slice e, _, _, _⟩, some (b, off, n), some ys =>
          match Θ e, h b with
          | some d, some x => (d.size = 1 ∧ x.sz = 1 ∧ (x.nn = true ∨ 0 < n) ∧ off + n ≤ x.cells.length ∧ (∀ u ∈ ys, u.flat = [u] ∧ u.one = true) ∧ 0 < ys.length) ∧
            K (.int .i64 (min ys.length n : Nat)) (upd h b (some ⟨x.cells.take off ++ ys.take (min ys.length n) ++ x.cells.drop (off + min ys.length n), x.ty, x.sz, x.nn⟩))
          | _, _ => False
        | _, _, _ => False
      | _, _ => False
    | _ => pOp P Θ ρ h (.call c) fun v => K v h
  | .makeMap t r =>
    match r, Θ t with
    | none, some ⟨.map _ _, _, _, _⟩ => ∀ b, h b = none → K (.mp b) (upd h b (some ⟨[], t, 0, true⟩))
    | _, _ => False
  | .lookup t x i ok =>
    match Θ t, ρ x with
    | some ⟨.map kt e, _, _, _⟩, .mp o =>
      match h o, Θ e with
      | some ob, some d => (KeysA P kt ob.cells ∧ KeyA P kt (ρ i)) ∧
        match lookM (keyI (ρ i)) ob.cells with
        | some v => K (if ok then .tup [v, .bool true] else v) h
        | none => K (if ok then .tup [absV d.zero, .bool false] else absV d.zero) h
      | _, _ => False
    | _, _ => False
  | .mapUpdate t x i y =>
    match Θ t, ρ x with
    | some ⟨.map kt _, _, _, _⟩, .mp o =>
      match h o with
      | some ob => (KeysA P kt ob.cells ∧ KeyA P kt (ρ i)) ∧ K .any (upd h o (some ⟨putM (ρ i) (ρ y) ob.cells, ob.ty, ob.sz, ob.nn⟩))
      | none => False
    | _, _ => False
  | o => pOp P Θ ρ h o fun v => K v h

def VcRun (P : Program) (o : Oper) (φ : Names) (h : Heap) (w : World) (a : Act) (K : AV → Heap → Prop) : Prop :=
  ∀ (next : Act → World → Prop) (Q : Exit → Act → World → Prop),
    (∀ φ' h' w' x v, Ext φ φ' → Keeps (own φ h) w (own φ' h') w' → HR φ' w' h' → VR φ' (own φ' h') w' v x → K v h' → next (a.put o.dst x) w') → o.wp P a w next Q

section runs
variable {P : Program} {Θ : Types} {M : List Nat} {o : Oper} {φ : Names} {h : Heap} {w : World} {a : Act} {ρ : Operand → AV} {K : AV → Heap → Prop}

theorem VcRun.pure (hΘ : Θ.ok P) (H : HR φ w h) (hx : ∀ y ∈ o.op.operands, VR φ (own φ h) w (ρ y) (a.eval y)) (hp : pOp P Θ ρ h o.op fun v => K v h) : VcRun P o φ h w a K := by
  obtain ⟨v, hk, hv⟩ := pOp_val hp
  intro next Q hn
  exact pOp_run hΘ H hx hv next Q fun φ' w' x h1 h2 h3 h4 => hn φ' h w' x v h1 h2 h3 h4 hk

theorem VcRun.new (H : HR φ w h) {t : TypeId} {x : AV} {X : Value} (hX : VR φ (own φ h) w x X) (hr : (execOp a.eval o).run P w = .ok (.value (.pointer (some ⟨w.heap.size, 0, none⟩))) (w.alloc (.cells X.cells t)))
    (hp : newA h t x K) : VcRun P o φ h w a K := by
  obtain ⟨⟨hk, h0⟩, hp⟩ := hp
  obtain ⟨n, hφ, hn⟩ := H.fresh
  have hf := hX.flat hk
  obtain ⟨H', hkeep⟩ := H.new (w' := w.alloc (.cells X.cells t)) hφ hn ⟨x.flat, t, x.flat.length, true⟩ X.cells 1 ⟨w.drawn, rfl⟩ (by simp [hf.1]) (by simp [maxLen]) (by simp [hf.1]) hf.2
  intro next Q hnx
  unfold Oper.wp
  rw [hr]
  exact hnx _ _ _ _ _ (Ext.bind1 hφ _) hkeep H' (.ptr n 0 w.heap.size 1 (bind1_same _ _ _)) (hp n hn)

theorem VcRun.store (hΘ : Θ.ok P) (H : HR φ w h) {t : TypeId} {x y : Operand} (ho : o.op = .store t x y) (hx : VR φ (own φ h) w (ρ x) (a.eval x)) (hy : VR φ (own φ h) w (ρ y) (a.eval y))
    (hp : vcOp P Θ M ρ h o.dst (.store t x y) K) : VcRun P o φ h w a K := by
  simp only [vcOp] at hp
  split at hp
  · rename_i ob off e
    rw [e] at hx
    generalize hq : a.eval x = V at hx
    split at hp
    · rename_i x' d hob hd
      obtain ⟨⟨hk, hl, h1, hle⟩, hK⟩ := hp
      have ok := hΘ t d hd
      have hf := hy.flat hk
      cases hx with
      | ptr _ _ b cap hl' =>
        obtain ⟨l, hl2, hr⟩ := H.ob _ _ hob
        rw [hl'] at hl2
        cases hl2
        obtain ⟨cur, k1, k2, k3, k4, k5⟩ := hr
        have hst := run_storeCells_at P b off x'.ty (a.eval y).cells.toList 0 cur w k1 (by have := hf.1; simp; omega) (by
          intro v hv
          obtain ⟨j, hj⟩ := List.getElem?_of_mem hv
          have hjl : j < (ρ y).flat.length := by rw [hf.1]; simpa using (List.getElem?_eq_some_iff.1 hj).1
          have h2 := hf.2 j _ (List.getElem?_eq_getElem hjl)
          have e2 : (a.eval y).cells.getD j undef = v := by simpa using congrArg (·.getD undef) hj
          rw [e2] at h2
          exact h2.oneCell (h1 _ (List.getElem_mem hjl)))
        have hlen : (a.eval y).cells.toList.length = d.size := by rw [← hl, hf.1]; simp
        obtain ⟨H', hkeep⟩ := H.write hob hl' (cur' := (cur.toList.take (off + 0) ++ (a.eval y).cells.toList ++ cur.toList.drop (off + 0 + (a.eval y).cells.toList.length)).toArray) k1 (by
          simp only [List.size_toArray, List.length_append, List.length_take, List.length_drop, Array.length_toList] at hlen ⊢
          omega) k2 k3 (setAt x'.cells off (ρ y).flat) (by rw [setAt_length]; exact k4) x'.nn (by
          intro j u hu
          have hj := (List.getElem?_eq_some_iff.1 hu).1
          rw [setAt_length] at hj
          rw [setAt_get _ _ _ _ (by omega)] at hu
          have hcj : j < cur.size := by omega
          have hsz : (a.eval y).cells.size = d.size := by simpa using hlen
          by_cases hc : off ≤ j ∧ j < off + (ρ y).flat.length
          · rw [if_pos hc] at hu
            have := hf.2 _ _ hu
            have e3 : ((cur.toList.take (off + 0) ++ (a.eval y).cells.toList ++ cur.toList.drop (off + 0 + (a.eval y).cells.toList.length)).toArray).getD j undef = (a.eval y).cells.getD (j - off) undef := by
              have : j - off < (a.eval y).cells.size := by omega
              rw [List.append_assoc]
              simp [List.getElem?_append_right, List.getElem?_append_left, Nat.min_eq_left (show off ≤ cur.size by omega), hc.1, this, Array.getElem?_eq_getElem]
            rw [e3]
            exact this
          · rw [if_neg hc] at hu
            have := k5 _ _ hu
            have e3 : ((cur.toList.take (off + 0) ++ (a.eval y).cells.toList ++ cur.toList.drop (off + 0 + (a.eval y).cells.toList.length)).toArray).getD j undef = cur.getD j undef := by
              rw [List.append_assoc]
              by_cases hlt : j < off
              · simp [List.getElem?_append_left, hlt, hcj, Nat.min_eq_left (show off ≤ cur.size by omega)]
              · have e4 : j - off - (a.eval y).cells.size + (off + (a.eval y).cells.size) = j := by omega
                simp [List.getElem?_append_right, Nat.min_eq_left (show off ≤ cur.size by omega), (show off ≤ j by omega), (show (a.eval y).cells.size ≤ j - off by omega), List.getElem?_drop]
                congr 2
                omega
            rw [e3]
            exact this)
        intro next Q hnx
        unfold Oper.wp
        have hrun : (execOp a.eval o).run P w = .ok .skip (w.setRow b ((cur.toList.take (off + 0) ++ (a.eval y).cells.toList ++ cur.toList.drop (off + 0 + (a.eval y).cells.toList.length)).toArray)) := by
          have hne : ¬ ((a.eval y).cells.size ≠ d.size) := by simpa using hlen
          simp only [execOp, ho, hq, Instr.storeAt, Instr.sureAddr, Sem.run_bind, Sem.run_pure, Result.andThen_ok, storeVar, ok.sizeOf, if_neg hne, hst]
        rw [hrun, Oper.upon_skip]
        exact hnx φ _ _ undef .any (Ext.refl φ) hkeep H' (.any _) hK
    · exact hp.elim
  · exact hp.elim
end runs
end Go.Par

set_option linter.unusedSimpArgs false
namespace Go.Par

theorem flat_len {ys : List AV} {s : Nat} (hs : ∀ y ∈ ys, y.flat.length = s) : (ys.flatMap AV.flat).length = ys.length * s := by
  induction ys with
  | nil => simp
  | cons y ys ih => rw [List.flatMap_cons, List.length_append, ih (fun z hz => hs z (by simp [hz])), hs y (by simp), List.length_cons, Nat.succ_mul]; omega

/-- What an appended slice holds. -/
theorem news_of {φ : Names} {B : Nat → Prop} {w : World} {y : AV} {Y : Value} {ys : List AV} {s : Nat} (hY : VR φ B w y Y) (hl : listA y = some ys) (hs : ∀ y ∈ ys, y.flat.length = s ∧ allOne y.flat) :
    ∃ A c, Y = .slice A ys.length c ∧ (ys = [] ∨ ∃ (ad : Addr) (news : List Value), A = some ad ∧ news.length = ys.length * s ∧ (∀ (j : Nat) u, news[j]? = some u → w.cell? (ad.add j) = some u) ∧ (∀ u ∈ news, u.oneCell' = true) ∧
      (∀ (j : Nat) u, (ys.flatMap AV.flat)[j]? = some u → VR φ B w u (news.getD j undef))) := by
  unfold listA at hl
  split at hl
  · cases hl
    cases hY
    exact ⟨none, 0, rfl, .inl rfl⟩
  · cases hl
    obtain ⟨A, c, e, hc, hA, _, hX⟩ := hY.ro_inv
    refine ⟨A, c, e, ?_⟩
    rcases hX with rfl | ⟨b, off, s', f, rfl, hB, hb, hs', hcell, hval⟩
    · exact .inl rfl
    · right
      have hlen : (ys.flatMap AV.flat).length = ys.length * s := flat_len fun y hy => (hs y hy).1
      refine ⟨⟨b, off, none⟩, (List.range (ys.length * s)).map f, rfl, by simp, ?_, ?_, ?_⟩
      · intro j u hu
        simp only [List.getElem?_map, Option.map_eq_some_iff] at hu
        obtain ⟨i, hi, rfl⟩ := hu
        obtain ⟨h1, h2⟩ := List.getElem?_eq_some_iff.1 hi
        simp at h1 h2
        subst h2
        rw [add_plain]
        exact hcell _ _ (List.getElem?_eq_getElem (by omega))
      · intro u hu
        obtain ⟨i, hi, rfl⟩ := List.mem_map.1 hu
        rw [List.mem_range] at hi
        have hi' : i < (ys.flatMap AV.flat).length := by omega
        refine (hval i _ (List.getElem?_eq_getElem hi')).oneCell ?_
        obtain ⟨z, hz, hz2⟩ := List.mem_flatMap.1 (List.getElem_mem hi')
        exact (hs z hz).2 _ hz2
      · intro j u hu
        have hj : j < ys.length * s := by rw [← hlen]; exact (List.getElem?_eq_some_iff.1 hu).1
        have : ((List.range (ys.length * s)).map f).getD j undef = f j := by simp [hj]
        rw [this]
        exact hval j u hu
  · cases hl

section runs
variable {P : Program} {Θ : Types} {M : List Nat} {o : Oper} {φ : Names} {h : Heap} {w : World} {a : Act} {ρ : Operand → AV} {K : AV → Heap → Prop}

/-- An object goes on under another name. -/
theorem HR.rename (H : HR φ w h) {o : Nat} {x : Ob} (hx : h o = some x) {l : Loc} (hl : φ o = some l) (hr : ObR φ (own φ h) w x l) {n : Nat} (hφ : φ n = none) (hn : h n = none) (x' : Ob)
    (hx' : ∀ B, (∀ b, B b ↔ own φ h b) → ObR φ B w x' l) :
    HR (bind1 φ n l) w (upd (upd h o none) n (some x')) ∧ Keeps (own φ h) w (own (bind1 φ n l) (upd (upd h o none) n (some x'))) w := by
  have hne : n ≠ o := by rintro rfl; rw [hn] at hx; cases hx
  have hn' : upd h o none n = none := by rw [upd_ne _ _ hne]; exact hn
  obtain ⟨H1, hless⟩ := H.less (h' := upd h o none) (by
    intro o' y hy
    by_cases e : o' = o
    · subst e; rw [upd_same] at hy; cases hy
    · rwa [upd_ne _ _ e] at hy)
  have hown : ∀ b, own (bind1 φ n l) (upd (upd h o none) n (some x')) b ↔ own φ h b := by
    intro b
    rw [own_name hn']
    constructor
    · rintro (hb | ⟨c, q⟩)
      · exact hless b hb
      · exact ⟨o, c, by simp [hx], q.elim (fun q => .inl (by rw [hl, q])) fun q => .inr (by rw [hl, q])⟩
    · rintro ⟨o', c, h1, h2⟩
      by_cases e : o' = o
      · subst e
        exact .inr ⟨c, h2.elim (fun q => .inl (Option.some.inj (hl.symm.trans q))) fun q => .inr (Option.some.inj (hl.symm.trans q))⟩
      · exact .inl ⟨o', c, by rwa [upd_ne _ _ e], h2⟩
  have hk : ∀ B, (∀ b, own (bind1 φ n l) (upd (upd h o none) n (some x')) b → B b) → Keeps B w (own (bind1 φ n l) (upd (upd h o none) n (some x'))) w := fun B hB => Keeps.less w hB
  have hnot : ∀ b c, (l = .blk b c ∨ l = .mp b) → ¬ own φ (upd h o none) b := by
    rintro b c q ⟨o', c', h1, h2⟩
    have hl : lies φ o b c := q.elim (fun q => .inl (by rw [hl, q])) fun q => .inr (by rw [hl, q])
    by_cases e : o' = o
    · subst e; simp [upd_same] at h1
    · rw [upd_ne _ _ e] at h1
      exact e (H.inj o' o b c' c h1 (by simp [hx]) h2 hl)
  refine ⟨?_, hk _ fun b hb => (hown b).1 hb⟩
  refine ⟨fun o' y hy => ?_, fun o1 o2 b c c' h1 h2 e1 e2 => ?_, ?_⟩
  · by_cases e : o' = n
    · subst e
      rw [upd_same] at hy
      cases hy
      refine ⟨l, bind1_same _ _ _, ?_⟩
      have := hx' _ hown
      cases l with
      | nil => exact this
      | res => exact this.elim
      | blk b cap =>
        obtain ⟨cur, k1, k2, k3, k4, k5⟩ := this
        exact ⟨cur, k1, k2, k3, k4, fun j u hu => (k5 j u hu).mono (Ext.bind1 hφ _) (Keeps.refl _ _)⟩
      | mp b => exact this.weakM (Ext.bind1 hφ _) (Keeps.refl _ _)
    · rw [upd_ne _ _ e] at hy
      obtain ⟨l', h1, h2⟩ := H1.ob o' y hy
      refine ⟨l', by rw [bind1_ne _ _ e]; exact h1, ?_⟩
      cases l' with
      | nil => exact h2
      | res => exact h2.elim
      | blk b cap =>
        obtain ⟨l2, g1, g2⟩ := H.ob o' y (by
          by_cases e' : o' = o
          · subst e'; rw [upd_same] at hy; cases hy
          · rwa [upd_ne _ _ e'] at hy)
        rw [h1] at g1
        cases g1
        obtain ⟨cur, k1, k2, k3, k4, k5⟩ := g2
        exact ⟨cur, k1, k2, k3, k4, fun j u hu => (k5 j u hu).mono (Ext.bind1 hφ _) (hk _ fun b hb => (hown b).1 hb)⟩
      | mp b =>
        obtain ⟨l2, g1, g2⟩ := H.ob o' y (by
          by_cases e' : o' = o
          · subst e'; rw [upd_same] at hy; cases hy
          · rwa [upd_ne _ _ e'] at hy)
        rw [h1] at g1
        cases g1
        exact g2.weakM (Ext.bind1 hφ _) (hk _ fun b hb => (hown b).1 hb)
  · by_cases e : o1 = n
    · by_cases e' : o2 = n
      · rw [e, e']
      · subst e
        rw [lies_same] at e1
        rw [lies_ne e'] at e2
        rw [upd_ne _ _ e'] at h2
        exact absurd ⟨o2, c', h2, e2⟩ (hnot b c e1)
    · by_cases e' : o2 = n
      · subst e'
        rw [lies_same] at e2
        rw [lies_ne e] at e1
        rw [upd_ne _ _ e] at h1
        exact absurd ⟨o1, c, h1, e1⟩ (hnot b c' e2)
      · rw [lies_ne e] at e1
        rw [lies_ne e'] at e2
        rw [upd_ne _ _ e] at h1
        rw [upd_ne _ _ e'] at h2
        exact H1.inj o1 o2 b c c' h1 h2 e1 e2
  · obtain ⟨N, hN⟩ := H.free
    refine ⟨max N (n + 1), fun o ho => ?_⟩
    rw [bind1_ne _ _ (by omega)]
    exact hN o (by omega)

theorem VcRun.append (hΘ : Θ.ok P) (H : HR φ w h) {c : Call} {s y : Operand} {t e : TypeId} {d : TD} {ys : List AV} {sz bt : Nat} {z : Value} (ho : o.op = .call c) (hc : c.callee = .builtin .append) (hca : c.args = #[s, y]) (hct : c.argTypes = #[t, t])
    (hd : Θ t = some ⟨.slice e, sz, bt, z⟩) (hde : Θ e = some d) (hs : VR φ (own φ h) w (ρ s) (a.eval s)) (hy : VR φ (own φ h) w (ρ y) (a.eval y)) (hl : listA (ρ y) = some ys)
    (hp : appendA e d h (ρ s) ys K) : VcRun P o φ h w a K := by
  obtain ⟨⟨hsz, hz, hys⟩, hp⟩ := hp
  have hu := (hΘ t _ hd).slice
  have ok := hΘ e d hde
  obtain ⟨i, hi, i1, i2, i3⟩ := ok.1
  obtain ⟨A, C, eY, hnews⟩ := news_of hy hl hys
  have hflen : (ys.flatMap AV.flat).length = ys.length * d.size := flat_len fun y hy => (hys y hy).1
  have exec : ∀ v w', (Builtin.append_ #[t, t] o.type #[a.eval s, a.eval y]).run P w = .ok v w' → (execOp a.eval o).run P w = .ok (.value v) w' := by
    intro v w' hr
    simp [execOp, ho, resolve, hc, hca, hct, invoke, builtin, hr]
  intro next Q hnx
  unfold Oper.wp
  split at hp
  · rename_i es
    rw [es] at hs
    generalize hq : a.eval s = S at hs
    cases hs
    split at hp
    · have hr : (Builtin.append_ #[t, t] o.type #[a.eval s, a.eval y]).run P w = .ok (.slice none 0 0) w := by
        rw [hq, eY]
        cases A <;> simp [Builtin.append_, run_underlying hu, sizeOf, typeInfo, hi, Builtin.lenOf, Builtin.firstCells, loadCells, loadCellsFrom]
      rw [exec _ _ hr]
      exact hnx φ h w _ .nils (Ext.refl φ) (Keeps.refl _ w) H .nils hp
    · rename_i y0 ys
      obtain ⟨⟨hb, hm⟩, hp⟩ := hp
      rcases hnews with h0 | ⟨ad, news, rfl, n1, n2, n3, n4⟩
      · cases h0
      · obtain ⟨n, hφ, hn⟩ := H.fresh
        have hr := run_append_nil (P := P) w t o.type e i d.zero hu hi i3 ad (y0 :: ys).length C news (by rw [n1, i1]) n2 (by simp) (by simp; omega) (by rw [i2]; simp; omega)
        rw [exec _ _ (by rw [hq, eY]; exact hr)]
        have hge := grownCap_ge w (y0 :: ys).length 0 e
        obtain ⟨H', hk⟩ := H.new (w' := w.drew.alloc (.cells (news.toArray ++ Builtin.zeroCells d.zero.cells (grownCap w (y0 :: ys).length 0 e - (y0 :: ys).length)) e)) hφ hn ⟨(y0 :: ys).flatMap AV.flat, e, d.size, true⟩ _ (grownCap w (y0 :: ys).length 0 e) ⟨w.drawn + 1, rfl⟩ (by
          simp only [Array.size_append, List.size_toArray, size_zeroCells, hz, n1, ← Nat.add_mul]
          congr 1
          omega) (grownCap_le_maxLen _ _ _ _ (by simp [maxLen]; omega)) (by rw [hflen]; simp [n1]) (by
          intro j u hu'
          have hj : j < news.length := by rw [n1, ← hflen]; exact (List.getElem?_eq_some_iff.1 hu').1
          have e3 : (news.toArray ++ Builtin.zeroCells d.zero.cells (grownCap w (y0 :: ys).length 0 e - (y0 :: ys).length)).getD j undef = news.getD j undef := by
            simp [Array.getElem?_append, hj]
          rw [e3]
          exact n4 j u hu')
        exact hnx _ _ _ _ _ (Ext.bind1 hφ _) hk H' (.mu n _ w.heap.size _ (bind1_same _ _ _) hge) (hp n hn)
  · rename_i ob n es
    rw [es] at hs
    split at hp
    · rename_i x hob
      obtain ⟨⟨t1, t2, hle, hb, hm⟩, hp⟩ := hp
      subst t1
      obtain ⟨l, hl', hr'⟩ := H.ob _ _ hob
      obtain ⟨n', hφ, hn⟩ := H.fresh
      generalize hq : a.eval s = S at hs
      by_cases hy0 : ys = []
      · -- nothing is appended
        subst hy0
        have hr : (Builtin.append_ #[t, t] o.type #[a.eval s, a.eval y]).run P w = .ok S w := by
          rw [hq, eY]
          cases hs <;> cases A <;> simp [Builtin.append_, run_underlying hu, sizeOf, typeInfo, hi, Builtin.lenOf, Builtin.firstCells, loadCells, loadCellsFrom, storeCells, *]
        rw [exec _ _ hr]
        obtain ⟨H', hk⟩ := H.rename hob hl' hr' hφ hn ⟨x.cells.take (n * d.size) ++ ([] : List AV).flatMap AV.flat, x.ty, d.size, x.nn || !([] : List AV).isEmpty⟩ (by
          intro B hB
          cases l with
          | nil => simp only [ObR] at hr' ⊢; simp [hr'.1, hr'.2]
          | res => exact hr'.elim
          | blk b cap =>
            obtain ⟨cur, k1, k2, k3, k4, k5⟩ := hr'
            refine ⟨cur, k1, by rw [← t2]; exact k2, k3, by simp; omega, fun j u hu' => ?_⟩
            simp only [List.flatMap_nil, List.append_nil, List.getElem?_take] at hu'
            split at hu'
            · exact (k5 j u hu').weaken fun b hb => (hB b).1 hb
            · cases hu'
          | mp b => exfalso; cases hs with | muN _ h1 => rw [h1] at hl'; cases hl' | mu _ _ _ _ h1 => rw [h1] at hl'; cases hl')
        refine hnx _ _ _ _ _ (Ext.bind1 hφ _) hk H' ?_ (hp n' hn)
        cases hs with
        | muN _ h1 =>
          rw [h1] at hl'
          cases hl'
          exact .muN n' (bind1_same _ _ _)
        | mu _ _ b cap h1 h2 =>
          rw [h1] at hl'
          cases hl'
          exact .mu n' _ b cap (bind1_same _ _ _) (by simpa using h2)
      · obtain ⟨ad, news, rfl, n1, n2, n3, n4⟩ := hnews.resolve_left hy0
        have hpos : 0 < ys.length := List.length_pos_iff.2 hy0
        · cases hs with
          | muN _ h1 =>
            rw [h1] at hl'
            cases hl'
            have hx0 : x.cells = [] := hr'.1
            have hr := run_append_nil (P := P) w t o.type x.ty i d.zero hu hi i3 ad ys.length C news (by rw [n1, i1]) n2 hpos (by omega) (by rw [i2]; simp at hb; omega)
            rw [exec _ _ (by rw [hq, eY]; exact hr)]
            have hge := grownCap_ge w ys.length 0 x.ty
            obtain ⟨H1, hless⟩ := H.less (h' := upd h ob none) (by
              intro o' y hy
              by_cases e : o' = ob
              · subst e; rw [upd_same] at hy; cases hy
              · rwa [upd_ne _ _ e] at hy)
            have hne : n' ≠ ob := by rintro rfl; rw [hn] at hob; cases hob
            obtain ⟨H', hk⟩ := H1.new (w' := w.drew.alloc (.cells (news.toArray ++ Builtin.zeroCells d.zero.cells (grownCap w ys.length 0 x.ty - ys.length)) x.ty)) hφ (by rw [upd_ne _ _ hne]; exact hn) ⟨x.cells.take (0 * d.size) ++ ys.flatMap AV.flat, x.ty, d.size, x.nn || !ys.isEmpty⟩ _ (grownCap w ys.length 0 x.ty) ⟨w.drawn + 1, rfl⟩ (by
              simp only [Array.size_append, List.size_toArray, size_zeroCells, hz, n1, ← Nat.add_mul]
              congr 1
              omega) (grownCap_le_maxLen _ _ _ _ (by simp [maxLen]; omega)) (by rw [hx0]; simp only [List.take_nil, List.nil_append, hflen]; simp [n1]) (by
              intro j u hu'
              simp only [hx0, List.take_nil, List.nil_append] at hu'
              have hj : j < news.length := by rw [n1, ← hflen]; exact (List.getElem?_eq_some_iff.1 hu').1
              have e3 : (news.toArray ++ Builtin.zeroCells d.zero.cells (grownCap w ys.length 0 x.ty - ys.length)).getD j undef = news.getD j undef := by
                simp [Array.getElem?_append, hj]
              rw [e3]
              exact (n4 j u hu').weaken hless)
            refine hnx _ _ _ _ _ (Ext.bind1 hφ _) ((Keeps.less w hless).trans hk) H' ?_ (hp n' hn)
            have := VR.mu (φ := bind1 φ n' (.blk w.heap.size (grownCap w ys.length 0 x.ty))) (B := own (bind1 φ n' (.blk w.heap.size (grownCap w ys.length 0 x.ty))) (upd (upd h ob none) n' (some ⟨x.cells.take (0 * d.size) ++ ys.flatMap AV.flat, x.ty, d.size, x.nn || !ys.isEmpty⟩))) (w := w.drew.alloc (.cells (news.toArray ++ Builtin.zeroCells d.zero.cells (grownCap w ys.length 0 x.ty - ys.length)) x.ty)) n' ys.length w.heap.size _ (bind1_same _ _ _) hge
            simpa using this
          | mu _ _ b cap h1 h2 =>
            rw [h1] at hl'
            cases hl'
            obtain ⟨cur, k1, k2, k3, k4, k5⟩ := hr'
            rw [t2] at k2
            have hnsz : n * d.size ≤ cur.size := by rw [k2]; exact Nat.mul_le_mul_right _ h2
            by_cases hroom : n + ys.length ≤ cap
            · have hfit : n * d.size + news.length ≤ cur.size := by rw [n1, k2, ← Nat.add_mul]; exact Nat.mul_le_mul_right _ hroom
              have hr := run_append_room (P := P) w t o.type x.ty i hu hi b n cap cur k1 ad ys.length C news (by rw [n1, i1]) n2 n3 hroom (by rw [i1]; exact hfit)
              rw [exec _ _ (by rw [hq, eY]; exact hr), i1]
              have hcur' : ∀ (j : Nat), j < n * d.size + ys.length * d.size → ((cur.toList.take (n * d.size) ++ news ++ cur.toList.drop (n * d.size + news.length)).toArray).getD j undef = if j < n * d.size then cur.getD j undef else news.getD (j - n * d.size) undef := by
                intro j hj
                rw [List.append_assoc]
                by_cases hjn : j < n * d.size
                · rw [if_pos hjn]
                  simp [List.getElem?_append_left, hjn, Nat.min_eq_left hnsz, (show j < cur.size by omega)]
                · rw [if_neg hjn]
                  simp [List.getElem?_append_right, List.getElem?_append_left, Nat.min_eq_left hnsz, (show n * d.size ≤ j by omega), (show j - n * d.size < news.length by omega)]
              have hcells : ∀ (j : Nat) u, (x.cells.take (n * d.size) ++ ys.flatMap AV.flat)[j]? = some u → VR φ (own φ h) w u (((cur.toList.take (n * d.size) ++ news ++ cur.toList.drop (n * d.size + news.length)).toArray).getD j undef) := by
                intro j u hu'
                have hjl := (List.getElem?_eq_some_iff.1 hu').1
                rw [List.length_append, List.length_take, hflen, Nat.min_eq_left hle] at hjl
                rw [hcur' j hjl]
                by_cases hjn : j < n * d.size
                · rw [if_pos hjn]
                  rw [List.getElem?_append_left (by simp; omega), List.getElem?_take, if_pos hjn] at hu'
                  exact k5 j u hu'
                · rw [if_neg hjn]
                  rw [List.getElem?_append_right (by simp; omega)] at hu'
                  have e4 : (x.cells.take (n * d.size)).length = n * d.size := by simp; omega
                  rw [e4] at hu'
                  exact n4 _ u hu'
              have hlen2 : (x.cells.take (n * d.size) ++ ys.flatMap AV.flat).length ≤ cur.size := by
                rw [List.length_append, List.length_take, hflen, Nat.min_eq_left hle, ← n1]
                exact hfit
              obtain ⟨H1, hk1⟩ := H.write hob h1 (cur' := (cur.toList.take (n * d.size) ++ news ++ cur.toList.drop (n * d.size + news.length)).toArray) k1 (by
                simp only [List.size_toArray, List.length_append, List.length_take, List.length_drop, Array.length_toList]
                omega) (by rw [t2]; exact k2) k3 (x.cells.take (n * d.size) ++ ys.flatMap AV.flat) hlen2 (x.nn || !ys.isEmpty) hcells
              have hne : n' ≠ ob := by rintro rfl; rw [hn] at hob; cases hob
              obtain ⟨l3, g1, g2⟩ := H1.ob ob _ (upd_same _ _ _)
              rw [h1] at g1
              cases g1
              obtain ⟨H2, hk2⟩ := H1.rename (upd_same _ _ _) h1 g2 hφ (by rw [upd_ne _ _ hne]; exact hn) ⟨x.cells.take (n * d.size) ++ ys.flatMap AV.flat, x.ty, d.size, x.nn || !ys.isEmpty⟩ (by
                intro B hB
                obtain ⟨cur3, q1, q2, q3, q4, q5⟩ := g2
                exact ⟨cur3, q1, by rw [← t2]; exact q2, q3, q4, fun j u hu' => (q5 j u hu').weaken fun b hb => (hB b).1 hb⟩)
              have hupd : upd (upd h ob (some ⟨x.cells.take (n * d.size) ++ ys.flatMap AV.flat, x.ty, x.sz, x.nn || !ys.isEmpty⟩)) ob none = upd h ob none := by
                funext o'
                simp only [upd]
                split <;> rfl
              rw [hupd] at H2 hk2
              exact hnx _ _ _ _ _ (Ext.bind1 hφ _) (hk1.trans hk2) H2 (.mu n' _ b cap (bind1_same _ _ _) hroom) (hp n' hn)
            · have hxs : (cur.toList.take (n * d.size)).length = n * i.size := by rw [i1]; simp; omega
              have hr := run_append_grow (P := P) w t o.type x.ty i d.zero hu hi i3 ⟨b, 0, none⟩ n cap (cur.toList.take (n * d.size)) hxs (by
                intro j v hv
                rw [add_plain, Nat.zero_add, cell_of_row w b j cur x.ty (0, 0) k1]
                rw [List.getElem?_take] at hv
                split at hv
                · simpa using hv
                · cases hv) ad ys.length C news (by rw [n1, i1]) n2 (by omega) (by omega) (growslice_fits (by omega) (by rw [i2]; exact hb))
              rw [exec _ _ (by rw [hq, eY]; exact hr)]
              have hge := grownCap_ge w (n + ys.length) cap x.ty
              obtain ⟨H1, hless⟩ := H.less (h' := upd h ob none) (by
                intro o' y hy
                by_cases e : o' = ob
                · subst e; rw [upd_same] at hy; cases hy
                · rwa [upd_ne _ _ e] at hy)
              have hne : n' ≠ ob := by rintro rfl; rw [hn] at hob; cases hob
              have hlen2 : (x.cells.take (n * d.size) ++ ys.flatMap AV.flat).length = (n + ys.length) * d.size := by
                rw [List.length_append, List.length_take, hflen, Nat.min_eq_left hle, Nat.add_mul]
              have hlen3 : (cur.toList.take (n * d.size)).length = n * d.size := by simp; omega
              obtain ⟨H', hk⟩ := H1.new (w' := w.drew.alloc (.cells ((cur.toList.take (n * d.size)).toArray ++ news.toArray ++ Builtin.zeroCells d.zero.cells (grownCap w (n + ys.length) cap x.ty - (n + ys.length))) x.ty)) hφ (by rw [upd_ne _ _ hne]; exact hn) ⟨x.cells.take (n * d.size) ++ ys.flatMap AV.flat, x.ty, d.size, x.nn || !ys.isEmpty⟩ _ (grownCap w (n + ys.length) cap x.ty) ⟨w.drawn + 1, rfl⟩ (by
                simp only [Array.size_append, List.size_toArray, size_zeroCells, hz, n1, hlen3, ← Nat.add_mul]
                congr 1
                omega) (grownCap_le_maxLen _ _ _ _ (by simp [maxLen]; omega)) (by rw [hlen2]; simp only [Array.size_append, List.size_toArray, hlen3, n1, Nat.add_mul]; omega) (by
                intro j u hu'
                have hjl := (List.getElem?_eq_some_iff.1 hu').1
                rw [hlen2, Nat.add_mul] at hjl
                have e3 : ((cur.toList.take (n * d.size)).toArray ++ news.toArray ++ Builtin.zeroCells d.zero.cells (grownCap w (n + ys.length) cap x.ty - (n + ys.length))).getD j undef = if j < n * d.size then cur.getD j undef else news.getD (j - n * d.size) undef := by
                  by_cases hjn : j < n * d.size
                  · rw [if_pos hjn]
                    simp [Array.getElem?_append, Nat.min_eq_left hnsz, hjn, (show j < n * d.size + news.length by omega), (show j < cur.size by omega)]
                  · rw [if_neg hjn]
                    simp [Array.getElem?_append, Nat.min_eq_left hnsz, hjn, (show j < n * d.size + news.length by omega), (show j - n * d.size < news.length by omega)]
                    rw [List.getElem_append_right (by simp; omega)]
                    simp [Nat.min_eq_left hnsz]
                rw [e3]
                by_cases hjn : j < n * d.size
                · rw [if_pos hjn]
                  rw [List.getElem?_append_left (by simp; omega), List.getElem?_take, if_pos hjn] at hu'
                  exact (k5 j u hu').weaken hless
                · rw [if_neg hjn]
                  rw [List.getElem?_append_right (by simp; omega)] at hu'
                  have e4 : (x.cells.take (n * d.size)).length = n * d.size := by simp; omega
                  rw [e4] at hu'
                  exact (n4 _ u hu').weaken hless)
              exact hnx _ _ _ _ _ (Ext.bind1 hφ _) ((Keeps.less w hless).trans hk) H' (.mu n' _ w.heap.size _ (bind1_same _ _ _) hge) (hp n' hn)
    · exact hp.elim
  · exact hp.elim
end runs
end Go.Par

set_option linter.unusedSimpArgs false
set_option linter.unusedVariables false
namespace Go.Par

theorem HR.newMap {φ : Names} {w : World} {h : Heap} (H : HR φ w h) {n : Nat} (hφ : φ n = none) (hn : h n = none) (t : TypeId) :
    HR (bind1 φ n (.mp w.heap.size)) (w.alloc (.map #[] 0)) (upd h n (some ⟨[], t, 0, true⟩)) ∧ Keeps (own φ h) w (own (bind1 φ n (.mp w.heap.size)) (upd h n (some ⟨[], t, 0, true⟩))) (w.alloc (.map #[] 0)) := by
  have hold : ∀ b, b < w.heap.size → (w.alloc (.map #[] 0)).heap[b]? = w.heap[b]? := fun b hb => RowKit.Below.heap_alloc _ _ b hb
  have hk : Keeps (own φ h) w (own (bind1 φ n (.mp w.heap.size)) (upd h n (some ⟨[], t, 0, true⟩))) (w.alloc (.map #[] 0)) := by
    refine ⟨rfl, rfl, rfl, by simp, fun b hb hB => ⟨fun hq => ?_, hold b hb⟩⟩
    rcases (own_name hn).1 hq with hq | ⟨c, hq⟩
    · exact hB hq
    · rcases hq with hq | hq
      · cases hq
      · cases hq; exact Nat.lt_irrefl _ hb
  refine ⟨H.name (.inl hφ) hn (fun b c e => ?_) hk (fun b hb => hold b (H.own_lt hb)) ?_, hk⟩
  · rcases e with e | e
    · cases e
    · cases e
      exact fun hb => Nat.lt_irrefl _ (H.own_lt hb)
  · exact ⟨rfl, #[], 0, heap_alloc_new w _, rfl, fun j u hu => by simp at hu⟩

/-- A map is written. -/
theorem HR.writeMap {φ : Names} {w : World} {h : Heap} (H : HR φ w h) {o : Nat} {x : Ob} (hx : h o = some x) {b : Nat} (hl : φ o = some (.mp b)) {es es' : Array MapEntry} {c c' : Nat} (hb : w.heap[b]? = some (.map es c)) (h0 : x.sz = 0) (cells : List AV) (hlen : cells.length = es'.size)
    (hv : ∀ j u, cells[j]? = some u → VR φ (own φ h) w u (entryV es' j)) :
    HR φ ({ w with heap := w.heap.setIfInBounds b (.map es' c') } : World) (upd h o (some ⟨cells, x.ty, x.sz, x.nn⟩)) ∧ Keeps (own φ h) w (own φ (upd h o (some ⟨cells, x.ty, x.sz, x.nn⟩))) ({ w with heap := w.heap.setIfInBounds b (.map es' c') } : World) := by
  obtain ⟨s1, s2⟩ := MapKept.heap_set (o' := .map es' c') hb
  have hown : ∀ b', own φ (upd h o (some ⟨cells, x.ty, x.sz, x.nn⟩)) b' ↔ own φ h b' := by
    intro b'
    constructor
    · rintro ⟨o', c, h1, h2⟩
      refine ⟨o', c, ?_, h2⟩
      by_cases e : o' = o
      · rw [e]; simp [hx]
      · rwa [upd_ne _ _ e] at h1
    · rintro ⟨o', c, h1, h2⟩
      refine ⟨o', c, ?_, h2⟩
      by_cases e : o' = o
      · rw [e]; simp [upd_same]
      · rwa [upd_ne _ _ e]
  have hob : own φ h b := ⟨o, 0, by simp [hx], .inr hl⟩
  have hk : Keeps (own φ h) w (own φ (upd h o (some ⟨cells, x.ty, x.sz, x.nn⟩))) ({ w with heap := w.heap.setIfInBounds b (.map es' c') } : World) := by
    refine ⟨rfl, rfl, rfl, by simp, fun b' hb hB => ⟨fun q => hB ((hown b').1 q), ?_⟩⟩
    exact s2 b' (fun e => hB (e ▸ hob))
  refine ⟨⟨fun o' y hy => ?_, fun o1 o2 b' c1 c2 h1 h2 e1 e2 => ?_, H.free⟩, hk⟩
  · by_cases e : o' = o
    · subst e
      rw [upd_same] at hy
      cases hy
      exact ⟨_, hl, h0, es', c', s1, hlen, fun j u hu => (hv j u hu).mono (Ext.refl φ) hk⟩
    · rw [upd_ne _ _ e] at hy
      obtain ⟨l', h1, h2⟩ := H.ob o' y hy
      refine ⟨l', h1, h2.to (fun b' q => s2 b' fun eb => ?_) fun _ _ V => V.mono (Ext.refl φ) hk⟩
      subst eb
      rcases q with ⟨c, rfl⟩ | rfl
      · exact e (H.inj o' o b' c 0 (by simp [hy]) (by simp [hx]) (.inl h1) (.inr hl))
      · exact e (H.inj o' o b' 0 0 (by simp [hy]) (by simp [hx]) (.inr h1) (.inr hl))
  · have f : ∀ o', (upd h o (some ⟨cells, x.ty, x.sz, x.nn⟩) o').isSome = true → (h o').isSome = true := by
      intro o' ho
      by_cases e : o' = o
      · rw [e]; simp [hx]
      · rwa [upd_ne _ _ e] at ho
    exact H.inj o1 o2 b' c1 c2 (f o1 h1) (f o2 h2) e1 e2

/-! ### Keys -/
def valK : AV → Value
  | .int k n => .int k n
  | .agg cs => .agg (((intsA cs).getD []).map (Value.int .i64)).toArray
  | _ => undef

section keys
variable {P : Program} {kt : TypeId}
theorem KeyA.val {φ : Names} {B : Nat → Prop} {w : World} {u : AV} {X : Value} (K : KeyA P kt u) (V : VR φ B w u X) : X = valK u := by
  cases u with
  | int k n => cases V; rfl
  | agg cs =>
    obtain ⟨l, hl, _, _⟩ := K
    cases V with
    | agg _ vs hs hv =>
      obtain ⟨a1, a2⟩ := intsA_some hl
      simp only [valK, hl, Option.getD_some]
      congr 1
      apply Array.ext
      · simp [← hs, a1]
      · intro j h1 h2
        have hj : j < l.length := by omega
        have q := hv j _ (a2 j _ (List.getElem?_eq_getElem hj))
        have e : vs.getD j undef = vs[j] := by simp [h1]
        rw [e] at q
        generalize vs[j] = z at q ⊢
        cases q
        simp
  | _ => exact K.elim

theorem keyOf_agg {q : IntKind} {vs : Array Value} (hk : P.underlying kt = some (.int q)) : keyOf P kt (.agg vs) = none := by simp [keyOf, hk, mapKey]

structure KF (P : Program) (kt : TypeId) (V : Value → Prop) : Prop where
  check : ∀ (w : World) (em : Bool) {v : Value}, V v → (Instr.checkKey em 10000 kt v).run P w = .ok () w
  find : ∀ (w : World) {x : Value}, V x → ∀ es : List MapEntry, (∀ e ∈ es, V e.key) →
    ((Instr.findKey kt x es).run P w = .ok none w ∧ ∀ e ∈ es, e.key ≠ x) ∨ ∃ (j : Nat) (e : MapEntry), (Instr.findKey kt x es).run P w = .ok (some (j, e.val)) w ∧ es[j]? = some e ∧ e.key = x
  stays : ∀ (w : World) {v : Value}, V v → (Instr.keyThatStays v v).run P w = .ok v w

theorem map_inj_int : ∀ {l l' : List Int}, l.map (Value.int .i64) = l'.map (Value.int .i64) → l = l'
  | [], [], _ => rfl
  | [], _ :: _, h => by cases h
  | _ :: _, [], h => by cases h
  | a :: l, b :: l', h => by
    simp only [List.map_cons, List.cons.injEq, Value.int.injEq, true_and] at h
    rw [h.1, map_inj_int h.2]
theorem KeyA.kf {u : AV} (K : KeyA P kt u) : ∃ V, KF P kt V ∧ (∀ u', KeyA P kt u' → V (valK u')) ∧ ∀ u1 u2, KeyA P kt u1 → KeyA P kt u2 → (valK u1 = valK u2 ↔ keyI u1 = keyI u2) := by
  by_cases hk : P.underlying kt = some (.int .i64)
  · have int : ∀ u', KeyA P kt u' → ∃ n, u' = .int .i64 n := fun u' K' => by
      cases u' with
      | int k n => cases k <;> first | exact ⟨n, rfl⟩ | exact K'.elim
      | agg cs => obtain ⟨l, _, _, q⟩ := K'; rw [keyOf_agg hk] at q; cases q
      | _ => exact K'.elim
    refine ⟨fun v => ∃ n, v = .int .i64 n, ⟨?_, ?_, ?_⟩, ?_, ?_⟩
    · rintro w em v ⟨n, rfl⟩
      exact MapKept.run_checkKey (d := .int .i64) (k := .int .i64 n) hk rfl em 9999
    · rintro w x ⟨n, rfl⟩ es hes
      have hks : ∀ y ∈ es, MapKept.IsKey (.int .i64) y.key := fun y hy => by obtain ⟨m, e⟩ := hes y hy; rw [e]; rfl
      rcases MapKept.findNow_spec (d := .int .i64) (k := .int .i64 n) rfl es 0 hks with ⟨h1, h2⟩ | ⟨j, e0, h1, h2, h3⟩
      · exact Or.inl ⟨MapKept.run_findKey hk h1, h2⟩
      · exact Or.inr ⟨j, e0, by simpa using MapKept.run_findKey hk h1, h2, h3⟩
    · rintro w v ⟨n, rfl⟩
      exact MapKept.run_keyThatStays (d := .int .i64) rfl
    · intro u' K'
      obtain ⟨n, rfl⟩ := int u' K'
      exact ⟨n, rfl⟩
    · intro u1 u2 K1 K2
      obtain ⟨n, rfl⟩ := int u1 K1
      obtain ⟨m, rfl⟩ := int u2 K2
      simp [valK, keyI]
  · have agg : ∀ u', KeyA P kt u' → ∃ cs l, u' = .agg cs ∧ intsA cs = some l ∧ WideMaps.KeyLaw P kt ∧ (keyOf P kt (.agg (l.map (Value.int .i64)).toArray)).isSome = true := fun u' K' => by
      cases u' with
      | int k n => cases k <;> first | exact absurd K' hk | exact K'.elim
      | agg cs => obtain ⟨l, h1, h2, h3⟩ := K'; exact ⟨cs, l, rfl, h1, h2, h3⟩
      | _ => exact K'.elim
    obtain ⟨_, _, _, _, L, _⟩ := agg u K
    refine ⟨fun v => ∃ l, keyOf P kt v = some l, ⟨?_, ?_, ?_⟩, ?_, ?_⟩
    · rintro w em v ⟨l, hl⟩
      exact L.check w em hl
    · rintro w x ⟨l, hl⟩ es hes
      exact L.find w hl es hes
    · rintro w v ⟨l, hl⟩
      exact L.stays w hl
    · intro u' K'
      obtain ⟨cs, l, rfl, h1, _, h3⟩ := agg u' K'
      simp only [valK, h1, Option.getD_some]
      exact Option.isSome_iff_exists.1 h3
    · intro u1 u2 K1 K2
      obtain ⟨cs, l, rfl, h1, _, h3⟩ := agg u1 K1
      obtain ⟨cs', l', rfl, h1', _, h3'⟩ := agg u2 K2
      simp only [valK, h1, h1', Option.getD_some, keyI, Option.some.injEq, Value.agg.injEq]
      constructor
      · intro e
        have e2 : l.map (Value.int .i64) = l'.map (Value.int .i64) := by simpa using congrArg Array.toList e
        exact map_inj_int e2
      · rintro rfl; rfl

theorem lookM_none {key : Option (List Int)} : ∀ {l : List AV}, (∀ u ∈ l, entK u ≠ key) → lookM key l = none
  | [], _ => rfl
  | u :: l, h => by
    unfold lookM
    split
    · rename_i e; cases e
    · rename_i k v l' e
      cases e
      rw [if_neg (show ¬ keyI k = key from h (.tup [k, v]) (by simp)), lookM_none fun z hz => h z (by simp [hz])]
    · rename_i e; cases e; exact lookM_none fun z hz => h z (by simp [hz])
theorem lookM_at {key : Option (List Int)} : ∀ {l : List AV} {j : Nat} {k v : AV}, (l.map entK).Nodup → l[j]? = some (.tup [k, v]) → keyI k = key → lookM key l = some v
  | [], j, k, v, _, h, _ => by simp at h
  | u :: l, 0, k, v, _, h, e => by
    simp at h; subst h
    simp [lookM, e]
  | u :: l, j + 1, k, v, nd, h, e => by
    simp only [List.map_cons, List.nodup_cons] at nd
    have hj : l[j]? = some (.tup [k, v]) := by simpa using h
    have hne : entK u ≠ key := fun q => nd.1 (List.mem_map.2 ⟨_, List.mem_of_getElem? hj, by rw [q]; exact e⟩)
    have ih := lookM_at nd.2 hj e
    unfold lookM
    split
    · rename_i e; cases e
    · rename_i k0 v0 _ e2; cases e2; rw [if_neg (show ¬ keyI k0 = key from hne)]; exact ih
    · rename_i e2; cases e2; exact ih
theorem putM_none {i v : AV} : ∀ {l : List AV}, (∀ u ∈ l, entK u ≠ keyI i) → putM i v l = l ++ [.tup [i, v]]
  | [], _ => rfl
  | u :: l, h => by
    unfold putM
    split
    · rename_i e; cases e
    · rename_i k v l' e
      cases e
      rw [if_neg (show ¬ keyI k = keyI i from h (.tup [k, v]) (by simp)), putM_none fun z hz => h z (by simp [hz])]; rfl
    · rename_i e; cases e; rw [putM_none fun z hz => h z (by simp [hz])]; rfl
theorem putM_at {i v : AV} : ∀ {l : List AV} {j : Nat} {k v' : AV}, (l.map entK).Nodup → l[j]? = some (.tup [k, v']) → keyI k = keyI i → putM i v l = l.set j (.tup [i, v])
  | [], j, k, v', _, h, _ => by simp at h
  | u :: l, 0, k, v', _, h, e => by
    simp at h; subst h
    simp [putM, e]
  | u :: l, j + 1, k, v', nd, h, e => by
    simp only [List.map_cons, List.nodup_cons] at nd
    have hj : l[j]? = some (.tup [k, v']) := by simpa using h
    have hne : entK u ≠ keyI i := fun q => nd.1 (List.mem_map.2 ⟨_, List.mem_of_getElem? hj, by rw [q]; exact e⟩)
    have ih := putM_at (v := v) nd.2 hj e
    unfold putM
    split
    · rename_i e; cases e
    · rename_i k0 v0 _ e2; cases e2; rw [if_neg (show ¬ keyI k0 = keyI i from hne), ih]; rfl
    · rename_i e2; cases e2; rw [ih]; rfl
end keys

section runs
variable {P : Program} {Θ : Types} {M : List Nat} {o : Oper} {φ : Names} {h : Heap} {w : World} {a : Act} {ρ : Operand → AV} {K : AV → Heap → Prop}

theorem VcRun.makeMap (hΘ : Θ.ok P) (H : HR φ w h) {t kt e : TypeId} {sz bt : Nat} {z : Value} (ho : o.op = .makeMap t none) (hd : Θ t = some ⟨.map kt e, sz, bt, z⟩) (hp : ∀ b, h b = none → K (.mp b) (upd h b (some ⟨[], t, 0, true⟩))) : VcRun P o φ h w a K := by
  obtain ⟨n, hφ, hn⟩ := H.fresh
  obtain ⟨H', hk⟩ := H.newMap hφ hn t
  intro next Q hnx
  unfold Oper.wp
  have hr : (execOp a.eval o).run P w = .ok (.value (.map (some w.heap.size))) (w.alloc (.map #[] 0)) := by
    simp [execOp, ho, Instr.makeMap]
  rw [hr]
  exact hnx _ _ _ _ _ (Ext.bind1 hφ _) hk H' (.mp n _ (bind1_same _ _ _)) (hp n hn)

/-- A map's entries as they are told. -/
theorem map_ents {kt : TypeId} {ob : Ob} {b : Nat} {es : Array MapEntry} (hK : KeysA P kt ob.cells) (k2 : ob.cells.length = es.size) (k5 : ∀ j u, ob.cells[j]? = some u → VR φ (own φ h) w u (entryV es j)) :
    ∀ (j : Nat) (e : MapEntry), es[j]? = some e → ∃ k v, ob.cells[j]? = some (.tup [k, v]) ∧ KeyA P kt k ∧ e.key = valK k ∧ VR φ (own φ h) w v e.val := by
  intro j e he
  have hj : j < ob.cells.length := by rw [k2]; exact (Array.getElem?_eq_some_iff.1 he).1
  have hu := List.getElem?_eq_getElem hj
  obtain ⟨k, v, e1, hk⟩ := hK.1 _ (List.getElem_mem hj)
  have V := k5 j _ hu
  rw [e1] at hu V
  unfold entryV at V
  rw [he] at V
  simp only at V
  cases V with
  | tup _ _ hl hv =>
    have v0 := hv 0 k rfl
    have v1 := hv 1 v rfl
    exact ⟨k, v, hu, hk, hk.val v0, v1⟩

theorem VcRun.lookup (hΘ : Θ.ok P) (H : HR φ w h) {t kt e : TypeId} {sz bt : Nat} {z : Value} {d : TD} {x i : Operand} {ok : Bool} {o' : Nat} {ob : Ob} (ho : o.op = .lookup t x i ok) (vx : VR φ (own φ h) w (ρ x) (a.eval x)) (vi : VR φ (own φ h) w (ρ i) (a.eval i))
    (hd : Θ t = some ⟨.map kt e, sz, bt, z⟩) (hde : Θ e = some d) (ex : ρ x = .mp o') (hob : h o' = some ob) (hK1 : KeysA P kt ob.cells) (hK2 : KeyA P kt (ρ i))
    (hp : match lookM (keyI (ρ i)) ob.cells with | some v => K (if ok then .tup [v, .bool true] else v) h | none => K (if ok then .tup [absV d.zero, .bool false] else absV d.zero) h) : VcRun P o φ h w a K := by
  have ht := (hΘ t _ hd).map
  have hz := (hΘ e d hde).zero (w := w)
  rw [ex] at vx
  generalize hq : a.eval x = X at vx
  cases vx with
  | mp _ b hl =>
    obtain ⟨l, hl2, hr⟩ := H.ob _ _ hob
    rw [hl] at hl2
    cases hl2
    obtain ⟨k0, es, c, k1, k2, k5⟩ := hr
    have eX := hK2.val vi
    obtain ⟨V, kf, vv, inj⟩ := hK2.kf
    have ents := map_ents (b := b) hK1 k2 k5
    have keys : ∀ e ∈ es.toList, V e.key := fun e he => by
      obtain ⟨j, hj⟩ := List.getElem?_of_mem he
      obtain ⟨k, v, _, h2, h3, _⟩ := ents j e (by simpa using hj)
      rw [h3]; exact vv k h2
    have Vi := vv _ hK2
    intro next Q hnx
    unfold Oper.wp
    rcases kf.find w Vi es.toList keys with ⟨h1, h2⟩ | ⟨j, e0, h1, h2, h3⟩
    · have hn : lookM (keyI (ρ i)) ob.cells = none := lookM_none fun u hu q => by
        obtain ⟨j, hj⟩ := List.getElem?_of_mem hu
        have hjs : j < es.size := by rw [← k2]; exact (List.getElem?_eq_some_iff.1 hj).1
        obtain ⟨k, v, g1, g2, g3, _⟩ := ents j es[j] (Array.getElem?_eq_getElem hjs)
        rw [hj] at g1
        cases g1
        exact h2 es[j] (by simp) (g3.trans ((inj k (ρ i) g2 hK2).2 q))
      rw [hn] at hp
      have hrun : (execOp a.eval o).run P w = .ok (.value (if ok then .tuple #[d.zero, .bool false] else d.zero)) w := by
        cases ok <;> simp [execOp, ho, hq, eX, Instr.lookup, run_underlying ht, MapKept.run_getObj_map k1, kf.check w _ Vi, h1, hz, Result.andThen]
      rw [hrun]
      refine hnx φ h w _ _ (Ext.refl φ) (Keeps.refl _ w) H ?_ hp
      cases ok
      · exact absV_VR _ _ _ _
      · refine .tup _ _ rfl fun j u hu => ?_
        match j, hu with
        | 0, hu => cases hu; exact absV_VR _ _ _ _
        | 1, hu => cases hu; exact .bool _
    · have he0 : es[j]? = some e0 := by simpa using h2
      obtain ⟨k, v, g1, g2, g3, g4⟩ := ents j e0 he0
      have hs : lookM (keyI (ρ i)) ob.cells = some v := lookM_at hK1.2 g1 ((inj k (ρ i) g2 hK2).1 (g3.symm.trans h3))
      rw [hs] at hp
      have hrun : (execOp a.eval o).run P w = .ok (.value (if ok then .tuple #[e0.val, .bool true] else e0.val)) w := by
        cases ok <;> simp [execOp, ho, hq, eX, Instr.lookup, run_underlying ht, MapKept.run_getObj_map k1, kf.check w _ Vi, h1, Result.andThen]
      rw [hrun]
      refine hnx φ h w _ _ (Ext.refl φ) (Keeps.refl _ w) H ?_ hp
      cases ok
      · exact g4
      · refine .tup _ _ rfl fun j u hu => ?_
        match j, hu with
        | 0, hu => cases hu; exact g4
        | 1, hu => cases hu; exact .bool _

theorem VcRun.mapUpdate (hΘ : Θ.ok P) (H : HR φ w h) {t kt e : TypeId} {sz bt : Nat} {z : Value} {x i y : Operand} {o' : Nat} {ob : Ob} (ho : o.op = .mapUpdate t x i y) (vx : VR φ (own φ h) w (ρ x) (a.eval x)) (vi : VR φ (own φ h) w (ρ i) (a.eval i)) (vy : VR φ (own φ h) w (ρ y) (a.eval y))
    (hd : Θ t = some ⟨.map kt e, sz, bt, z⟩) (ex : ρ x = .mp o') (hob : h o' = some ob) (hK1 : KeysA P kt ob.cells) (hK2 : KeyA P kt (ρ i))
    (hp : K .any (upd h o' (some ⟨putM (ρ i) (ρ y) ob.cells, ob.ty, ob.sz, ob.nn⟩))) : VcRun P o φ h w a K := by
  have ht := (hΘ t _ hd).map
  rw [ex] at vx
  generalize hq : a.eval x = X at vx
  cases vx with
  | mp _ b hl =>
    obtain ⟨l, hl2, hr⟩ := H.ob _ _ hob
    rw [hl] at hl2
    cases hl2
    obtain ⟨k0, es, c, k1, k2, k5⟩ := hr
    have eX := hK2.val vi
    obtain ⟨V, kf, vv, inj⟩ := hK2.kf
    have ents := map_ents (b := b) hK1 k2 k5
    have keys : ∀ e ∈ es.toList, V e.key := fun e he => by
      obtain ⟨j, hj⟩ := List.getElem?_of_mem he
      obtain ⟨k, v, _, h2, h3, _⟩ := ents j e (by simpa using hj)
      rw [h3]; exact vv k h2
    have Vi := vv _ hK2
    have vt : ∀ {es' : Array MapEntry} {j : Nat} {born : Nat}, es'[j]? = some ⟨valK (ρ i), a.eval y, born⟩ → VR φ (own φ h) w (.tup [ρ i, ρ y]) (entryV es' j) := fun {es' j born} he => by
      unfold entryV
      rw [he]
      refine .tup _ _ rfl fun j u hu => ?_
      match j, hu with
      | 0, hu => cases hu; rw [← eX]; exact vi
      | 1, hu => cases hu; exact vy
    intro next Q hnx
    unfold Oper.wp
    rcases kf.find w Vi es.toList keys with ⟨h1, h2⟩ | ⟨j, e0, h1, h2, h3⟩
    · have hn : putM (ρ i) (ρ y) ob.cells = ob.cells ++ [.tup [ρ i, ρ y]] := putM_none fun u hu q => by
        obtain ⟨j, hj⟩ := List.getElem?_of_mem hu
        have hjs : j < es.size := by rw [← k2]; exact (List.getElem?_eq_some_iff.1 hj).1
        obtain ⟨k, v, g1, g2, g3, _⟩ := ents j es[j] (Array.getElem?_eq_getElem hjs)
        rw [hj] at g1
        cases g1
        exact h2 es[j] (by simp) (g3.trans ((inj k (ρ i) g2 hK2).2 q))
      rw [hn] at hp
      obtain ⟨H', hk⟩ := H.writeMap hob hl (es' := es.push ⟨valK (ρ i), a.eval y, c⟩) (c' := c + 1) k1 k0 (ob.cells ++ [.tup [ρ i, ρ y]]) (by simp [k2]) (fun j u hu => by
        rcases Nat.lt_or_ge j ob.cells.length with hj | hj
        · rw [List.getElem?_append_left hj] at hu
          have := k5 j u hu
          unfold entryV at this ⊢
          rw [Array.getElem?_push, if_neg (by omega)]
          exact this
        · rw [List.getElem?_append_right hj] at hu
          have hj0 : j - ob.cells.length = 0 := by
            have := (List.getElem?_eq_some_iff.1 hu).1
            simp at this; omega
          rw [hj0] at hu
          cases hu
          exact vt (born := c) (by rw [Array.getElem?_push, if_pos (by omega)]))
      have hrun : (execOp a.eval o).run P w = .ok .skip ({ w with heap := w.heap.setIfInBounds b (.map (es.push ⟨valK (ρ i), a.eval y, c⟩) (c + 1)) } : World) := by
        simp [execOp, ho, hq, eX, Instr.mapUpdate, run_underlying ht, MapKept.run_getObj_map k1, kf.check w false Vi, h1, MapKept.run_setObj_map _ k1, Result.andThen]
      rw [hrun, Oper.upon_skip]
      exact hnx φ _ _ undef .any (Ext.refl φ) hk H' (.any _) hp
    · have he0 : es[j]? = some e0 := by simpa using h2
      obtain ⟨k, v, g1, g2, g3, g4⟩ := ents j e0 he0
      have hs : putM (ρ i) (ρ y) ob.cells = ob.cells.set j (.tup [ρ i, ρ y]) := putM_at hK1.2 g1 ((inj k (ρ i) g2 hK2).1 (g3.symm.trans h3))
      rw [hs] at hp
      have hjs : j < es.size := (Array.getElem?_eq_some_iff.1 he0).1
      have ek : (es[j]?.map (·.key)).getD (valK (ρ i)) = valK (ρ i) := by rw [he0]; simp [h3]
      obtain ⟨H', hk⟩ := H.writeMap hob hl (es' := es.modify j fun e => { e with key := valK (ρ i), val := a.eval y }) (c' := c) k1 k0 (ob.cells.set j (.tup [ρ i, ρ y])) (by simp [k2]) (fun j' u hu => by
        by_cases ej : j' = j
        · subst ej
          rw [List.getElem?_set_self (by omega)] at hu
          cases hu
          exact vt (born := e0.born) (by rw [Array.getElem?_modify, if_pos rfl, he0]; rfl)
        · rw [List.getElem?_set_ne (Ne.symm ej)] at hu
          have := k5 j' u hu
          unfold entryV at this ⊢
          rw [Array.getElem?_modify, if_neg (Ne.symm ej)]
          exact this)
      have hrun : (execOp a.eval o).run P w = .ok .skip ({ w with heap := w.heap.setIfInBounds b (.map (es.modify j fun e => { e with key := valK (ρ i), val := a.eval y }) c) } : World) := by
        have ek2 : (Option.map (fun x => x.key) es[j]?).getD (valK (ρ i)) = valK (ρ i) := ek
        simp [execOp, ho, hq, eX, Instr.mapUpdate, run_underlying ht, MapKept.run_getObj_map k1, kf.check w false Vi, h1, MapKept.run_setObj_map _ k1, Result.andThen, ek2, kf.stays w Vi]
      rw [hrun, Oper.upon_skip]
      exact hnx φ _ _ undef .any (Ext.refl φ) hk H' (.any _) hp

/-! ### Copies -/
theorem src_news (H : HR φ w h) {y : AV} {Y : Value} {ys : List AV} (hY : VR φ (own φ h) w y Y) (hl : srcA h y = some ys) (hs : ∀ u ∈ ys, u.flat = [u] ∧ u.one = true) (hpos : 0 < ys.length) :
    ∃ (ad : Addr) (c : Nat) (news : List Value), Y = .slice (some ad) ys.length c ∧ news.length = ys.length ∧ (∀ (j : Nat) u, news[j]? = some u → w.cell? (ad.add j) = some u) ∧ (∀ u ∈ news, u.oneCell' = true) ∧
      (∀ (j : Nat) u, ys[j]? = some u → VR φ (own φ h) w u (news.getD j undef)) := by
  unfold srcA at hl
  split at hl
  · cases hl
    have ef : ys.flatMap AV.flat = ys := by
      have : ∀ l : List AV, (∀ y ∈ l, y.flat = [y]) → l.flatMap AV.flat = l := by
        intro l
        induction l with
        | nil => intro _; rfl
        | cons a l ih => intro h; rw [List.flatMap_cons, h a (by simp), ih fun u hu => h u (by simp [hu])]; rfl
      exact this _ fun u hu => (hs u hu).1
    obtain ⟨A, C, eY, hnews⟩ := news_of hY (ys := ys) (s := 1) rfl fun u hu => ⟨by rw [(hs u hu).1]; rfl, by rw [(hs u hu).1]; intro v hv; simp at hv; subst hv; exact (hs v hu).2⟩
    rcases hnews with h0 | ⟨ad, news, rfl, n1, n2, n3, n4⟩
    · subst h0; simp at hpos
    · exact ⟨ad, C, news, eY, by rw [n1, Nat.mul_one], n2, n3, fun j u hu => n4 j u (by rw [ef]; exact hu)⟩
  · rename_i o m
    split at hl
    · rename_i x hx
      split at hl
      · rename_i hc
        cases hl
        have lt : (x.cells.take m).length = m := by rw [List.length_take]; omega
        rw [lt] at hpos
        cases hY with
        | muN _ q => omega
        | mu _ _ b cap q hn =>
          obtain ⟨l, hl2, hr⟩ := H.ob _ _ hx
          rw [q] at hl2
          cases hl2
          obtain ⟨cur, k1, k2, k3, k4, k5⟩ := hr
          refine ⟨⟨b, 0, none⟩, cap, cur.toList.take m, by rw [lt], ?_, ?_, ?_, ?_⟩
          · rw [lt, List.length_take, Array.length_toList]; omega
          · intro j u hu
            rw [List.getElem?_take] at hu
            split at hu
            · rename_i hj
              have hjc : j < cur.size := by omega
              rw [add_plain, Nat.zero_add, cell_of_row w b j cur x.ty (0, 0) k1]
              have : cur[j]? = some u := by simpa using hu
              simpa using this
            · cases hu
          · intro u hu
            obtain ⟨j, hj⟩ := List.getElem?_of_mem hu
            rw [List.getElem?_take] at hj
            split at hj
            · rename_i hjm
              have hjx : j < x.cells.length := by omega
              have hg : (x.cells.take m)[j]? = some x.cells[j] := by rw [List.getElem?_take, if_pos hjm, List.getElem?_eq_getElem hjx]
              have V := k5 j _ (List.getElem?_eq_getElem hjx)
              have e : cur.getD j undef = u := by simpa using congrArg (·.getD undef) hj
              rw [e] at V
              exact V.oneCell (hs _ (List.mem_of_getElem? hg)).2
            · cases hj
          · intro j u hu
            rw [List.getElem?_take] at hu
            split at hu
            · rename_i hjm
              have V := k5 j u hu
              have e : (cur.toList.take m).getD j undef = cur.getD j undef := by
                simp [List.getElem?_take, hjm]
              rw [e]; exact V
            · cases hu
      · cases hl
    · cases hl
  · cases hl

theorem VcRun.copy (hΘ : Θ.ok P) (H : HR φ w h) {c : Call} (ho : o.op = .call c) (hc : c.callee = .builtin .copy) {s y : Operand} {t t' : TypeId} (ha : c.args = #[s, y]) (ht : c.argTypes = #[t, t']) {e : TypeId} {sz bt : Nat} {z : Value} {d : TD} (hd : Θ t = some ⟨.slice e, sz, bt, z⟩) (hde : Θ e = some d)
    (vs : VR φ (own φ h) w (ρ s) (a.eval s)) (vy : VR φ (own φ h) w (ρ y) (a.eval y)) {b off n : Nat} {ys : List AV} {x : Ob} (es : dstA (ρ s) = some (b, off, n)) (ey : srcA h (ρ y) = some ys) (hob : h b = some x) (h1 : d.size = 1) (h2 : x.sz = 1) (h3 : x.nn = true ∨ 0 < n) (h4 : off + n ≤ x.cells.length) (h5 : ∀ u ∈ ys, u.flat = [u] ∧ u.one = true) (h6 : 0 < ys.length)
    (hK : K (.int .i64 (min ys.length n : Nat)) (upd h b (some ⟨x.cells.take off ++ ys.take (min ys.length n) ++ x.cells.drop (off + min ys.length n), x.ty, x.sz, x.nn⟩))) : VcRun P o φ h w a K := by
  have hu := (hΘ t _ hd).slice
  have ok := hΘ e d hde
  obtain ⟨i, hi, i1, i2, i3⟩ := ok.1
  have hs1 : (P.info? e).map (·.size) = some 1 := by rw [hi]; simp [i1, h1]
  obtain ⟨ad, C, news, eY, nl, n2, n3, n4⟩ := src_news H vy ey h5 h6
  obtain ⟨k, hk⟩ : ∃ k, k = min ys.length n := ⟨_, rfl⟩
  rw [← hk] at hK
  have hdst : ∃ b' cap C', φ b = some (.blk b' cap) ∧ a.eval s = .slice (some ⟨b', off, none⟩) n C' ∧ off + n ≤ cap := by
    unfold dstA at es
    generalize a.eval s = S at vs
    split at es
    · rename_i e1
      cases es
      rw [e1] at vs
      cases vs with
      | muN _ q =>
        obtain ⟨l, hl2, hr⟩ := H.ob _ _ hob
        rw [q] at hl2
        cases hl2
        rcases h3 with h3 | h3
        · rw [hr.2] at h3; cases h3
        · omega
      | mu _ _ b' cap q hn => exact ⟨b', cap, cap, q, rfl, by omega⟩
    · rename_i e1
      cases es
      rw [e1] at vs
      cases vs with
      | mus _ _ _ b' cap c' q hn hc' => exact ⟨b', cap, c', q, rfl, hn⟩
    · cases es
  obtain ⟨b', cap, C', hl, eS, hcap⟩ := hdst
  obtain ⟨l, hl2, hr⟩ := H.ob _ _ hob
  rw [hl] at hl2
  cases hl2
  obtain ⟨cur, k1, k2, k3, k4, k5⟩ := hr
  obtain ⟨cs, hcs⟩ : ∃ cs, cs = news.take k := ⟨_, rfl⟩
  have lcs : cs.length = k := by rw [hcs, List.length_take, nl]; omega
  have hrun := run_copy_row (P := P) w t t' o.type e b' off n C' ad ys.length C cur x.ty cs hu hs1 k1 (lcs.trans hk) (fun j v hv => by
    rw [hcs, List.getElem?_take] at hv
    split at hv
    · exact n2 j v hv
    · cases hv) (by rw [lcs]; omega) (fun v hv => n3 v (by rw [hcs] at hv; exact List.mem_of_mem_take hv))
  obtain ⟨H', hkeep⟩ := H.write hob hl (cur' := (cur.toList.take off ++ cs ++ cur.toList.drop (off + cs.length)).toArray) k1 (by
    simp only [List.size_toArray, List.length_append, List.length_take, List.length_drop, Array.length_toList, lcs]; omega) k2 k3 (x.cells.take off ++ ys.take k ++ x.cells.drop (off + k)) (by
      simp only [List.length_append, List.length_take, List.length_drop]; omega) x.nn (by
    intro j u hj
    have e0 : ((cur.toList.take off ++ cs ++ cur.toList.drop (off + cs.length)).toArray).getD j undef = if j < off then cur.getD j undef else if j < off + k then news.getD (j - off) undef else cur.getD j undef := by
      have lto : (cur.toList.take off).length = off := by rw [List.length_take, Array.length_toList]; omega
      have tA : ∀ (l : List Value), l.toArray.getD j undef = l[j]?.getD undef := fun l => by simp
      have cA : cur.getD j undef = cur.toList[j]?.getD undef := by simp
      rw [tA, cA, lcs, List.getD_eq_getElem?_getD]
      by_cases q1 : j < off
      · rw [if_pos q1, List.append_assoc, List.getElem?_append_left (by omega), List.getElem?_take, if_pos q1]
      · rw [if_neg q1, List.append_assoc, List.getElem?_append_right (by omega), lto]
        by_cases q2 : j < off + k
        · rw [if_pos q2, List.getElem?_append_left (by omega), hcs, List.getElem?_take, if_pos (by omega)]
        · rw [if_neg q2, List.getElem?_append_right (by omega), lcs, List.getElem?_drop, show off + k + (j - off - k) = j by omega]
    rw [e0]
    have ltx : (x.cells.take off).length = off := by rw [List.length_take]; omega
    have lty : (ys.take k).length = k := by rw [List.length_take]; omega
    by_cases q1 : j < off
    · rw [if_pos q1]
      rw [List.append_assoc, List.getElem?_append_left (by omega), List.getElem?_take, if_pos q1] at hj
      exact k5 j u hj
    · rw [if_neg q1]
      rw [List.append_assoc, List.getElem?_append_right (by omega), ltx] at hj
      by_cases q2 : j < off + k
      · rw [if_pos q2]
        rw [List.getElem?_append_left (by omega), List.getElem?_take, if_pos (by omega)] at hj
        exact n4 _ u hj
      · rw [if_neg q2]
        rw [List.getElem?_append_right (by omega), lty, List.getElem?_drop, show off + k + (j - off - k) = j by omega] at hj
        exact k5 j u hj)
  intro next Q hnx
  unfold Oper.wp
  have hex : (execOp a.eval o).run P w = .ok (.value (.int .i64 (k : Nat))) (w.setRow b' ((cur.toList.take off ++ cs ++ cur.toList.drop (off + cs.length)).toArray)) := by
    have : (Builtin.copy_ #[t, t'] o.type #[a.eval s, a.eval y]).run P w = .ok (.int .i64 (k : Nat)) (w.setRow b' ((cur.toList.take off ++ cs ++ cur.toList.drop (off + cs.length)).toArray)) := by
      rw [eS, eY, hrun, lcs]; rfl
    generalize (w.setRow b' ((cur.toList.take off ++ cs ++ cur.toList.drop (off + cs.length)).toArray)) = W at this ⊢
    simp [execOp, ho, resolve, hc, ha, ht, Go.invoke, Go.builtin, this]
  rw [hex]
  exact hnx φ _ _ _ _ (Ext.refl φ) hkeep H' (.int _ _) hK
end runs
end Go.Par

set_option linter.unusedSimpArgs false
namespace Go.Par

section runs
variable {P : Program} {Θ : Types} {M : List Nat} {o : Oper} {φ : Names} {h : Heap} {w : World} {a : Act} {ρ : Operand → AV} {K : AV → Heap → Prop}

theorem VcRun.call (H : HR φ w h) {c : Call} {f : Operand} {g : FuncId} {cap : List AV} (ho : o.op = .call c) (hc : c.callee = .value f) (hx : ∀ y ∈ (Op.call c).operands, VR φ (own φ h) w (ρ y) (a.eval y))
    (e : ρ f = .clo g cap) (hp : AC P g (c.args.toList.map ρ ++ cap) h K) : VcRun P o φ h w a K := by
  have vf := hx f (by simp [Op.operands, Call.operands, hc])
  rw [e] at vf
  generalize hq : a.eval f = V at vf
  cases vf with
  | clo _ _ vs hl hv =>
    have hargs := VRs.map (ρ := ρ) c.args.toList a.eval (fun x hx' => hx x (by
      simp only [Op.operands, Call.operands, hc, Array.mem_append]
      exact .inr (by simpa using hx')))
    have hall := hargs.append (us' := cap) (vs' := vs) ⟨hl, hv⟩
    obtain ⟨h1, h2⟩ := hp
    have hcall := h2 φ w _ H hall
    rw [Array.toArray_toList] at hcall
    intro next Q hn
    unfold Oper.wp
    have hrun : (execOp a.eval o).run P w = .ok (.enter g (c.args.map a.eval ++ vs)) w := by
      simp [execOp, ho, resolve, hc, hq, Deferred.ofValue, invoke, h1 _ _]
    rw [hrun, Oper.upon_enter]
    refine Calls.mono hcall ?_
    rintro e' w' ⟨φ', h', r', v', e1, e2, e3, e5, e4, e6⟩
    subst e5
    exact hn φ' h' w' v' r' e1 e2 e3 e4 e6

theorem VcRun.callB (H : HR φ w h) {c : Call} {f : Operand} {g : FuncId} {first : List AV} (ho : o.op = .call c) (hc : c.callee = .value f) (hx : ∀ y ∈ (Op.call c).operands, VR φ (own φ h) w (ρ y) (a.eval y))
    (e : ρ f = .bnd g first) (hp : AC P g (first ++ c.args.toList.map ρ) h K) : VcRun P o φ h w a K := by
  have vf := hx f (by simp [Op.operands, Call.operands, hc])
  rw [e] at vf
  generalize hq : a.eval f = V at vf
  cases vf with
  | bnd _ _ vs hl hv =>
    have hargs := VRs.map (ρ := ρ) c.args.toList a.eval (fun x hx' => hx x (by
      simp only [Op.operands, Call.operands, hc, Array.mem_append]
      exact .inr (by simpa using hx')))
    have hall := VRs.append (us := first) (vs := vs) ⟨hl, hv⟩ hargs
    obtain ⟨h1, h2⟩ := hp
    have hcall := h2 φ w _ H hall
    rw [Array.toArray_toList] at hcall
    intro next Q hn
    unfold Oper.wp
    have hrun : (execOp a.eval o).run P w = .ok (.enter g (vs ++ c.args.map a.eval)) w := by
      simp [execOp, ho, resolve, hc, hq, Deferred.ofValue, invoke, h1 _ _]
    rw [hrun, Oper.upon_enter]
    refine Calls.mono hcall ?_
    rintro e' w' ⟨φ', h', r', v', e1, e2, e3, e5, e4, e6⟩
    subst e5
    exact hn φ' h' w' v' r' e1 e2 e3 e4 e6

theorem recvA_run (hΘ : Θ.ok P) (H : HR φ w h) {t : TypeId} {name : String} {f : FuncId} {e : Option TypeId} (hm : Meth P t name f e) {u : AV} {U : Value} (hu : VR φ (own φ h) w u U) {k : AV → Prop} (hp : recvA Θ h e u k) :
    ∃ v V, k v ∧ VR φ (own φ h) w v V ∧ (method (P.types.size + Made.depth) t U name).run P w = .ok (f, V) w := by
  unfold recvA at hp
  split at hp
  · rename_i o off
    cases hu with
    | ptr _ _ b cap hl =>
      have hm' := hm ⟨b, off, none⟩ w
      split at hp
      · exact ⟨_, _, hp, .ptr o off b cap hl, hm'⟩
      · rename_i t'
        split at hp
        · rename_i ob hob
          obtain ⟨l, hl', hr⟩ := H.ob _ _ hob
          rw [hl] at hl'
          cases hl'
          obtain ⟨g, hg1, hg2⟩ := load_ob hr
          obtain ⟨v, hk, hv⟩ := loadA_val hp
          obtain ⟨y, h1, h2⟩ := loadVar_run (b := b) (off := off) (f := fun j => g (off + j)) hΘ (fun j u hu => hg1 (off + j) u (by rw [List.getElem?_drop] at hu; exact hu)) (fun j u hu => hg2 (off + j) u (by rw [List.getElem?_drop] at hu; exact hu)) hv
          refine ⟨v, y, hk, h2, ?_⟩
          rw [hm']
          simp only [h1, Result.andThen_ok]
        · exact hp.elim
  · exact hp.elim

theorem VcRun.invoke (hΘ : Θ.ok P) (H : HR φ w h) {c : Call} {r : Operand} {name : String} {t : TypeId} {u : AV} {f : FuncId} {e : Option TypeId} (ho : o.op = .call c) (hc : c.callee = .invoke r name) (hx : ∀ y ∈ (Op.call c).operands, VR φ (own φ h) w (ρ y) (a.eval y))
    (er : ρ r = .ifc t u) (hm : Meth P t name f e) (hp : recvA Θ h e u fun v => AC P f (v :: c.args.toList.map ρ) h K) : VcRun P o φ h w a K := by
  have vr := hx r (by simp [Op.operands, Call.operands, hc])
  rw [er] at vr
  generalize hq : a.eval r = V at vr
  cases vr with
  | ifc _ _ U hU =>
    obtain ⟨v, V, hk, hv, hrun⟩ := recvA_run hΘ H hm hU hp
    have hargs := VRs.map (ρ := ρ) c.args.toList a.eval (fun x hx' => hx x (by
      simp only [Op.operands, Call.operands, hc, Array.mem_append]
      exact .inr (by simpa using hx')))
    have hall := VRs.append (us := [v]) (vs := #[V]) ⟨rfl, fun j u hj => by
      match j with
      | 0 => simp at hj; subst hj; simpa using hv
      | j + 1 => simp at hj⟩ hargs
    obtain ⟨h1, h2⟩ := hk
    have hcall := h2 φ w _ H hall
    rw [Array.toArray_toList] at hcall
    intro next Q hn
    unfold Oper.wp
    have hrun : (execOp a.eval o).run P w = .ok (.enter f (#[V] ++ c.args.map a.eval)) w := by
      have e1 : (#[Value.iface t U] ++ c.args.map a.eval).extract 1 (1 + c.args.size) = c.args.map a.eval := by
        apply Array.ext'
        simp only [Array.toList_extract, Array.toList_append, Array.toList_map]
        simp [List.extract_eq_take_drop, List.take_of_length_le]
      have e0 : (#[Value.iface t U] ++ c.args.map a.eval)[0]? = some (.iface t U) := by
        rw [← Array.getElem?_toList]; simp
      simp [execOp, ho, resolve, hc, hq, Go.invoke, callMethod, hrun, h1 _ _, e1, e0]
    rw [hrun, Oper.upon_enter]
    refine Calls.mono hcall ?_
    rintro e' w' ⟨φ', h', r', v', e1, e2, e3, e5, e4, e6⟩
    subst e5
    exact hn φ' h' w' v' r' e1 e2 e3 e4 e6

theorem VcRun.makeSlice (hΘ : Θ.ok P) (H : HR φ w h) {t : TypeId} {l c : Operand} {e : TypeId} {sz bt : Nat} {z : Value} {k1 k2 : IntKind} {n : Int} {d : TD} (ho : o.op = .makeSlice t l c)
    (v1 : VR φ (own φ h) w (.int k1 n) (a.eval l)) (v2 : VR φ (own φ h) w (.int k2 n) (a.eval c)) (hd : Θ t = some ⟨.slice e, sz, bt, z⟩) (hde : Θ e = some d)
    (h0 : 0 ≤ n) (hb : (d.bytes : Int) * n ≤ 140737488355328) (hm : n ≤ 140737488355328) (hk : (absV d.zero).known = true) (hfl : (absV d.zero).flat.length = d.size)
    (hp : ∀ b, h b = none → K (.mu b n.toNat) (upd h b (some ⟨(List.replicate n.toNat (absV d.zero)).flatMap AV.flat, e, d.size, true⟩))) : VcRun P o φ h w a K := by
  have hu := (hΘ t _ hd).slice
  have ok := hΘ e d hde
  obtain ⟨i, hi, i1, i2, i3⟩ := ok.1
  have hz : VR φ (own φ h) w (absV d.zero) d.zero := absV_VR _ _ _ _
  have hzf := hz.flat hk
  have hr := run_make (P := P) w t e i d.zero hu hi i3 k1 k2 n n h0 (Int.le_refl _) (by rw [i2]; omega) (by omega)
  obtain ⟨b, hφ, hbn⟩ := H.fresh
  have hlen : ((List.replicate n.toNat (absV d.zero)).flatMap AV.flat).length = n.toNat * d.size := by
    rw [flat_len (s := d.size) (fun y hy => by rw [(List.mem_replicate.1 hy).2, hfl]), List.length_replicate]
  obtain ⟨H', hkeep⟩ := H.new (w' := w.alloc (.cells (madeCells d.zero.cells (n.toNat * i.size)) e)) hφ hbn ⟨(List.replicate n.toNat (absV d.zero)).flatMap AV.flat, e, d.size, true⟩ (madeCells d.zero.cells (n.toNat * i.size)) n.toNat ⟨w.drawn, rfl⟩
    (by rw [size_madeCells, i1]) (by simp [maxLen]; omega) (by rw [hlen, size_madeCells, i1]; exact Nat.le_refl _) (by
      intro j u hu
      simp only at hu
      rw [replicate_flat, hfl] at hu
      split at hu
      · rename_i hj
        have h2 := hzf.2 _ _ hu
        have e : (madeCells d.zero.cells (n.toNat * i.size)).getD j undef = d.zero.cells.getD (j % d.size) undef := by
          have hlt : j % d.size < d.zero.cells.size := by rw [← hzf.1, hfl]; exact Nat.mod_lt _ (by rcases Nat.eq_zero_or_pos d.size with h | h; (rw [h] at hj; omega); exact h)
          have hs : d.zero.cells.size = d.size := by rw [← hzf.1, hfl]
          simp [madeCells, i1, hj, hs, getElem!_def, Array.getElem?_eq_getElem hlt]
        rw [e]
        exact h2
      · cases hu)
  intro next Q hn
  unfold Oper.wp
  have hrun : (execOp a.eval o).run P w = .ok (.value (.slice (some ⟨w.heap.size, 0, none⟩) n.toNat n.toNat)) (w.alloc (.cells (madeCells d.zero.cells (n.toNat * i.size)) e)) := by
    simp [execOp, ho, v1.int_inv, v2.int_inv, hr]
  rw [hrun]
  exact hn _ _ _ _ _ (Ext.bind1 hφ _) hkeep H' (.mu b _ w.heap.size _ (bind1_same _ _ _) (Nat.le_refl _)) (hp b hbn)

theorem VcRun.buildSlice (hΘ : Θ.ok P) (H : HR φ w h) {t : TypeId} {n : Nat} {ps : Array (Nat × Operand)} {e : TypeId} {sz bt : Nat} {z : Value} {d : TD} (ho : o.op = .buildSlice t n ps) (hx : ∀ x ∈ (Op.buildSlice t n ps).operands, VR φ (own φ h) w (ρ x) (a.eval x))
    (hd : Θ t = some ⟨.slice e, sz, bt, z⟩) (hde : Θ e = some d) (hr : ps.toList.map Prod.fst = List.range n) (hle : n * d.size ≤ 16777216) (hm : n ≤ 16777216) (hk : ∀ p ∈ ps.toList, (ρ p.2).known = true ∧ (ρ p.2).flat.length = d.size)
    (hp : ∀ b, h b = none → K (.mu b n) (upd h b (some ⟨(ps.toList.map fun p => ρ p.2).flatMap AV.flat, e, d.size, true⟩))) : VcRun P o φ h w a K := by
  obtain ⟨xs', hrun, hlen, g1, g3, g2⟩ := buildSlice_core (h := h) hΘ hx hd hde hr hle hk
  obtain ⟨b, hφ, hbn⟩ := H.fresh
  obtain ⟨H', hkeep⟩ := H.new (w' := w.alloc (.cells xs' e)) hφ hbn ⟨(ps.toList.map fun p => ρ p.2).flatMap AV.flat, e, d.size, true⟩ xs' n ⟨w.drawn, rfl⟩ g3 (by simp [maxLen]; omega) (Nat.le_of_eq g1) g2
  intro next Q hn
  unfold Oper.wp
  have hr2 : (execOp a.eval o).run P w = .ok (.value (.slice (some ⟨w.heap.size, 0, none⟩) n n)) (w.alloc (.cells xs' e)) := by simp [execOp, ho, hrun]
  rw [hr2]
  exact hn _ _ _ _ _ (Ext.bind1 hφ _) hkeep H' (.mu b _ w.heap.size _ (bind1_same _ _ _) (Nat.le_refl _)) (hp b hbn)

theorem vcOp_run (hΘ : Θ.ok P) (H : HR φ w h) (hx : ∀ y ∈ o.op.operands, VR φ (own φ h) w (ρ y) (a.eval y)) (hp : vcOp P Θ M ρ h o.dst o.op K) : VcRun P o φ h w a K := by
  generalize ho : o.op = op at hx hp
  have pure : pOp P Θ ρ h op (fun v => K v h) → VcRun P o φ h w a K := fun q => VcRun.pure hΘ H (by rw [ho]; exact hx) (by rw [ho]; exact q)
  cases op with
  | box t x =>
    simp only [vcOp] at hp
    split at hp
    · exact VcRun.new H (hx x (by simp [Op.operands])) (by simp [execOp, ho, Instr.box, newVar, newRow]) hp
    · exact pure hp
  | alloc t =>
    simp only [vcOp] at hp
    split at hp
    · split at hp
      · rename_i d hd
        exact VcRun.new H (absV_VR _ _ _ d.zero) (by simp [execOp, ho, Instr.alloc, (hΘ t d hd).zero, newVar, newRow]) hp
      · exact hp.elim
    · exact pure hp
  | makeSlice t l c =>
    simp only [vcOp] at hp
    split at hp
    · split at hp
      · rename_i e _ _ _ k1 n k2 m hd e1 e2
        split at hp
        · rename_i d hde
          obtain ⟨⟨rfl, h0, hb, hm, hk, hfl⟩, hp⟩ := hp
          have v1 := hx l (by simp [Op.operands])
          have v2 := hx c (by simp [Op.operands])
          rw [e1] at v1
          rw [e2] at v2
          exact VcRun.makeSlice hΘ H ho v1 v2 hd hde h0 hb hm hk hfl hp
        · exact hp.elim
      · exact hp.elim
    · exact pure hp
  | buildSlice t n ps =>
    simp only [vcOp] at hp
    split at hp
    · split at hp
      · rename_i e _ _ _ hd
        split at hp
        · rename_i d hde
          obtain ⟨⟨h1, h2, h3, h4⟩, hp⟩ := hp
          exact VcRun.buildSlice hΘ H ho hx hd hde h1 h2 h3 h4 hp
        · exact hp.elim
      · exact hp.elim
    · exact pure hp
  | store t x y => exact VcRun.store (M := M) hΘ H ho (hx x (by simp [Op.operands])) (hx y (by simp [Op.operands])) hp
  | call c =>
    simp only [vcOp] at hp
    split at hp
    · rename_i f hc
      split at hp
      · rename_i g cap e
        exact VcRun.call H ho hc hx e hp
      · rename_i g first e
        exact VcRun.callB H ho hc hx e hp
      · exact hp.elim
    · rename_i r name hc
      split at hp
      · rename_i t u e
        obtain ⟨f, e', hm, hp⟩ := hp
        exact VcRun.invoke hΘ H ho hc hx e hm hp
      · exact hp.elim
    · rename_i hc
      split at hp
      · rename_i s y t t' ha ht
        obtain ⟨rfl, hp⟩ := hp
        have hca : c.args = #[s, y] := by rw [← Array.toArray_toList (xs := c.args), ha]
        have hct : c.argTypes = #[t', t'] := by rw [← Array.toArray_toList (xs := c.argTypes), ht]
        split at hp
        · rename_i e _ _ _ ys hd hl
          split at hp
          · rename_i d hde
            refine VcRun.append hΘ H ho hc hca hct hd hde (hx s ?_) (hx y ?_) hl hp <;> simp [Op.operands, Call.operands, hc, hca]
          · exact hp.elim
        · exact hp.elim
      · exact hp.elim
    · rename_i hc
      split at hp
      · rename_i s y t t' ha ht
        have hca : c.args = #[s, y] := by rw [← Array.toArray_toList (xs := c.args), ha]
        have hct : c.argTypes = #[t, t'] := by rw [← Array.toArray_toList (xs := c.argTypes), ht]
        split at hp
        · rename_i e _ _ _ b off n ys hd es ey
          split at hp
          · rename_i d x hde hob
            obtain ⟨⟨q1, q2, q3, q4, q5, q6⟩, hp⟩ := hp
            exact VcRun.copy hΘ H ho hc hca hct hd hde (hx s (by simp [Op.operands, Call.operands, hc, hca])) (hx y (by simp [Op.operands, Call.operands, hc, hca])) es ey hob q1 q2 q3 q4 q5 q6 hp
          · exact hp.elim
        · exact hp.elim
      · exact hp.elim
    · exact pure hp
  | makeMap t r =>
    simp only [vcOp] at hp
    split at hp
    · rename_i hd
      exact VcRun.makeMap hΘ H ho hd hp
    · exact hp.elim
  | lookup t x i ok =>
    simp only [vcOp] at hp
    split at hp
    · rename_i kt e _ _ _ o' hd ex
      split at hp
      · rename_i ob d hob hde
        obtain ⟨⟨q1, q2⟩, hp⟩ := hp
        exact VcRun.lookup hΘ H ho (hx x (by simp [Op.operands])) (hx i (by simp [Op.operands])) hd hde ex hob q1 q2 hp
      · exact hp.elim
    · exact hp.elim
  | mapUpdate t x i y =>
    simp only [vcOp] at hp
    split at hp
    · rename_i kt _ _ _ _ o' hd ex
      split at hp
      · rename_i ob hob
        obtain ⟨⟨q1, q2⟩, hp⟩ := hp
        exact VcRun.mapUpdate hΘ H ho (hx x (by simp [Op.operands])) (hx i (by simp [Op.operands])) (hx y (by simp [Op.operands])) hd ex hob q1 q2 hp
      · exact hp.elim
    · exact hp.elim
  | _ => exact pure hp
end runs

def putA (tm : Tm) : Option Nat → AV → Tm
  | some d, v => (d, v) :: tm
  | none, _ => tm

def dstOf (all : List Oper) (j : Nat) : Option Nat := match all[j]? with | some o => o.dst | none => none

/-- A region in the order of its text. -/
def vcOps (P : Program) (Θ : Types) (M : List Nat) (all : List Oper) : List Oper → (St → Prop) → St → Prop
  | [], K, S => K S
  | o :: rest, K, S =>
    o.dst.all (· < S.n) = true ∧
    match o.guard with
    | none => vcOp P Θ M (ev S.tm) S.h o.dst o.op fun v h' => vcOps P Θ M all rest K ⟨S.n, putA S.tm o.dst v, h'⟩
    | some (j, want) =>
      match dstOf all j with
      | some t =>
        match get S.tm t with
        | .bool b => t < S.n ∧ if b = want then vcOp P Θ M (ev S.tm) S.h o.dst o.op fun v h' => vcOps P Θ M all rest K ⟨S.n, putA S.tm o.dst v, h'⟩
            else vcOps P Θ M all rest K ⟨S.n, putA S.tm o.dst (.tup []), S.h⟩
        | .tup _ => t < S.n ∧ vcOps P Θ M all rest K ⟨S.n, putA S.tm o.dst (.tup []), S.h⟩
        | _ => False
      | none => False

theorem TR.putA {φ : Names} {B : Nat → Prop} {w : World} {n : Nat} {tm : Tm} {a : Act} (h : TR φ B w n tm a) {d : Option Nat} (hd : d.all (· < n) = true) {u : AV} {v : Value} (hv : VR φ B w u v) : TR φ B w n (putA tm d u) (a.put d v) := by
  cases d with
  | none => exact h
  | some d => exact h.put (by simpa using hd) hv

theorem yielded_of {ops : Array Oper} {φ : Names} {B : Nat → Prop} {w : World} {n : Nat} {tm : Tm} {a : Act} (h : TR φ B w n tm a) {j t : Nat} {b : Bool} (hj : dstOf ops.toList j = some t) (ht : get tm t = .bool b) (hlt : t < n) : yielded ops a.tmps j = some b := by
  have hv := h.val t
  rw [ht] at hv
  have hb := hv.bool_inv
  have e : (ops[j]?).bind (·.dst) = some t := by
    unfold dstOf at hj
    simp only [Array.getElem?_toList] at hj
    cases hq : ops[j]? with
    | none => simp [hq] at hj
    | some o => simpa [hq] using hj
  have hs : t < a.tmps.size := by rw [h.size]; exact hlt
  have e2 : a.tmps[t]? = some (.bool b) := by
    rw [Array.getElem?_eq_getElem hs]
    simp [hs] at hb
    rw [hb]
  simp [yielded, e, e2]

theorem VR.und (φ : Names) (B : Nat → Prop) (w : World) : VR φ B w (.tup []) undef := .tup [] #[] rfl (fun j u h => by simp at h)

theorem yielded_none {ops : Array Oper} {φ : Names} {B : Nat → Prop} {w : World} {n : Nat} {tm : Tm} {a : Act} (h : TR φ B w n tm a) {j t : Nat} {cs : List AV} (hj : dstOf ops.toList j = some t) (ht : get tm t = .tup cs) (hlt : t < n) : yielded ops a.tmps j = none := by
  have hv := h.val t
  rw [ht] at hv
  have hb : ∃ vs, a.tmps.getD t undef = .tuple vs := by
    generalize a.tmps.getD t undef = v at hv
    cases hv with | tup _ vs _ _ => exact ⟨vs, rfl⟩
  obtain ⟨vs, hb⟩ := hb
  have e : (ops[j]?).bind (·.dst) = some t := by
    unfold dstOf at hj
    simp only [Array.getElem?_toList] at hj
    cases hq : ops[j]? with
    | none => simp [hq] at hj
    | some o => simpa [hq] using hj
  have hs : t < a.tmps.size := by rw [h.size]; exact hlt
  have e2 : a.tmps[t]? = some (.tuple vs) := by
    rw [Array.getElem?_eq_getElem hs]
    simp [hs] at hb
    rw [hb]
  simp [yielded, e, e2]

theorem vcOps_run {P : Program} {Θ : Types} {M : List Nat} (hΘ : Θ.ok P) {ops : Array Oper} {Q : Exit → St → Prop} : ∀ (l : List Oper) (S : St) (φ : Names) (w : World) (a : Act), HR φ w S.h → TR φ (own φ S.h) w S.n S.tm a →
    vcOps P Θ M ops.toList l (Q .normal) S → wpList P ops (Lift φ S.h w S.n Q) l a w := by
  intro l
  induction l with
  | nil => intro S φ w a H T hp; exact ⟨φ, S, Ext.refl φ, Keeps.refl _ w, H, rfl, T, hp⟩
  | cons o rest ih =>
    intro S φ w a H T hp
    obtain ⟨hd, hp⟩ := hp
    have step : vcOp P Θ M (ev S.tm) S.h o.dst o.op (fun v h' => vcOps P Θ M ops.toList rest (Q .normal) ⟨S.n, putA S.tm o.dst v, h'⟩) → o.wp P a w (wpList P ops (Lift φ S.h w S.n Q) rest) (Lift φ S.h w S.n Q) := by
      intro hv
      refine vcOp_run (ρ := ev S.tm) hΘ H (fun y _ => T.ev y) hv _ _ ?_
      intro φ' h' w' x v e1 e2 e3 e4 hk
      have T' : TR φ' (own φ' h') w' S.n (putA S.tm o.dst v) (a.put o.dst x) := (T.mono e1 e2).putA hd e4
      have := ih ⟨S.n, putA S.tm o.dst v, h'⟩ φ' w' _ e3 T' hk
      have mono : ∀ (l : List Oper) (a : Act) (W : World), wpList P ops (Lift φ' h' w' S.n Q) l a W → wpList P ops (Lift φ S.h w S.n Q) l a W := by
        intro l
        induction l with
        | nil => intro a W q; exact Lift.trans e1 e2 q
        | cons o l ihl =>
          intro a W q
          unfold wpList at q ⊢
          split
          · rename_i hw
            rw [if_pos hw] at q
            rcases q with q | ⟨q1, a0, w0, q2⟩
            · left
              unfold Oper.wp at q ⊢
              generalize (execOp a.eval o).run P W = r at q
              cases r with
              | ok n w1 =>
                cases n <;> simp only [Oper.upon] at q ⊢ <;> first
                  | exact ihl _ _ q
                  | (refine Calls.mono q ?_
                     intro e w2 hh
                     cases e with
                     | returned v => exact ihl _ _ hh
                     | panicked c => exact Lift.trans e1 e2 hh
                     | outgrown => obtain ⟨a0, w0, hh⟩ := hh; exact ⟨a0, w0, Lift.trans e1 e2 hh⟩)
                  | (refine Rows.mono q ?_
                     intro v w2 hh
                     exact ihl _ _ hh)
              | halt x w1 => cases x <;> simp only [Oper.upon] at q ⊢ <;> first | exact Lift.trans e1 e2 q
            · exact .inr ⟨q1, a0, w0, Lift.trans e1 e2 q2⟩
          · rename_i hw
            rw [if_neg hw] at q
            exact ihl _ _ q
      exact mono _ _ _ this
    have skip : vcOps P Θ M ops.toList rest (Q .normal) ⟨S.n, putA S.tm o.dst (.tup []), S.h⟩ → wpList P ops (Lift φ S.h w S.n Q) rest (a.put o.dst undef) w := by
      intro hv
      exact ih ⟨S.n, putA S.tm o.dst (.tup []), S.h⟩ φ w _ H (T.putA hd (VR.und _ _ _)) hv
    unfold wpList
    cases hg : o.guard with
    | none =>
      rw [hg] at hp
      rw [if_pos (by simp [Region.wanted, hg])]
      exact .inl (step hp)
    | some jw =>
      obtain ⟨j, want⟩ := jw
      rw [hg] at hp
      simp only at hp
      split at hp
      · rename_i t ht
        split at hp
        · rename_i b hb
          obtain ⟨hlt, hp⟩ := hp
          have hy := yielded_of T ht hb hlt
          by_cases hbw : b = want
          · rw [if_pos hbw] at hp
            rw [if_pos (by simp [Region.wanted, hg, hy, hbw])]
            exact .inl (step hp)
          · rw [if_neg hbw] at hp
            rw [if_neg (by simp [Region.wanted, hg, hy, hbw])]
            exact skip hp
        · rename_i cs hb
          obtain ⟨hlt, hp⟩ := hp
          have hy := yielded_none T ht hb hlt
          rw [if_neg (by simp [Region.wanted, hg, hy])]
          exact skip hp
        · exact hp.elim
      · exact hp.elim

end Go.Par

set_option linter.unusedSimpArgs false
namespace Go.Par

def aft (o : Oper) (i : Nat) : Bool := o.after.toList.any fun e => e.on == i && Region.binds .any e

def isLoad : Op → Bool
  | .load .. => true
  | _ => false

def isAlloc (M : List Nat) (o : Oper) : Bool :=
  match o.op with
  | .alloc _ => o.dst.any M.contains
  | .makeSlice .. => o.dst.any M.contains
  | .buildSlice .. => o.dst.any M.contains
  | .call c => match c.callee with | .builtin .append => o.dst.any M.contains | _ => false
  | _ => false

def looks (all : List Oper) (o : Oper) : List Nat :=
  (o.op.operands.toList.filterMap fun | .tmp t => some t | _ => none) ++ (match o.guard with | some (g, _) => (dstOf all g).toList | none => [])

/-- 'j' stands behind 'i' in the text: where the one minds the other they keep that order. -/
def pairOK (all : List Oper) (m : Nat) (M : List Nat) (j : Nat) (oj : Oper) (i : Nat) (oi : Oper) : Bool :=
  aft oj i || !((oi.dst.any fun t => (looks all oj).contains t || oj.dst == some t) || (oj.dst.any fun t => (looks all oi).contains t) || (decide (m ≤ i) && decide (i + 1 = j)) || (isAlloc M oi && decide (j = m)))

def allPairs (all : List Oper) (m : Nat) (M : List Nat) (j : Nat) (oj : Oper) : Nat → List Oper → Bool
  | _, [] => true
  | i, oi :: rest => (if i < j then pairOK all m M j oj i oi else true) && allPairs all m M j oj (i + 1) rest

def drawOKs (all : List Oper) (m : Nat) (M : List Nat) : Nat → List Oper → Bool
  | _, [] => true
  | j, oj :: rest => (oj.after.toList.all fun e => !Region.binds .any e || decide (e.on < j)) && allPairs all m M j oj 0 all && drawOKs all m M (j + 1) rest

def drawOK (all : List Oper) (m : Nat) (M : List Nat) : Bool := drawOKs all m M 0 all && decide (m ≤ all.length)

theorem allPairs_spec {all : List Oper} {m : Nat} {M : List Nat} {j : Nat} {oj : Oper} : ∀ (l : List Oper) (k : Nat), allPairs all m M j oj k l = true → ∀ i oi, l[i]? = some oi → k + i < j → pairOK all m M j oj (k + i) oi = true := by
  intro l
  induction l with
  | nil => intro k _ i oi h; simp at h
  | cons o l ih =>
    intro k h i oi hi hlt
    simp only [allPairs, Bool.and_eq_true] at h
    cases i with
    | zero =>
      simp at hi
      subst hi
      have := h.1
      rw [if_pos (by omega)] at this
      simpa using this
    | succ i =>
      have := ih (k + 1) h.2 i oi (by simpa using hi) (by omega)
      rwa [show k + 1 + i = k + (i + 1) by omega] at this

theorem drawOKs_spec {all : List Oper} {m : Nat} {M : List Nat} : ∀ (l : List Oper) (k : Nat), drawOKs all m M k l = true → ∀ j oj, l[j]? = some oj →
    (∀ e ∈ oj.after, Region.binds .any e = true → e.on < k + j) ∧ allPairs all m M (k + j) oj 0 all = true := by
  intro l
  induction l with
  | nil => intro k _ j oj h; simp at h
  | cons o l ih =>
    intro k h j oj hj
    simp only [drawOKs, Bool.and_eq_true] at h
    obtain ⟨⟨h1, h2⟩, h4⟩ := h
    cases j with
    | zero =>
      simp at hj
      subst hj
      refine ⟨fun e he hb => ?_, h2⟩
      rw [List.all_eq_true] at h1
      have := h1 e (by simpa using he)
      simpa [hb] using this
    | succ j =>
      have := ih (k + 1) h4 j oj (by simpa using hj)
      rwa [show k + 1 + j = k + (j + 1) by omega] at this

/-- What holds of a region whose order is drawn. -/
structure Drawn (all : List Oper) (m : Nat) (M : List Nat) : Prop where
  le : m ≤ all.length
  edge : ∀ (j : Nat) (oj : Oper), all[j]? = some oj → ∀ e ∈ oj.after, Region.binds .any e = true → e.on < j
  look : ∀ (i j : Nat) (oi oj : Oper) (t : Nat), i < j → all[i]? = some oi → all[j]? = some oj → oi.dst = some t → t ∈ looks all oj → aft oj i = true
  look' : ∀ (i j : Nat) (oi oj : Oper) (t : Nat), i < j → all[i]? = some oi → all[j]? = some oj → oj.dst = some t → t ∈ looks all oi → aft oj i = true
  both : ∀ (i j : Nat) (oi oj : Oper) (t : Nat), i < j → all[i]? = some oi → all[j]? = some oj → oi.dst = some t → oj.dst = some t → aft oj i = true
  tail : ∀ (i j : Nat) (oi oj : Oper), i < j → all[i]? = some oi → all[j]? = some oj → m ≤ i → i + 1 = j → aft oj i = true
  alloc : ∀ (i j : Nat) (oi oj : Oper), i < j → all[i]? = some oi → all[j]? = some oj → isAlloc M oi = true → j = m → aft oj i = true

theorem drawOK_spec {all : List Oper} {m : Nat} {M : List Nat} (h : drawOK all m M = true) : Drawn all m M := by
  simp only [drawOK, Bool.and_eq_true, decide_eq_true_eq] at h
  obtain ⟨h, hle⟩ := h
  have key : ∀ (i j : Nat) (oi oj : Oper), i < j → all[i]? = some oi → all[j]? = some oj → pairOK all m M j oj i oi = true := by
    intro i j oi oj hlt hi hj
    have := (drawOKs_spec all 0 h j oj hj).2
    rw [Nat.zero_add] at this
    have := allPairs_spec all 0 this i oi hi (by omega)
    rwa [Nat.zero_add] at this
  refine ⟨hle, fun j oj hj => ?_, ?_, ?_, ?_, ?_, ?_⟩
  · have := (drawOKs_spec all 0 h j oj hj).1
    simpa using this
  all_goals intro i j oi oj
  · intro t hlt hi hj h1 h2
    have := key i j oi oj hlt hi hj
    simp only [pairOK, Bool.or_eq_true, Bool.not_eq_true'] at this
    rcases this with h | h
    · exact h
    · simp [h1, h2] at h
  · intro t hlt hi hj h1 h2
    have := key i j oi oj hlt hi hj
    simp only [pairOK, Bool.or_eq_true, Bool.not_eq_true'] at this
    rcases this with h | h
    · exact h
    · simp [h1, h2] at h
  · intro t hlt hi hj h1 h2
    have := key i j oi oj hlt hi hj
    simp only [pairOK, Bool.or_eq_true, Bool.not_eq_true'] at this
    rcases this with h | h
    · exact h
    · simp [h1, h2] at h
  · intro hlt hi hj h1 h2
    have := key i j oi oj hlt hi hj
    simp only [pairOK, Bool.or_eq_true, Bool.not_eq_true'] at this
    rcases this with h | h
    · exact h
    · simp [h1, h2] at h
  · intro hlt hi hj h1 h2
    have := key i j oi oj hlt hi hj
    simp only [pairOK, Bool.or_eq_true, Bool.not_eq_true'] at this
    rcases this with h | h
    · exact h
    · simp [h1, h2] at h

/-! ### What the slots hold when some operations have run. -/

def cur (all : List Oper) (tm0 : Tm) (ls : Nat → Bool) (vs : Nat → AV) : Nat → Tm
  | 0 => tm0
  | k + 1 => if ls k then putA (cur all tm0 ls vs k) (dstOf all k) (vs k) else cur all tm0 ls vs k

theorem get_putA {tm : Tm} {d : Option Nat} {v : AV} {t : Nat} : get (putA tm d v) t = if d = some t then v else get tm t := by
  cases d with
  | none => simp [putA]
  | some d => simp only [putA, get, Option.some.injEq]

theorem cur_agree {all : List Oper} {tm0 : Tm} {ls ls' : Nat → Bool} {vs vs' : Nat → AV} {t : Nat} : ∀ N, (∀ i, i < N → dstOf all i = some t → ls i = ls' i ∧ (ls i = true → vs i = vs' i)) →
    get (cur all tm0 ls vs N) t = get (cur all tm0 ls' vs' N) t := by
  intro N
  induction N with
  | zero => intro _; rfl
  | succ N ih =>
    intro h
    have ih' := ih fun i hi => h i (by omega)
    simp only [cur]
    by_cases hd : dstOf all N = some t
    · obtain ⟨h1, h2⟩ := h N (by omega) hd
      rw [← h1]
      cases hl : ls N with
      | true => simp only [if_true, get_putA, hd]; exact h2 hl
      | false => simpa using ih'
    · have : ∀ (ls : Nat → Bool) (vs : Nat → AV), get (if ls N then putA (cur all tm0 ls vs N) (dstOf all N) (vs N) else cur all tm0 ls vs N) t = get (cur all tm0 ls vs N) t := by
        intro ls vs
        split
        · rw [get_putA, if_neg hd]
        · rfl
      rw [this, this]
      exact ih'

def txt (all : List Oper) (tm0 : Tm) (vs : Nat → AV) (k : Nat) : Tm := cur all tm0 (fun _ => true) vs k

theorem cur_below {all : List Oper} {tm0 : Tm} {vs : Nat → AV} {k : Nat} : ∀ N, k ≤ N → cur all tm0 (fun i => decide (i < k)) vs N = txt all tm0 vs k := by
  have base : ∀ N, N ≤ k → cur all tm0 (fun i => decide (i < k)) vs N = txt all tm0 vs N := by
    intro N
    induction N with
    | zero => intro _; rfl
    | succ N ih =>
      intro h
      simp only [cur, txt, if_true]
      rw [if_pos (by simp; omega), ih (by omega)]
      rfl
  intro N
  induction N with
  | zero => intro h; have : k = 0 := by omega
            subst this; rfl
  | succ N ih =>
    intro h
    by_cases e : k = N + 1
    · subst e; exact base _ (Nat.le_refl _)
    · simp only [cur]
      rw [if_neg (by simp; omega)]
      exact ih (by omega)

theorem txt_congr {all : List Oper} {tm0 : Tm} {vs vs' : Nat → AV} : ∀ k, (∀ i, i < k → vs i = vs' i) → txt all tm0 vs k = txt all tm0 vs' k := by
  intro k
  induction k with
  | zero => intro _; rfl
  | succ k ih =>
    intro h
    simp only [txt, cur, if_true]
    rw [h k (by omega)]
    have := ih fun i hi => h i (by omega)
    simp only [txt] at this
    rw [this]

end Go.Par

set_option linter.unusedSimpArgs false
namespace Go.Par

abbrev Pend := List (Nat × (Heap → Prop))

def obl (h : Heap) : Pend → Prop
  | [] => True
  | (_, p) :: l => p h ∧ obl h l

def effOp (M : List Nat) (o : Oper) : Bool :=
  match o.op with
  | .box .. | .alloc .. | .makeSlice .. | .buildSlice .. => o.dst.any M.contains
  | .store .. | .makeMap .. | .lookup .. | .mapUpdate .. => true
  | .call c => match c.callee with | .value _ => true | .builtin .append => true | .builtin .copy => true | .invoke .. => true | _ => false
  | _ => false

def vcTail (P : Program) (Θ : Types) (M : List Nat) : List Oper → Pend → (St → Prop) → St → Prop
  | [], _, K, S => K S
  | o :: rest, pend, K, S => o.dst.all (· < S.n) = true ∧ o.guard = none ∧
      vcOp P Θ M (ev S.tm) S.h o.dst o.op fun v h' => (if effOp M o then obl h' pend else h' = S.h) ∧ vcTail P Θ M rest pend K ⟨S.n, putA S.tm o.dst v, h'⟩

/-- What makes a new thing may run. -/
def mkOK (Θ : Types) (ρ : Operand → AV) (o : Oper) : Prop :=
  match o.op with
  | .alloc t => (match Θ t with | some d => (absV d.zero).known = true ∧ 0 < (absV d.zero).flat.length | none => False)
  | .makeSlice t l c =>
    match Θ t, ρ l, ρ c with
    | some ⟨.slice e, _, _, _⟩, .int _ n, .int _ m =>
      match Θ e with
      | some d => n = m ∧ 0 ≤ n ∧ (d.bytes : Int) * n ≤ 140737488355328 ∧ n ≤ 140737488355328 ∧ (absV d.zero).known = true ∧ (absV d.zero).flat.length = d.size
      | none => False
    | _, _, _ => False
  | .buildSlice t n ps =>
    match Θ t with
    | some ⟨.slice e, _, _, _⟩ =>
      match Θ e with
      | some d => ps.toList.map Prod.fst = List.range n ∧ n * d.size ≤ 16777216 ∧ n ≤ 16777216 ∧ ∀ p ∈ ps.toList, (ρ p.2).known = true ∧ (ρ p.2).flat.length = d.size
      | none => False
    | _ => False
  | .call c =>
    match c.args.toList, c.argTypes.toList with
    | [s, y], [t, t'] => (t' = t ∧ ρ s = .nils) ∧
      match Θ t, listA (ρ y) with
      | some ⟨.slice e, _, _, _⟩, some ys =>
        match Θ e with
        | some d => 0 < d.size ∧ d.zero.cells.size = d.size ∧ (∀ y ∈ ys, y.flat.length = d.size ∧ allOne y.flat) ∧ ys.length * d.bytes ≤ 140737488355328 ∧ ys.length ≤ 140737488355328
        | none => False
      | _, _ => False
    | _, _ => False
  | _ => False

/-- The new thing. -/
def obA (Θ : Types) (ρ : Operand → AV) (o : Oper) : Ob :=
  match o.op with
  | .alloc t => (match Θ t with | some d => ⟨(absV d.zero).flat, t, (absV d.zero).flat.length, true⟩ | none => ⟨[], 0, 0, false⟩)
  | .makeSlice t l _ =>
    match Θ t, ρ l with
    | some ⟨.slice e, _, _, _⟩, .int _ n =>
      match Θ e with
      | some d => ⟨(List.replicate n.toNat (absV d.zero)).flatMap AV.flat, e, d.size, true⟩
      | none => ⟨[], 0, 0, false⟩
    | _, _ => ⟨[], 0, 0, false⟩
  | .buildSlice t _ ps =>
    match Θ t with
    | some ⟨.slice e, _, _, _⟩ =>
      match Θ e with
      | some d => ⟨(ps.toList.map fun p => ρ p.2).flatMap AV.flat, e, d.size, true⟩
      | none => ⟨[], 0, 0, false⟩
    | _ => ⟨[], 0, 0, false⟩
  | .call c =>
    match c.args.toList, c.argTypes.toList with
    | [_, y], [t, _] =>
      match Θ t, listA (ρ y) with
      | some ⟨.slice e, _, _, _⟩, some ys =>
        match Θ e with
        | some d => ⟨ys.flatMap AV.flat, e, d.size, !ys.isEmpty⟩
        | none => ⟨[], 0, 0, false⟩
      | _, _ => ⟨[], 0, 0, false⟩
    | _, _ => ⟨[], 0, 0, false⟩
  | _ => ⟨[], 0, 0, false⟩

/-- What tells it, by its name. -/
def valA (ρ : Operand → AV) (o : Oper) (nm : Nat) : AV :=
  match o.op with
  | .makeSlice _ l _ => (match ρ l with | .int _ n => .mu nm n.toNat | _ => .any)
  | .buildSlice _ n _ => .mu nm n
  | .call c => (match c.args.toList with | [_, y] => (match listA (ρ y) with | some ys => .mu nm ys.length | none => .any) | _ => .any)
  | _ => .ptr nm 0

theorem alloc_noload {M : List Nat} {o : Oper} (h : isAlloc M o = true) : isLoad o.op = false := by
  unfold isAlloc at h
  generalize o.op = op at h ⊢
  cases op <;> first | rfl | cases h

def vcPre (P : Program) (Θ : Types) (M : List Nat) (all : List Oper) (ob : List Nat) (n : Nat) (h0 : Heap) : Nat → List Oper → (Tm → Pend → Heap → Prop) → Tm → Pend → Heap → Prop
  | _, [], K, tm, pend, H => K tm pend H
  | i, o :: rest, K, tm, pend, H => o.dst.all (· < n) = true ∧
    match o.guard with
    | none =>
      if isAlloc M o then mkOK Θ (ev tm) o ∧ ∀ nm, H nm = none → vcPre P Θ M all ob n h0 (i + 1) rest K (putA tm o.dst (valA (ev tm) o nm)) pend (upd H nm (some (obA Θ (ev tm) o)))
      else pOp P Θ (ev tm) h0 o.op fun v => vcPre P Θ M all ob n h0 (i + 1) rest K (putA tm o.dst v) (if ob.contains i then (i, fun h => pOp P Θ (ev tm) h o.op fun u => u = v) :: pend else pend) H
    | some (j, want) => isAlloc M o = false ∧
      match dstOf all j with
      | some t =>
        match get tm t with
        | .bool b => t < n ∧ if b = want then pOp P Θ (ev tm) h0 o.op fun v => vcPre P Θ M all ob n h0 (i + 1) rest K (putA tm o.dst v) (if ob.contains i then (i, fun h => pOp P Θ (ev tm) h o.op fun u => u = v) :: pend else pend) H
            else vcPre P Θ M all ob n h0 (i + 1) rest K (putA tm o.dst (.tup [])) pend H
        | .tup _ => t < n ∧ vcPre P Θ M all ob n h0 (i + 1) rest K (putA tm o.dst (.tup [])) pend H
        | _ => False
      | none => False

def vcDraw (P : Program) (Θ : Types) (M : List Nat) (all : List Oper) (m : Nat) (ob : List Nat) (K : St → Prop) (S : St) : Prop :=
  vcPre P Θ M all ob S.n S.h 0 (all.take m) (fun tm pend h => vcTail P Θ M (all.drop m) pend K ⟨S.n, tm, h⟩) S.tm [] S.h

def loadsOK (all : List Oper) (m : Nat) (M : List Nat) (ob : List Nat) : Nat → List Oper → Bool
  | _, [] => true
  | i, o :: rest => (decide (m ≤ i) || !isLoad o.op || ob.contains i || (all.drop m).all fun oj => !effOp M oj || aft oj i) && loadsOK all m M ob (i + 1) rest

theorem loadsOK_spec {all : List Oper} {m : Nat} {M : List Nat} {ob : List Nat} : ∀ (l : List Oper) (k : Nat), loadsOK all m M ob k l = true → ∀ (i : Nat) (o : Oper), l[i]? = some o → k + i < m → isLoad o.op = true → ob.contains (k + i) = false →
    ∀ oj ∈ all.drop m, effOp M oj = true → aft oj (k + i) = true := by
  intro l
  induction l with
  | nil => intro k _ i o h; simp at h
  | cons o l ih =>
    intro k h i o' hi hlt hl hob
    simp only [loadsOK, Bool.and_eq_true] at h
    cases i with
    | zero =>
      simp at hi
      subst hi
      have h1 := h.1
      simp only [Nat.add_zero] at hlt hob ⊢
      simp only [Bool.or_eq_true, decide_eq_true_eq, Bool.not_eq_true', hl, hob] at h1
      rcases h1 with ((h1 | h1) | h1) | h1
      · omega
      · cases h1
      · cases h1
      · intro oj hj he
        rw [List.all_eq_true] at h1
        have := h1 oj hj
        simpa [he] using this
    | succ i =>
      have := ih (k + 1) h.2 i o' (by simpa using hi) (by omega) hl (by rwa [show k + 1 + i = k + (i + 1) by omega])
      rwa [show k + 1 + i = k + (i + 1) by omega] at this

def subH (h H : Heap) : Prop := ∀ o x, h o = some x → H o = some x
theorem subH.refl (h : Heap) : subH h h := fun _ _ q => q

theorem pOp_sub {P : Program} {Θ : Types} {ρ : Operand → AV} {h H : Heap} {o : Op} {k : AV → Prop} (hs : subH h H) (hp : pOp P Θ ρ h o k) : pOp P Θ ρ H o k := by
  cases o with
  | load t x =>
    simp only [pOp] at hp ⊢
    split at hp
    · exact hp
    · split at hp
      · rename_i hx
        rw [hs _ _ hx]
        exact hp
      · exact hp.elim
    · exact hp.elim
  | makeFunc f x c => cases f <;> exact hp
  | _ => exact hp

theorem pOp_noload {P : Program} {Θ : Types} {ρ : Operand → AV} {h H : Heap} {o : Op} {k : AV → Prop} (hl : isLoad o = false) (hp : pOp P Θ ρ h o k) : pOp P Θ ρ H o k := by
  cases o with
  | load t x => cases hl
  | makeFunc f x c => cases f <;> exact hp
  | _ => exact hp

/-- What was found out of an operation ahead of the first that writes. -/
inductive Fact (P : Program) (Θ : Types) (M : List Nat) (all : List Oper) (n : Nat) (nm : Nat → Nat) (obs : Nat → Ob) (i : Nat) (h : Heap) (tm : Tm) (o : Oper) (v : AV) : Prop where
  | pure (hd : o.dst.all (· < n) = true) (ha : isAlloc M o = false) (hg : ∀ j want, o.guard = some (j, want) → ∃ t, dstOf all j = some t ∧ t < n ∧ get tm t = .bool want) (hp : pOp P Θ (ev tm) h o.op fun u => u = v) : Fact P Θ M all n nm obs i h tm o v
  | skip (hd : o.dst.all (· < n) = true) (ha : isAlloc M o = false) (j : Nat) (want : Bool) (hg : o.guard = some (j, want)) (t : Nat) (ht : dstOf all j = some t) (htn : t < n) (hb : get tm t = .bool (!want) ∨ ∃ cs, get tm t = .tup cs) (hv : v = .tup []) : Fact P Θ M all n nm obs i h tm o v
  | alloc (hd : o.dst.all (· < n) = true) (ha : isAlloc M o = true) (hg : o.guard = none) (hok : mkOK Θ (ev tm) o) (hv : v = valA (ev tm) o (nm i)) (hob : obs i = obA Θ (ev tm) o) : Fact P Θ M all n nm obs i h tm o v

theorem Fact.sub {P : Program} {Θ : Types} {M : List Nat} {all : List Oper} {n : Nat} {nm : Nat → Nat} {obs : Nat → Ob} {i : Nat} {h H : Heap} {tm : Tm} {o : Oper} {v : AV} (hs : subH h H) (hf : Fact P Θ M all n nm obs i h tm o v) : Fact P Θ M all n nm obs i H tm o v := by
  cases hf with
  | pure hd ha hg hp => exact .pure hd ha hg (pOp_sub hs hp)
  | skip hd ha j want hg t ht htn hb hv => exact .skip hd ha j want hg t ht htn hb hv
  | alloc hd ha hg hok hv hob => exact .alloc hd ha hg hok hv hob

theorem Fact.obs {P : Program} {Θ : Types} {M : List Nat} {all : List Oper} {n : Nat} {nm : Nat → Nat} {obs obs' : Nat → Ob} {i : Nat} {h : Heap} {tm : Tm} {o : Oper} {v : AV} (hs : isAlloc M o = true → obs' i = obs i) (hf : Fact P Θ M all n nm obs i h tm o v) : Fact P Θ M all n nm obs' i h tm o v := by
  cases hf with
  | pure hd ha hg hp => exact .pure hd ha hg hp
  | skip hd ha j want hg t ht htn hb hv => exact .skip hd ha j want hg t ht htn hb hv
  | alloc hd ha hg hok hv hob => exact .alloc hd ha hg hok hv (by rw [hs ha]; exact hob)

def alAt (M : List Nat) (all : List Oper) (j : Nat) : Bool := match all[j]? with | some o => isAlloc M o | none => false

/-- The heap with those objects that are made so far. -/
def hpA (M : List Nat) (all : List Oper) (nm : Nat → Nat) (obs : Nat → Ob) (h0 : Heap) (ls : Nat → Bool) : Nat → Heap
  | 0 => h0
  | k + 1 => if ls k && alAt M all k then upd (hpA M all nm obs h0 ls k) (nm k) (some (obs k)) else hpA M all nm obs h0 ls k

theorem hpA_none {M : List Nat} {all : List Oper} {nm : Nat → Nat} {obs : Nat → Ob} {h0 : Heap} {ls : Nat → Bool} {x : Nat} (h : h0 x = none) : ∀ k, (∀ i, i < k → alAt M all i = true → ls i = true → nm i ≠ x) → hpA M all nm obs h0 ls k x = none := by
  intro k
  induction k with
  | zero => intro _; exact h
  | succ k ih =>
    intro hn
    have ih' := ih fun i hi => hn i (by omega)
    simp only [hpA]
    split
    · rename_i hc
      rw [Bool.and_eq_true] at hc
      rw [upd_ne _ _ (Ne.symm (hn k (by omega) hc.2 hc.1))]
      exact ih'
    · exact ih'

theorem hpA_sub {M : List Nat} {all : List Oper} {nm : Nat → Nat} {obs : Nat → Ob} {h0 : Heap} {ls : Nat → Bool} : ∀ k, (∀ i, i < k → alAt M all i = true → ls i = true → h0 (nm i) = none) → subH h0 (hpA M all nm obs h0 ls k) := by
  intro k
  induction k with
  | zero => intro _; exact subH.refl _
  | succ k ih =>
    intro hn
    have ih' := ih fun i hi => hn i (by omega)
    simp only [hpA]
    split
    · rename_i hc
      rw [Bool.and_eq_true] at hc
      intro o' x hx
      have hne : o' ≠ nm k := by rintro rfl; rw [hn k (by omega) hc.2 hc.1] at hx; cases hx
      rw [upd_ne _ _ hne]
      exact ih' o' x hx
    · exact ih'

theorem hpA_congr {M : List Nat} {all : List Oper} {nm : Nat → Nat} {obs obs' : Nat → Ob} {h0 : Heap} {ls ls' : Nat → Bool} : ∀ k, (∀ i, i < k → alAt M all i = true → ls i = ls' i ∧ (ls i = true → obs i = obs' i)) → hpA M all nm obs h0 ls k = hpA M all nm obs' h0 ls' k := by
  intro k
  induction k with
  | zero => intro _; rfl
  | succ k ih =>
    intro hn
    have ih' := ih fun i hi => hn i (by omega)
    simp only [hpA, ih']
    cases ha : alAt M all k with
    | false => simp
    | true =>
      obtain ⟨h1, h2⟩ := hn k (by omega) ha
      rw [← h1]
      cases hl : ls k with
      | true => rw [h2 hl]
      | false => rfl

/-- One object more is made. -/
theorem hpA_add {M : List Nat} {all : List Oper} {nm : Nat → Nat} {obs : Nat → Ob} {h0 : Heap} {ls : Nat → Bool} {i : Nat} (ha : alAt M all i = true) (hl : ls i = false) : ∀ k, i < k → (∀ j, j < k → alAt M all j = true → ls j = true → nm j ≠ nm i) →
    hpA M all nm obs h0 (fun j => ls j || j == i) k = upd (hpA M all nm obs h0 ls k) (nm i) (some (obs i)) := by
  intro k
  induction k with
  | zero => intro h; omega
  | succ k ih =>
    intro h hne
    by_cases e : i = k
    · subst e
      simp only [hpA, ha, hl]
      simp only [Bool.false_or, beq_self_eq_true, Bool.and_self, if_true, Bool.false_and, Bool.false_eq_true, if_false]
      congr 1
      refine hpA_congr i ?_
      intro j hj _
      have : (j == i) = false := by simp; omega
      simp only [this, Bool.or_false, true_and, implies_true]
    · have ih' := ih (by omega) fun j hj => hne j (by omega)
      have hki : (k == i) = false := by simp; omega
      simp only [hpA, hki, Bool.or_false, ih']
      by_cases hc : (ls k && alAt M all k) = true
      · rw [if_pos hc, if_pos hc]
        rw [Bool.and_eq_true] at hc
        have hkne := hne k (by omega) hc.2 hc.1
        funext x
        simp only [upd]
        by_cases h1 : x = nm k
        · have : ¬ x = nm i := fun h2 => hkne (h1.symm.trans h2)
          rw [if_pos h1, if_neg this, if_pos h1]
        · rw [if_neg h1, if_neg h1]
      · rw [if_neg hc, if_neg hc]

theorem vcPre_resolve {P : Program} {Θ : Types} {M : List Nat} {all : List Oper} {ob : List Nat} {n : Nat} {h0 : Heap} {tm0 : Tm} {m : Nat} {K : Tm → Pend → Heap → Prop} {nm : Nat → Nat}
    (hn0 : ∀ i, i < m → alAt M all i = true → h0 (nm i) = none) (hinj : ∀ i j, i < m → j < m → nm i = nm j → i = j) :
    ∀ (l : List Oper) (i : Nat) (vs : Nat → AV) (obs : Nat → Ob) (pend : Pend), l = (all.take m).drop i → i + l.length = m → m ≤ all.length →
      (∀ j o, j < i → all[j]? = some o → Fact P Θ M all n nm obs j h0 (txt all tm0 vs j) o (vs j)) →
      (∀ h, obl h pend → ∀ j o, j < i → all[j]? = some o → ob.contains j = true → isLoad o.op = true → Fact P Θ M all n nm obs j h (txt all tm0 vs j) o (vs j)) →
      vcPre P Θ M all ob n h0 i l K (txt all tm0 vs i) pend (hpA M all nm obs h0 (fun _ => true) i) →
      ∃ vs' obs' pend', (∀ j o, j < m → all[j]? = some o → Fact P Θ M all n nm obs' j h0 (txt all tm0 vs' j) o (vs' j)) ∧
        (∀ h, obl h pend' → ∀ j o, j < m → all[j]? = some o → ob.contains j = true → isLoad o.op = true → Fact P Θ M all n nm obs' j h (txt all tm0 vs' j) o (vs' j)) ∧
        K (txt all tm0 vs' m) pend' (hpA M all nm obs' h0 (fun _ => true) m) := by
  intro l
  induction l with
  | nil =>
    intro i vs obs pend _ hlen _ hf ho hp
    simp only [List.length_nil, Nat.add_zero] at hlen
    subst hlen
    exact ⟨vs, obs, pend, hf, ho, hp⟩
  | cons o l ih =>
    intro i vs obs pend hl hlen hm hf ho hp
    simp only [List.length_cons] at hlen
    have him : i < m := by omega
    have hoi : all[i]? = some o := by
      have := congrArg (·[0]?) hl
      simp only [List.getElem?_cons_zero, List.getElem?_drop, Nat.add_zero, List.getElem?_take] at this
      rw [if_pos him] at this
      exact this.symm
    have hl' : l = (all.take m).drop (i + 1) := by
      have := congrArg List.tail hl
      simpa using this
    have hdst : dstOf all i = o.dst := by simp [dstOf, hoi]
    have hal : alAt M all i = isAlloc M o := by simp [alAt, hoi]
    -- the value of this one is laid down
    have next : ∀ (v : AV) (b : Ob) (pend' : Pend), Fact P Θ M all n nm (fun q => if q = i then b else obs q) i h0 (txt all tm0 vs i) o v →
        (∀ h, obl h pend' → obl h pend ∧ (ob.contains i = true → isLoad o.op = true → Fact P Θ M all n nm (fun q => if q = i then b else obs q) i h (txt all tm0 vs i) o v)) →
        vcPre P Θ M all ob n h0 (i + 1) l K (putA (txt all tm0 vs i) o.dst v) pend' (if isAlloc M o then upd (hpA M all nm obs h0 (fun _ => true) i) (nm i) (some b) else hpA M all nm obs h0 (fun _ => true) i) →
        ∃ vs' obs' pend', (∀ j o, j < m → all[j]? = some o → Fact P Θ M all n nm obs' j h0 (txt all tm0 vs' j) o (vs' j)) ∧
        (∀ h, obl h pend' → ∀ j o, j < m → all[j]? = some o → ob.contains j = true → isLoad o.op = true → Fact P Θ M all n nm obs' j h (txt all tm0 vs' j) o (vs' j)) ∧
        K (txt all tm0 vs' m) pend' (hpA M all nm obs' h0 (fun _ => true) m) := by
      intro v b pend' hfact hpend hk
      have ht : ∀ j, j ≤ i → txt all tm0 (fun q => if q = i then v else vs q) j = txt all tm0 vs j := fun j hj => txt_congr j fun q hq => if_neg (by omega)
      have hH : hpA M all nm (fun q => if q = i then b else obs q) h0 (fun _ => true) i = hpA M all nm obs h0 (fun _ => true) i := hpA_congr i fun q hq _ => ⟨rfl, fun _ => if_neg (by omega)⟩
      refine ih (i + 1) (fun q => if q = i then v else vs q) (fun q => if q = i then b else obs q) pend' hl' (by omega) hm ?_ ?_ ?_
      · intro j o' hj ho'
        rw [ht j (by omega)]
        by_cases e : j = i
        · subst e
          rw [hoi] at ho'
          cases ho'
          rw [if_pos rfl]
          exact hfact
        · rw [if_neg e]
          exact (hf j o' (by omega) ho').obs fun _ => if_neg e
      · intro h hob j o' hj ho' hc hld
        rw [ht j (by omega)]
        obtain ⟨h1, h2⟩ := hpend h hob
        by_cases e : j = i
        · subst e
          rw [hoi] at ho'
          cases ho'
          rw [if_pos rfl]
          exact h2 hc hld
        · rw [if_neg e]
          exact (ho h h1 j o' (by omega) ho' hc hld).obs fun _ => if_neg e
      · have e1 : txt all tm0 (fun q => if q = i then v else vs q) (i + 1) = putA (txt all tm0 vs i) o.dst v := by
          have := ht i (Nat.le_refl _)
          simp only [txt] at this
          simp only [txt, cur, this, hdst, if_true]
        have e2 : hpA M all nm (fun q => if q = i then b else obs q) h0 (fun _ => true) (i + 1) = if isAlloc M o then upd (hpA M all nm obs h0 (fun _ => true) i) (nm i) (some b) else hpA M all nm obs h0 (fun _ => true) i := by
          simp only [hpA, hH, hal, Bool.true_and, if_true]
        rw [e1, e2]
        exact hk
    have pureStep : isAlloc M o = false → o.dst.all (· < n) = true → (∀ j want, o.guard = some (j, want) → ∃ t, dstOf all j = some t ∧ t < n ∧ get (txt all tm0 vs i) t = .bool want) →
        (pOp P Θ (ev (txt all tm0 vs i)) h0 o.op fun v => vcPre P Θ M all ob n h0 (i + 1) l K (putA (txt all tm0 vs i) o.dst v) (if ob.contains i then (i, fun h => pOp P Θ (ev (txt all tm0 vs i)) h o.op fun u => u = v) :: pend else pend) (hpA M all nm obs h0 (fun _ => true) i)) →
        ∃ vs' obs' pend', (∀ j o, j < m → all[j]? = some o → Fact P Θ M all n nm obs' j h0 (txt all tm0 vs' j) o (vs' j)) ∧
        (∀ h, obl h pend' → ∀ j o, j < m → all[j]? = some o → ob.contains j = true → isLoad o.op = true → Fact P Θ M all n nm obs' j h (txt all tm0 vs' j) o (vs' j)) ∧
        K (txt all tm0 vs' m) pend' (hpA M all nm obs' h0 (fun _ => true) m) := by
      intro ha hd hg hpp
      obtain ⟨v, hk, hv⟩ := pOp_val hpp
      refine next v (obs i) _ (.pure hd ha hg hv) ?_ (by rw [if_neg (by simp [ha])]; exact hk)
      intro h hob
      split at hob
      · exact ⟨hob.2, fun _ _ => .pure hd ha hg hob.1⟩
      · rename_i hc
        exact ⟨hob, fun hc' => absurd hc' hc⟩
    obtain ⟨hd, hp⟩ := hp
    split at hp
    · rename_i hg
      split at hp
      · rename_i ha
        obtain ⟨h1, h2⟩ := hp
        have hfree : hpA M all nm obs h0 (fun _ => true) i (nm i) = none := hpA_none (hn0 i him (by rw [hal]; exact ha)) i fun j hj _ _ e => by
          have := hinj j i (by omega) him e
          omega
        refine next _ (obA Θ (ev (txt all tm0 vs i)) o) pend (.alloc hd ha hg h1 rfl (if_pos rfl)) (fun h hob => ⟨hob, fun _ hl => by rw [alloc_noload ha] at hl; cases hl⟩) ?_
        rw [if_pos ha]
        exact h2 (nm i) hfree
      · rename_i ha
        exact pureStep (by simpa using ha) hd (fun j want e => by rw [hg] at e; cases e) hp
    · rename_i j want hg
      obtain ⟨ha, hp⟩ := hp
      split at hp
      · rename_i t ht
        split at hp
        · rename_i b hb
          obtain ⟨htn, hp⟩ := hp
          by_cases e : b = want
          · subst e
            rw [if_pos rfl] at hp
            exact pureStep ha hd (fun j' want' e' => by rw [hg] at e'; cases e'; exact ⟨t, ht, htn, hb⟩) hp
          · have e' : b = !want := (by decide : ∀ b w : Bool, b ≠ w → b = !w) b want e
            refine next (.tup []) (obs i) pend (.skip hd ha j want hg t ht htn (.inl (by rw [hb, e'])) rfl) (fun h hob => ⟨hob, fun _ _ => .skip hd ha j want hg t ht htn (.inl (by rw [hb, e'])) rfl⟩) ?_
            rw [if_neg (by simp [ha])]
            rw [if_neg e] at hp
            exact hp
        · rename_i cs hb
          obtain ⟨htn, p2⟩ := hp
          refine next (.tup []) (obs i) pend (.skip hd ha j want hg t ht htn (.inr ⟨cs, hb⟩) rfl) (fun h hob => ⟨hob, fun _ _ => .skip hd ha j want hg t ht htn (.inr ⟨cs, hb⟩) rfl⟩) ?_
          rw [if_neg (by simp [ha])]
          exact p2
        · exact hp.elim
      · exact hp.elim

end Go.Par

set_option linter.unusedSimpArgs false
namespace Go.Par

theorem HR.newAt {φ : Names} {w : World} {h : Heap} (H : HR φ w h) {n : Nat} (hφ : FreeN φ n) (hn : h n = none) {t : TypeId} {x : AV} {X : Value} (hX : VR φ (own φ h) w x X) (hk : x.known = true) :
    HR (bind1 φ n (.blk w.heap.size 1)) (w.alloc (.cells X.cells t)) (upd h n (some ⟨x.flat, t, x.flat.length, true⟩)) ∧
      Keeps (own φ h) w (own (bind1 φ n (.blk w.heap.size 1)) (upd h n (some ⟨x.flat, t, x.flat.length, true⟩))) (w.alloc (.cells X.cells t)) := by
  have hf := hX.flat hk
  exact H.newW (w' := w.alloc (.cells X.cells t)) hφ hn ⟨x.flat, t, x.flat.length, true⟩ X.cells 1 ⟨w.drawn, rfl⟩ (by simp [hf.1]) (by simp [maxLen]) (by simp [hf.1]) hf.2

/-- What makes a new thing runs, and makes it. -/
theorem mk_run {P : Program} {Θ : Types} {M : List Nat} {ρ : Operand → AV} {φ : Names} {h : Heap} {w : World} {a : Act} {o : Oper} (hΘ : Θ.ok P) (H : HR φ w h) (ha : isAlloc M o = true) (hok : mkOK Θ ρ o)
    (hx : ∀ y ∈ o.op.operands, VR φ (own φ h) w (ρ y) (a.eval y)) : ∃ w' x l, (execOp a.eval o).run P w = .ok (.value x) w' ∧ ∀ n, FreeN φ n → h n = none →
      HR (bind1 φ n l) w' (upd h n (some (obA Θ ρ o))) ∧ Keeps (own φ h) w (own (bind1 φ n l) (upd h n (some (obA Θ ρ o)))) w' ∧ VR (bind1 φ n l) (own (bind1 φ n l) (upd h n (some (obA Θ ρ o)))) w' (valA ρ o n) x := by
  cases hop : o.op with
  | alloc t =>
    rw [mkOK, hop] at hok
    simp only at hok
    split at hok
    · rename_i d hdt
      refine ⟨w.alloc (.cells d.zero.cells t), .pointer (some ⟨w.heap.size, 0, none⟩), .blk w.heap.size 1, by simp [execOp, hop, Instr.alloc, (hΘ t d hdt).zero, newVar, newRow], fun n hφ hn => ?_⟩
      have hob : obA Θ ρ o = ⟨(absV d.zero).flat, t, (absV d.zero).flat.length, true⟩ := by simp [obA, hop, hdt]
      have hva : valA ρ o n = .ptr n 0 := by simp [valA, hop]
      obtain ⟨H', hkeep⟩ := HR.newAt (t := t) H hφ hn (absV_VR φ (own φ h) w d.zero) hok.1
      rw [hob, hva]
      exact ⟨H', hkeep, .ptr n 0 w.heap.size 1 (bind1_same _ _ _)⟩
    · exact hok.elim
  | makeSlice t l c =>
    rw [mkOK, hop] at hok
    simp only at hok
    split at hok
    · rename_i e sz bt z k1 n k2 m hd hl hc
      split at hok
      · rename_i d hde
        obtain ⟨rfl, h0, hb, hm, hk, hfl⟩ := hok
        have hu := (hΘ t _ hd).slice
        have ok := hΘ e d hde
        obtain ⟨i, hi, i1, i2, i3⟩ := ok.1
        have hz : VR φ (own φ h) w (absV d.zero) d.zero := absV_VR _ _ _ _
        have hzf := hz.flat hk
        have v1 := hx l (by rw [hop]; simp [Op.operands])
        have v2 := hx c (by rw [hop]; simp [Op.operands])
        rw [hl] at v1
        rw [hc] at v2
        have hr := run_make (P := P) w t e i d.zero hu hi i3 k1 k2 n n h0 (Int.le_refl _) (by rw [i2]; omega) (by omega)
        refine ⟨w.alloc (.cells (madeCells d.zero.cells (n.toNat * i.size)) e), .slice (some ⟨w.heap.size, 0, none⟩) n.toNat n.toNat, .blk w.heap.size n.toNat, by simp [execOp, hop, v1.int_inv, v2.int_inv, hr], fun b hφ hbn => ?_⟩
        have hob : obA Θ ρ o = ⟨(List.replicate n.toNat (absV d.zero)).flatMap AV.flat, e, d.size, true⟩ := by simp [obA, hop, hd, hl, hde]
        have hva : valA ρ o b = .mu b n.toNat := by simp [valA, hop, hl]
        have hlen : ((List.replicate n.toNat (absV d.zero)).flatMap AV.flat).length = n.toNat * d.size := by
          rw [flat_len (s := d.size) (fun y hy => by rw [(List.mem_replicate.1 hy).2, hfl]), List.length_replicate]
        obtain ⟨H', hkeep⟩ := H.newW (w' := w.alloc (.cells (madeCells d.zero.cells (n.toNat * i.size)) e)) hφ hbn ⟨(List.replicate n.toNat (absV d.zero)).flatMap AV.flat, e, d.size, true⟩ (madeCells d.zero.cells (n.toNat * i.size)) n.toNat ⟨w.drawn, rfl⟩
          (by rw [size_madeCells, i1]) (by simp [maxLen]; omega) (by rw [hlen, size_madeCells, i1]; exact Nat.le_refl _) (by
            intro j u hu
            simp only at hu
            rw [replicate_flat, hfl] at hu
            split at hu
            · rename_i hj
              have h2 := hzf.2 _ _ hu
              have e : (madeCells d.zero.cells (n.toNat * i.size)).getD j undef = d.zero.cells.getD (j % d.size) undef := by
                have hlt : j % d.size < d.zero.cells.size := by rw [← hzf.1, hfl]; exact Nat.mod_lt _ (by rcases Nat.eq_zero_or_pos d.size with h | h; (rw [h] at hj; omega); exact h)
                have hs : d.zero.cells.size = d.size := by rw [← hzf.1, hfl]
                simp [madeCells, i1, hj, hs, getElem!_def, Array.getElem?_eq_getElem hlt]
              rw [e]
              exact h2
            · cases hu)
        rw [hob, hva]
        exact ⟨H', hkeep, .mu b _ w.heap.size _ (bind1_same _ _ _) (Nat.le_refl _)⟩
      · exact hok.elim
    · exact hok.elim
  | buildSlice t n ps =>
    rw [mkOK, hop] at hok
    simp only at hok
    split at hok
    · rename_i e sz bt z hd
      split at hok
      · rename_i d hde
        obtain ⟨hr, hle, hm, hk⟩ := hok
        obtain ⟨xs', hrun, hlen, g1, g3, g2⟩ := buildSlice_core (h := h) hΘ (fun y hy => hx y (by rw [hop]; exact hy)) hd hde hr hle hk
        refine ⟨w.alloc (.cells xs' e), .slice (some ⟨w.heap.size, 0, none⟩) n n, .blk w.heap.size n, by simp [execOp, hop, hrun], fun b hφ hbn => ?_⟩
        have hob : obA Θ ρ o = ⟨(ps.toList.map fun p => ρ p.2).flatMap AV.flat, e, d.size, true⟩ := by simp only [obA, hop, hd, hde]
        have hva : valA ρ o b = .mu b n := by simp only [valA, hop]
        obtain ⟨H', hkeep⟩ := H.newW (w' := w.alloc (.cells xs' e)) hφ hbn ⟨(ps.toList.map fun p => ρ p.2).flatMap AV.flat, e, d.size, true⟩ xs' n ⟨w.drawn, rfl⟩ g3 (by simp [maxLen]; omega) (Nat.le_of_eq g1) g2
        rw [hob, hva]
        exact ⟨H', hkeep, .mu b _ w.heap.size _ (bind1_same _ _ _) (Nat.le_refl _)⟩
      · exact hok.elim
    · exact hok.elim
  | call c =>
    have hcl : c.callee = .builtin .append := by
      unfold isAlloc at ha
      rw [hop] at ha
      simp only at ha
      split at ha
      · assumption
      · cases ha
    rw [mkOK, hop] at hok
    simp only at hok
    split at hok
    · rename_i s y t t' hca0 hct0
      obtain ⟨⟨rfl, hsn⟩, hok⟩ := hok
      have hca : c.args = #[s, y] := by
        have := congrArg List.toArray hca0; simpa using this
      have hct : c.argTypes = #[t', t'] := by
        have := congrArg List.toArray hct0; simpa using this
      split at hok
      · rename_i e sz bt z ys hd hl
        split at hok
        · rename_i d hde
          obtain ⟨hsz, hz, hys, hb, hm⟩ := hok
          have vs := hx s (by rw [hop]; simp [Op.operands, Call.operands, hca])
          have vy := hx y (by rw [hop]; simp [Op.operands, Call.operands, hca])
          rw [hsn] at vs
          have hu := (hΘ t' _ hd).slice
          have ok := hΘ e d hde
          obtain ⟨i, hi, i1, i2, i3⟩ := ok.1
          obtain ⟨A, C, eY, hnews⟩ := news_of vy hl hys
          have hflen : (ys.flatMap AV.flat).length = ys.length * d.size := flat_len fun y hy => (hys y hy).1
          have exec : ∀ v w', (Builtin.append_ #[t', t'] o.type #[a.eval s, a.eval y]).run P w = .ok v w' → (execOp a.eval o).run P w = .ok (.value v) w' := by
            intro v w' hr
            simp [execOp, hop, resolve, hcl, hca, hct, invoke, builtin, hr]
          have hob : obA Θ ρ o = ⟨ys.flatMap AV.flat, e, d.size, !ys.isEmpty⟩ := by simp only [obA, hop, hca0, hct0, hd, hl, hde]
          have hva : ∀ n, valA ρ o n = .mu n ys.length := fun n => by simp only [valA, hop, hca0, hl]
          generalize hq : a.eval s = S at vs
          cases vs
          rcases hnews with h0 | ⟨ad, news, rfl, n1, n2, n3, n4⟩
          · subst h0
            have hr : (Builtin.append_ #[t', t'] o.type #[a.eval s, a.eval y]).run P w = .ok (.slice none 0 0) w := by
              rw [hq, eY]
              cases A <;> simp [Builtin.append_, run_underlying hu, sizeOf, typeInfo, hi, Builtin.lenOf, Builtin.firstCells, loadCells, loadCellsFrom]
            refine ⟨w, _, .nil, exec _ _ hr, fun n hφ hn => ?_⟩
            rw [hob, hva]
            have hk : Keeps (own φ h) w (own (bind1 φ n .nil) (upd h n (some ⟨[], e, d.size, false⟩))) w := Keeps.less w fun b hb => by
              rcases (own_name hn).1 hb with hb | ⟨c, hc⟩
              · exact hb
              · rcases hc with hc | hc <;> cases hc
            exact ⟨H.name hφ hn (fun b c e => by rcases e with e | e <;> cases e) hk (fun _ _ => rfl) ⟨rfl, rfl⟩, hk, .muN n (bind1_same _ _ _)⟩
          · by_cases h0 : ys = []
            · subst h0
              have hr : (Builtin.append_ #[t', t'] o.type #[a.eval s, a.eval y]).run P w = .ok (.slice none 0 0) w := by
                rw [hq, eY]
                simp [Builtin.append_, run_underlying hu, sizeOf, typeInfo, hi, Builtin.lenOf, Builtin.firstCells, loadCells, loadCellsFrom]
              refine ⟨w, _, .nil, exec _ _ hr, fun n hφ hn => ?_⟩
              rw [hob, hva]
              have hk : Keeps (own φ h) w (own (bind1 φ n .nil) (upd h n (some ⟨[], e, d.size, false⟩))) w := Keeps.less w fun b hb => by
                rcases (own_name hn).1 hb with hb | ⟨c, hc⟩
                · exact hb
                · rcases hc with hc | hc <;> cases hc
              exact ⟨H.name hφ hn (fun b c e => by rcases e with e | e <;> cases e) hk (fun _ _ => rfl) ⟨rfl, rfl⟩, hk, .muN n (bind1_same _ _ _)⟩
            · have hpos : 0 < ys.length := List.length_pos_iff.2 h0
              have hr := run_append_nil (P := P) w t' o.type e i d.zero hu hi i3 ad ys.length C news (by rw [n1, i1]) n2 hpos (by omega) (by rw [i2]; omega)
              have hge := grownCap_ge w ys.length 0 e
              refine ⟨_, _, .blk w.heap.size (grownCap w ys.length 0 e), exec _ _ (by rw [hq, eY]; exact hr), fun n hφ hn => ?_⟩
              have hne : (!ys.isEmpty) = true := by cases ys with | nil => exact absurd rfl h0 | cons => rfl
              rw [hob, hva, hne]
              obtain ⟨H', hk⟩ := H.newW (w' := w.drew.alloc (.cells (news.toArray ++ Builtin.zeroCells d.zero.cells (grownCap w ys.length 0 e - ys.length)) e)) hφ hn ⟨ys.flatMap AV.flat, e, d.size, true⟩ _ (grownCap w ys.length 0 e) ⟨w.drawn + 1, rfl⟩ (by
                simp only [Array.size_append, List.size_toArray, size_zeroCells, hz, n1, ← Nat.add_mul]
                congr 1
                omega) (grownCap_le_maxLen _ _ _ _ (by simp [maxLen]; omega)) (by rw [hflen]; simp [n1]) (by
                intro j u hu'
                have hj : j < news.length := by rw [n1, ← hflen]; exact (List.getElem?_eq_some_iff.1 hu').1
                have e3 : (news.toArray ++ Builtin.zeroCells d.zero.cells (grownCap w ys.length 0 e - ys.length)).getD j undef = news.getD j undef := by
                  simp [Array.getElem?_append, hj]
                rw [e3]
                exact n4 j u hu')
              exact ⟨H', hk, .mu n _ w.heap.size _ (bind1_same _ _ _) hge⟩
        · exact hok.elim
      · exact hok.elim
    · exact hok.elim
  | _ => unfold isAlloc at ha; rw [hop] at ha; cases ha

section sim
variable (P : Program) (Θ : Types) (M : List Nat) (all : List Oper) (m N : Nat) (h0 : Heap) (tm0 : Tm) (ob : List Nat) (pend : Pend) (K : St → Prop) (nm : Nat → Nat) (obs : Nat → Ob)

def Hc (q : Nat) (ls : Nat → Bool) (hq : Heap) : Heap := if q = 0 then hpA M all nm obs h0 ls m else hq

structure Sim (q : Nat) (ls : Nat → Bool) (vs : Nat → AV) (hq : Heap) (φ : Names) (w : World) (a : Act) : Prop where
  qle : m + q ≤ all.length
  tl : ∀ i, m ≤ i → i < all.length → (ls i = true ↔ i < m + q)
  closed : ∀ (j : Nat) (o : Oper), all[j]? = some o → ls j = true → ∀ e ∈ o.after, Region.binds .any e = true → ls e.on = true
  allocs : q ≠ 0 → ∀ i, i < m → alAt M all i = true → ls i = true
  kept : ∀ i, i < m → alAt M all i = true → ls i = false → φ (nm i) = some .res
  facts : ∀ (i : Nat) (o : Oper), i < m → all[i]? = some o → ls i = false → Fact P Θ M all N nm obs i (Hc M all m h0 nm obs q ls hq) (txt all tm0 vs i) o (vs i)
  hr : HR φ w (Hc M all m h0 nm obs q ls hq)
  tr : TR φ (own φ (Hc M all m h0 nm obs q ls hq)) w N (cur all tm0 ls vs all.length) a
  tail0 : q = 0 → vcTail P Θ M (all.drop m) pend K ⟨N, txt all tm0 vs m, hpA M all nm obs h0 (fun _ => true) m⟩
  tail : q ≠ 0 → ∃ tq, (∀ t, get tq t = get (txt all tm0 vs (m + q)) t) ∧ vcTail P Θ M (all.drop (m + q)) pend K ⟨N, tq, hq⟩
  pendf : ∀ h, obl h pend → ∀ (j : Nat) (o : Oper), j < m → all[j]? = some o → ob.contains j = true → isLoad o.op = true → Fact P Θ M all N nm obs j h (txt all tm0 vs j) o (vs j)
end sim

section steps
variable {P : Program} {Θ : Types} {M : List Nat} {all : List Oper} {m N : Nat} {h0 : Heap} {tm0 : Tm} {ob : List Nat} {pend : Pend} {K : St → Prop} {nm : Nat → Nat} {obs : Nat → Ob}
variable {q : Nat} {ls : Nat → Bool} {vs : Nat → AV} {hq : Heap} {φ : Names} {w : World} {a : Act}

/-- What an operation looks at is as in the order of the text. -/
theorem Sim.look (D : Drawn all m M) (s : Sim P Θ M all m N h0 tm0 ob pend K nm obs q ls vs hq φ w a) {i : Nat} {o : Oper} (hi : all[i]? = some o) (hl : ls i = false)
    (hr : ∀ e ∈ o.after, Region.binds .any e = true → ls e.on = true) {t : Nat} (ht : t ∈ looks all o) : get (cur all tm0 ls vs all.length) t = get (txt all tm0 vs i) t := by
  have hil : i < all.length := (List.getElem?_eq_some_iff.1 hi).1
  rw [← cur_below (k := i) (vs := vs) all.length (by omega)]
  refine cur_agree _ fun j hj hd => ⟨?_, fun _ => rfl⟩
  have hjo : all[j]? = some all[j] := List.getElem?_eq_getElem hj
  have hd' : all[j].dst = some t := by simpa [dstOf, hjo] using hd
  by_cases hlt : j < i
  · have := D.look j i all[j] o t hlt hjo hi hd' ht
    rw [show decide (j < i) = true by simpa using hlt]
    simp only [aft, List.any_eq_true] at this
    obtain ⟨e, he, he2⟩ := this
    simp only [Bool.and_eq_true, beq_iff_eq] at he2
    have := hr e (by simpa using he) he2.2
    rwa [he2.1] at this
  · rw [show decide (j < i) = false by simpa using hlt]
    by_cases e : j = i
    · rw [e]; exact hl
    · have := D.look' i j o all[j] t (by omega) hi hjo hd' ht
      cases hlj : ls j with
      | false => rfl
      | true =>
        simp only [aft, List.any_eq_true] at this
        obtain ⟨e, he, he2⟩ := this
        simp only [Bool.and_eq_true, beq_iff_eq] at he2
        have := s.closed j _ hjo hlj e (by simpa using he) he2.2
        rw [he2.1, hl] at this
        cases this

theorem Sim.ev (D : Drawn all m M) (s : Sim P Θ M all m N h0 tm0 ob pend K nm obs q ls vs hq φ w a) {i : Nat} {o : Oper} (hi : all[i]? = some o) (hl : ls i = false)
    (hr : ∀ e ∈ o.after, Region.binds .any e = true → ls e.on = true) : ∀ y ∈ o.op.operands, VR φ (own φ (Hc M all m h0 nm obs q ls hq)) w (ev (txt all tm0 vs i) y) (a.eval y) := by
  intro y hy
  cases y with
  | tmp t =>
    have := s.look D hi hl hr (t := t) (List.mem_append_left _ (List.mem_filterMap.2 ⟨.tmp t, by simpa using hy, rfl⟩))
    have hv := s.tr.val t
    rw [this] at hv
    exact hv
  | const v => exact absV_VR _ _ _ v
  | func f => exact .clo f [] #[] rfl (by simp)
  | global g => exact .any _

/-- The slots when one operation more has run. -/
theorem cur_add (D : Drawn all m M) {ls : Nat → Bool} {vs vs' : Nat → AV} {i : Nat} {o : Oper} (hi : all[i]? = some o) (hl : ls i = false)
    (hclosed : ∀ (j : Nat) (o : Oper), all[j]? = some o → ls j = true → ∀ e ∈ o.after, Region.binds .any e = true → ls e.on = true)
    (hvs : ∀ j, j ≠ i → vs' j = vs j) (t : Nat) :
    get (cur all tm0 (fun j => ls j || j == i) vs' all.length) t = get (putA (cur all tm0 ls vs all.length) o.dst (vs' i)) t := by
  have hil : i < all.length := (List.getElem?_eq_some_iff.1 hi).1
  rw [get_putA]
  split
  · rename_i hd
    have e1 : get (cur all tm0 (fun j => ls j || j == i) vs' all.length) t = get (cur all tm0 (fun j => (ls j || j == i) && decide (j < i + 1)) vs' all.length) t := by
      refine cur_agree _ fun j hj hdj => ⟨?_, fun _ => rfl⟩
      by_cases hlt : j < i + 1
      · simp [hlt]
      · have hjo : all[j]? = some all[j] := List.getElem?_eq_getElem hj
        have hd' : all[j].dst = some t := by simpa [dstOf, hjo] using hdj
        have hb := D.both i j o all[j] t (by omega) hi hjo hd hd'
        have hlj : ls j = false := by
          cases hlj : ls j with
          | false => rfl
          | true =>
            simp only [aft, List.any_eq_true] at hb
            obtain ⟨e, he, he2⟩ := hb
            simp only [Bool.and_eq_true, beq_iff_eq] at he2
            have := hclosed j _ hjo hlj e (by simpa using he) he2.2
            rw [he2.1, hl] at this
            cases this
        have : (j == i) = false := by simp; omega
        simp [hlj, this]
    rw [e1]
    have below : ∀ k, i + 1 ≤ k → get (cur all tm0 (fun j => (ls j || j == i) && decide (j < i + 1)) vs' k) t = vs' i := by
      intro k
      induction k with
      | zero => intro h; omega
      | succ k ih =>
        intro h
        by_cases e : k = i
        · subst e
          simp only [cur]
          rw [if_pos (by simp), get_putA, if_pos (by simpa [dstOf, hi] using hd)]
        · simp only [cur]
          rw [if_neg (by simp; omega)]
          exact ih (by omega)
    exact below _ hil
  · rename_i hd
    refine cur_agree _ fun j hj hdj => ?_
    by_cases e : j = i
    · subst e
      exact absurd (by simpa [dstOf, hi] using hdj) hd
    · have : (j == i) = false := by simpa using e
      simp [this, hvs j e]

theorem tl_add {i : Nat} (him : i < m) (tl : ∀ i, m ≤ i → i < all.length → (ls i = true ↔ i < m + q)) : ∀ j, m ≤ j → j < all.length → ((ls j || j == i) = true ↔ j < m + q) := by
  intro j hj hjl
  have : (j == i) = false := by simp; omega
  rw [this, Bool.or_false]
  exact tl j hj hjl

theorem closed_add {i : Nat} {o : Oper} (hi : all[i]? = some o) (hr : ∀ e ∈ o.after, Region.binds .any e = true → ls e.on = true)
    (hc : ∀ (j : Nat) (o : Oper), all[j]? = some o → ls j = true → ∀ e ∈ o.after, Region.binds .any e = true → ls e.on = true) :
    ∀ (j : Nat) (o : Oper), all[j]? = some o → (ls j || j == i) = true → ∀ e ∈ o.after, Region.binds .any e = true → (ls e.on || e.on == i) = true := by
  intro j o' hj hl e he hb
  rw [Bool.or_eq_true] at hl ⊢
  left
  rcases hl with hl | hl
  · exact hc j o' hj hl e he hb
  · have : j = i := by simpa using hl
    subst this
    rw [hi] at hj
    cases hj
    exact hr e he hb

/-- One operation ahead of the tail has run. -/
theorem Sim.pre (D : Drawn all m M) (s : Sim P Θ M all m N h0 tm0 ob pend K nm obs q ls vs hq φ w a) {i : Nat} {o : Oper} (hi : all[i]? = some o) (him : i < m) (hl : ls i = false)
    (hr : ∀ e ∈ o.after, Region.binds .any e = true → ls e.on = true) (hd : o.dst.all (· < N) = true) (ha : isAlloc M o = false) {φ' : Names} {w' : World} {x : Value} (e1 : Ext φ φ')
    (e2 : Keeps (own φ (Hc M all m h0 nm obs q ls hq)) w (own φ' (Hc M all m h0 nm obs q ls hq)) w') (e3 : HR φ' w' (Hc M all m h0 nm obs q ls hq)) (e4 : VR φ' (own φ' (Hc M all m h0 nm obs q ls hq)) w' (vs i) x) :
    Sim P Θ M all m N h0 tm0 ob pend K nm obs q (fun j => ls j || j == i) vs hq φ' w' (a.put o.dst x) ∧ Hc M all m h0 nm obs q (fun j => ls j || j == i) hq = Hc M all m h0 nm obs q ls hq := by
  have hai : alAt M all i = false := by simp [alAt, hi, ha]
  have hH : Hc M all m h0 nm obs q (fun j => ls j || j == i) hq = Hc M all m h0 nm obs q ls hq := by
    unfold Hc
    split
    · refine hpA_congr m fun j hj ha' => ?_
      have : j ≠ i := by rintro rfl; rw [hai] at ha'; cases ha'
      simp [this]
    · rfl
  refine ⟨⟨s.qle, tl_add him s.tl, closed_add hi hr s.closed, ?_, ?_, ?_, by rw [hH]; exact e3, ?_, s.tail0, s.tail, s.pendf⟩, hH⟩
  · intro hq j hj ha'
    rw [s.allocs hq j hj ha', Bool.true_or]
  · intro j hj h1 h2
    rw [Bool.or_eq_false_iff] at h2
    exact e1 _ _ (s.kept j hj h1 h2.1)
  · intro j o' hj ho' hl'
    rw [Bool.or_eq_false_iff] at hl'
    rw [hH]
    exact s.facts j o' hj ho' hl'.1
  · rw [hH]
    have T := ((s.tr.mono e1 e2).putA hd e4)
    exact ⟨T.defers, T.size, fun t => by rw [cur_add D hi hl s.closed (fun _ _ => rfl) t]; exact T.val t⟩

/-- A new object ahead of the tail. -/
theorem Sim.alloc (D : Drawn all m M) (hn0 : ∀ i, i < m → alAt M all i = true → h0 (nm i) = none) (hinj : ∀ i j, i < m → j < m → nm i = nm j → i = j)
    (s : Sim P Θ M all m N h0 tm0 ob pend K nm obs q ls vs hq φ w a) {i : Nat} {o : Oper} (hi : all[i]? = some o) (him : i < m) (hl : ls i = false)
    (hr : ∀ e ∈ o.after, Region.binds .any e = true → ls e.on = true) (hd : o.dst.all (· < N) = true) (ha : isAlloc M o = true) {w' : World} {X : Value} {l : Loc}
    (hnew : FreeN φ (nm i) → Hc M all m h0 nm obs q ls hq (nm i) = none → HR (bind1 φ (nm i) l) w' (upd (Hc M all m h0 nm obs q ls hq) (nm i) (some (obs i))) ∧ Keeps (own φ (Hc M all m h0 nm obs q ls hq)) w (own (bind1 φ (nm i) l) (upd (Hc M all m h0 nm obs q ls hq) (nm i) (some (obs i)))) w' ∧ VR (bind1 φ (nm i) l) (own (bind1 φ (nm i) l) (upd (Hc M all m h0 nm obs q ls hq) (nm i) (some (obs i)))) w' (vs i) X) :
    Sim P Θ M all m N h0 tm0 ob pend K nm obs q (fun j => ls j || j == i) vs hq (bind1 φ (nm i) l) w' (a.put o.dst X) ∧
      Keeps (own φ (Hc M all m h0 nm obs q ls hq)) w (own (bind1 φ (nm i) l) (Hc M all m h0 nm obs q (fun j => ls j || j == i) hq)) w' := by
  have hai : alAt M all i = true := by simp [alAt, hi, ha]
  have hq0 : q = 0 := by
    rcases Nat.eq_zero_or_pos q with h | h
    · exact h
    · have := s.allocs (by omega) i him hai
      rw [hl] at this
      cases this
  subst hq0
  have hHc : Hc M all m h0 nm obs 0 ls hq = hpA M all nm obs h0 ls m := rfl
  have hne : ∀ j, j < m → alAt M all j = true → ls j = true → nm j ≠ nm i := by
    intro j hj _ hlj e
    have := hinj j i hj him e
    subst this
    rw [hl] at hlj
    cases hlj
  have hfree : FreeN φ (nm i) := .inr (s.kept i him hai hl)
  have hnone : Hc M all m h0 nm obs 0 ls hq (nm i) = none := by
    rw [hHc]
    exact hpA_none (hn0 i him hai) m hne
  obtain ⟨H', hkeep, hval⟩ := hnew hfree hnone
  have hH2 : Hc M all m h0 nm obs 0 (fun j => ls j || j == i) hq = upd (Hc M all m h0 nm obs 0 ls hq) (nm i) (some (obs i)) := by
    rw [hHc]
    exact hpA_add hai hl m him hne
  have hext := ExtW.bind1 hfree l
  refine ⟨⟨s.qle, tl_add him s.tl, closed_add hi hr s.closed, fun h => absurd rfl h, ?_, ?_, by rw [hH2]; exact H', ?_, s.tail0, fun h => absurd rfl h, s.pendf⟩, by rw [hH2]; exact hkeep⟩
  · intro j hj h1 h2
    rw [Bool.or_eq_false_iff] at h2
    have hji : nm j ≠ nm i := by
      intro e
      have := hinj j i hj him e
      subst this
      simp at h2
    rw [bind1_ne _ _ hji]
    exact s.kept j hj h1 h2.1
  · intro j o' hj ho' hl'
    rw [Bool.or_eq_false_iff] at hl'
    rw [hH2]
    refine (s.facts j o' hj ho' hl'.1).sub ?_
    intro o2 x hx
    have : o2 ≠ nm i := by rintro rfl; rw [hnone] at hx; cases hx
    rw [upd_ne _ _ this]
    exact hx
  · rw [hH2]
    have T := ((s.tr.monoW hext hkeep).putA hd hval)
    exact ⟨T.defers, T.size, fun t => by rw [cur_add D hi hl s.closed (fun _ _ => rfl) t]; exact T.val t⟩

end steps
end Go.Par

set_option linter.unusedSimpArgs false
namespace Go.Par

section steps
variable {P : Program} {Θ : Types} {M : List Nat} {all : List Oper} {m N : Nat} {h0 : Heap} {tm0 : Tm} {ob : List Nat} {pend : Pend} {K : St → Prop} {nm : Nat → Nat} {obs : Nat → Ob}
variable {q : Nat} {ls : Nat → Bool} {vs : Nat → AV} {hq : Heap} {φ : Names} {w : World} {a : Act}

theorem Sim.atTail (s : Sim P Θ M all m N h0 tm0 ob pend K nm obs q ls vs hq φ w a) (hall : ∀ i, i < m → alAt M all i = true → ls i = true) :
    ∃ tq, (∀ t, get tq t = get (txt all tm0 vs (m + q)) t) ∧ vcTail P Θ M (all.drop (m + q)) pend K ⟨N, tq, Hc M all m h0 nm obs q ls hq⟩ := by
  by_cases hq0 : q = 0
  · subst hq0
    have h1 : hpA M all nm obs h0 ls m = hpA M all nm obs h0 (fun _ => true) m := hpA_congr m fun j hj ha => by
      simp [hall j hj ha]
    refine ⟨_, fun t => rfl, ?_⟩
    simp only [Hc, if_true, h1]
    exact s.tail0 rfl
  · obtain ⟨tq, h1, h2⟩ := s.tail hq0
    refine ⟨tq, h1, ?_⟩
    simp only [Hc, if_neg hq0]
    exact h2

theorem vcOp_quiet {ρ : Operand → AV} {h : Heap} {o : Oper} {k : AV → Heap → Prop} (he : effOp M o = false) (hp : vcOp P Θ M ρ h o.dst o.op k) : pOp P Θ ρ h o.op fun v => k v h := by
  unfold effOp at he
  generalize o.op = op at he hp
  cases op with
  | box t x => simp only at he; simp only [vcOp, he, Bool.false_eq_true, if_false] at hp; exact hp
  | alloc t => simp only at he; simp only [vcOp, he, Bool.false_eq_true, if_false] at hp; exact hp
  | makeSlice t l c => simp only at he; simp only [vcOp, he, Bool.false_eq_true, if_false] at hp; exact hp
  | buildSlice t n ps => simp only at he; simp only [vcOp, he, Bool.false_eq_true, if_false] at hp; exact hp
  | store t x y => cases he
  | makeMap t r => cases he
  | lookup t x i ok => cases he
  | mapUpdate t x i y => cases he
  | call c =>
    simp only at he
    simp only [vcOp] at hp
    split at hp
    · rename_i f hc; rw [hc] at he; cases he
    · rename_i r name hc; rw [hc] at he; cases he
    · rename_i hc; rw [hc] at he; cases he
    · rename_i hc; rw [hc] at he; cases he
    · exact hp
  | makeFunc f x c => cases f <;> exact hp
  | _ => exact hp

theorem Sim.tailStep (hΘ : Θ.ok P) (D : Drawn all m M) (hlo : loadsOK all m M ob 0 all = true) (s : Sim P Θ M all m N h0 tm0 ob pend K nm obs q ls vs hq φ w a) {o : Oper} (hi : all[m + q]? = some o) (hl : ls (m + q) = false)
    (hr : ∀ e ∈ o.after, Region.binds .any e = true → ls e.on = true) (next : Act → World → Prop) (Q : Exit → Act → World → Prop)
    (hn : ∀ φ' w' x hq' vs', Ext φ φ' → Keeps (own φ (Hc M all m h0 nm obs q ls hq)) w (own φ' hq') w' → Sim P Θ M all m N h0 tm0 ob pend K nm obs (q + 1) (fun j => ls j || j == m + q) vs' hq' φ' w' (a.put o.dst x) → next (a.put o.dst x) w') :
    o.guard = none ∧ o.wp P a w next Q := by
  have hil : m + q < all.length := (List.getElem?_eq_some_iff.1 hi).1
  have hall : ∀ i, i < m → alAt M all i = true → ls i = true := by
    intro i him hal
    by_cases hq0 : q = 0
    case neg => exact s.allocs hq0 i him hal
    have hilt : i < all.length := by omega
    have hio : all[i]? = some all[i] := List.getElem?_eq_getElem hilt
    have := D.alloc i (m + q) all[i] o (by omega) hio hi (by simpa [alAt, hio] using hal) (by omega)
    simp only [aft, List.any_eq_true] at this
    obtain ⟨e, he, he2⟩ := this
    simp only [Bool.and_eq_true, beq_iff_eq] at he2
    have := hr e (by simpa using he) he2.2
    rwa [he2.1] at this
  obtain ⟨tq, ht, hv⟩ := s.atTail hall
  have hdrop : all.drop (m + q) = o :: all.drop (m + q + 1) := by
    rw [List.drop_eq_getElem_cons hil]
    congr 1
    simpa [List.getElem?_eq_getElem hil] using hi
  rw [hdrop] at hv
  obtain ⟨hd, hg, hv⟩ := hv
  refine ⟨hg, ?_⟩
  have hev : ∀ y ∈ o.op.operands, VR φ (own φ (Hc M all m h0 nm obs q ls hq)) w (Par.ev tq y) (a.eval y) := by
    intro y hy
    have := s.ev D hi hl hr y hy
    cases y with
    | tmp t => simp only [Par.ev] at this ⊢; rw [ht t]; exact this
    | _ => exact this
  refine vcOp_run (M := M) (ρ := Par.ev tq) hΘ s.hr hev hv next Q ?_
  intro φ' h' w' x v e1 e2 e3 e4 hk
  obtain ⟨hobl, hk⟩ := hk
  have hpre : ∀ k, k ≤ m → txt all tm0 (fun j => if j = m + q then v else vs j) k = txt all tm0 vs k := fun k hk => txt_congr k fun j hj => if_neg (by omega)
  refine hn φ' w' x h' (fun j => if j = m + q then v else vs j) e1 e2 ?_
  have hH : Hc M all m h0 nm obs (q + 1) (fun j => ls j || j == m + q) h' = h' := by simp [Hc]
  refine ⟨by omega, ?_, closed_add hi hr s.closed, ?_, ?_, ?_, by rw [hH]; exact e3, ?_, fun h => by omega, ?_, ?_⟩
  · intro j hj hjl
    by_cases e : j = m + q
    · subst e; simp
    · have : (j == m + q) = false := by simpa using e
      rw [this, Bool.or_false, s.tl j hj hjl]
      omega
  · intro _ j hj ha'
    rw [hall j hj ha', Bool.true_or]
  · intro j hj h1 h2
    rw [hall j hj h1] at h2
    cases h2
  · intro j o' hj ho' hl'
    rw [Bool.or_eq_false_iff] at hl'
    rw [hH, hpre j (by omega)]
    rw [if_neg (by omega)]
    have hf := s.facts j o' hj ho' hl'.1
    cases hf with
    | skip hd ha j' want hg t ht htn hb hv => exact .skip hd ha j' want hg t ht htn hb hv
    | alloc hd ha hg hok hv hob => exact .alloc hd ha hg hok hv hob
    | pure hd' ha' hg' hp' =>
      cases hld : isLoad o'.op with
      | false => exact .pure hd' ha' hg' (pOp_noload hld hp')
      | true =>
        cases heff : effOp M o with
        | false =>
          rw [heff] at hobl
          simp only [Bool.false_eq_true, if_false] at hobl
          rw [hobl]
          exact .pure hd' ha' hg' hp'
        | true =>
          rw [heff] at hobl
          simp only [if_true] at hobl
          cases hob : ob.contains j with
          | true => exact s.pendf h' hobl j o' hj ho' hob hld
          | false =>
            have := loadsOK_spec all 0 hlo j o' ho' (by omega) hld (by rw [Nat.zero_add]; exact hob) o (by
              rw [List.mem_iff_getElem?]
              exact ⟨q, by rw [List.getElem?_drop]; exact hi⟩) heff
            rw [Nat.zero_add] at this
            simp only [aft, List.any_eq_true] at this
            obtain ⟨e, he, he2⟩ := this
            simp only [Bool.and_eq_true, beq_iff_eq] at he2
            have := hr e (by simpa using he) he2.2
            rw [he2.1, hl'.1] at this
            cases this
  · rw [hH]
    have T := ((s.tr.mono e1 e2).putA hd e4)
    refine ⟨T.defers, T.size, fun t => ?_⟩
    rw [cur_add D hi hl s.closed (vs' := fun j => if j = m + q then v else vs j) (fun j hj => if_neg hj) t, if_pos rfl]
    exact T.val t
  · intro _
    refine ⟨putA tq o.dst v, fun t => ?_, hk⟩
    have e5 : txt all tm0 (fun j => if j = m + q then v else vs j) (m + q) = txt all tm0 vs (m + q) := txt_congr _ fun j hj => if_neg (by omega)
    have e6 : txt all tm0 (fun j => if j = m + q then v else vs j) (m + (q + 1)) = putA (txt all tm0 vs (m + q)) o.dst v := by
      rw [← Nat.add_assoc]
      simp only [txt, cur, if_true] at e5 ⊢
      rw [e5]
      simp [dstOf, hi]
    rw [e6, get_putA, get_putA, ht t]
  · intro h hob' j o' hj ho' hc hld
    rw [hpre j (by omega)]
    rw [if_neg (by omega)]
    exact s.pendf h hob' j o' hj ho' hc hld
end steps

/-- How many have not run yet. -/
def todo (n : Nat) (ls : Nat → Bool) : Nat := ((List.range n).filter fun i => !ls i).length

theorem todo_add {n : Nat} {ls : Nat → Bool} {i : Nat} (hi : i < n) (hl : ls i = false) : todo n (fun j => ls j || j == i) < todo n ls := by
  have hsub : ((List.range n).filter fun j => !(ls j || j == i)) = ((List.range n).filter fun j => !ls j).filter fun j => !(j == i) := by
    rw [List.filter_filter]
    congr 1
    funext j
    cases ls j <;> cases (j == i) <;> rfl
  unfold todo
  rw [hsub]
  refine List.length_filter_lt_length_iff_exists.2 ⟨i, ?_, by simp⟩
  rw [List.mem_filter]
  exact ⟨List.mem_range.2 hi, by simp [hl]⟩

theorem todo_zero {n : Nat} {ls : Nat → Bool} (h : todo n ls = 0) : ∀ i, i < n → ls i = true := by
  intro i hi
  cases hl : ls i with
  | true => rfl
  | false =>
    have := List.eq_nil_of_length_eq_zero h
    have h2 : i ∈ ((List.range n).filter fun i => !ls i) := List.mem_filter.2 ⟨List.mem_range.2 hi, by simp [hl]⟩
    rw [this] at h2
    cases h2

theorem draw_any {P : Program} {Θ : Types} {M : List Nat} (hΘ : Θ.ok P) {ops : Array Oper} {m N : Nat} {ob : List Nat} {pend : Pend} {K : St → Prop} {Q : Exit → St → Prop} (hK : ∀ S, K S → Q .normal S) (D : Drawn ops.toList m M) (hlo : loadsOK ops.toList m M ob 0 ops.toList = true)
    {h0 : Heap} {tm0 : Tm} {φ0 : Names} {w0 : World} {nm : Nat → Nat} {obs : Nat → Ob} (hn0 : ∀ i, i < m → alAt M ops.toList i = true → h0 (nm i) = none) (hinj : ∀ i j, i < m → j < m → nm i = nm j → i = j) (hφ0 : ∀ i, i < m → φ0 (nm i) = none) : ∀ (fuel : Nat) (listed : Array Bool) (q : Nat) (ls : Nat → Bool) (vs : Nat → AV) (hq : Heap) (φ : Names) (w : World) (a : Act),
      Sim P Θ M ops.toList m N h0 tm0 ob pend K nm obs q ls vs hq φ w a → listed.size = ops.size → (∀ i, i < ops.size → listed.getD i false = ls i) → (∀ i, ops.size ≤ i → ls i = false) → todo ops.size ls ≤ fuel →
      Ext φ0 φ → Keeps (own φ0 h0) w0 (own φ (Hc M ops.toList m h0 nm obs q ls hq)) w → wpAny P .any ops (Lift φ0 h0 w0 N Q) fuel listed a w := by
  have hlen : ops.toList.length = ops.size := by simp
  -- when nothing is ready, all has run
  have fin : ∀ (listed : Array Bool) (q : Nat) (ls : Nat → Bool) (vs : Nat → AV) (hq : Heap) (φ : Names) (w : World) (a : Act),
      Sim P Θ M ops.toList m N h0 tm0 ob pend K nm obs q ls vs hq φ w a → (∀ i, i < ops.size → ls i = true) →
      Ext φ0 φ → Keeps (own φ0 h0) w0 (own φ (Hc M ops.toList m h0 nm obs q ls hq)) w → Lift φ0 h0 w0 N Q .normal a w := by
    intro listed q ls vs hq φ w a s hall e1 e2
    obtain ⟨tq, ht, hv⟩ := s.atTail (fun i hi _ => hall i (by have := D.le; omega))
    have hqe : m + q = ops.toList.length := by
      rcases Nat.lt_or_ge (m + q) ops.toList.length with h | h
      · have := (s.tl (m + q) (by omega) h).1 (hall _ (by omega))
        omega
      · have := s.qle; omega
    rw [hqe, List.drop_length] at hv
    refine ⟨φ, ⟨N, tq, _⟩, e1, e2, s.hr, rfl, ⟨s.tr.defers, s.tr.size, fun t => ?_⟩, hK _ hv⟩
    have := s.tr.val t
    have e3 : get (cur ops.toList tm0 ls vs ops.toList.length) t = get tq t := by
      rw [ht t, hqe]
      exact cur_agree _ fun j hj _ => ⟨hall j (by omega), fun _ => rfl⟩
    rw [e3] at this
    exact this
  intro fuel
  induction fuel with
  | zero =>
    intro listed q ls vs hq φ w a s hsz hls hout htodo e1 e2
    have hall := todo_zero (Nat.le_zero.1 htodo)
    refine ⟨?_, fin listed q ls vs hq φ w a s hall e1 e2⟩
    unfold Region.ready
    rw [List.filter_eq_nil_iff]
    intro i hi
    have hi' : i < ops.size := List.mem_range.1 hi
    have h1 := hls i hi'
    rw [hall i hi'] at h1
    have : listed.getD i true = true := by
      have hl : i < listed.size := by omega
      simp [hl] at h1 ⊢
      exact h1
    simp [this]
  | succ fuel ih =>
    intro listed q ls vs hq φ w a s hsz hls hout htodo e1 e2
    have hready : ∀ i, i ∈ Region.ready .any ops listed ↔ i < ops.size ∧ ls i = false ∧ ∃ o, ops[i]? = some o ∧ ∀ e ∈ o.after, Region.binds .any e = true → ls e.on = true := by
      intro i
      rw [mem_ready]
      have conv : ∀ j, listed.getD j false = true ↔ ls j = true := by
        intro j
        rcases Nat.lt_or_ge j ops.size with h | h
        · rw [hls j h]
        · rw [hout j h]
          simp [Array.getElem?_eq_none (show listed.size ≤ j by omega)]
      constructor
      · rintro ⟨h1, o, ho, h2⟩
        have hil : i < ops.size := (Array.getElem?_eq_some_iff.1 ho).1
        refine ⟨hil, ?_, o, ho, fun e he hb => (conv e.on).1 (h2 e he hb)⟩
        have hl : i < listed.size := by omega
        rw [← hls i hil]
        simp [hl] at h1 ⊢
        exact h1
      · rintro ⟨hil, h1, o, ho, h2⟩
        refine ⟨?_, o, ho, fun e he hb => (conv e.on).2 (h2 e he hb)⟩
        have hl : i < listed.size := by omega
        rw [← hls i hil] at h1
        simp [hl] at h1 ⊢
        exact h1
    refine ⟨fun hnil => ?_, fun i hi => ?_⟩
    · refine fin listed q ls vs hq φ w a s ?_ e1 e2
      -- the first that has not run would be ready
      intro i
      induction i using Nat.strongRecOn with
      | _ i ihi =>
        intro hil
        cases hl : ls i with
        | true => rfl
        | false =>
          have : i ∈ Region.ready .any ops listed := by
            rw [hready]
            have hio : ops[i]? = some ops[i] := Array.getElem?_eq_getElem hil
            refine ⟨hil, hl, ops[i], hio, fun e he hb => ?_⟩
            have := D.edge i ops[i] (by simp) e he hb
            exact ihi e.on this (by omega)
          rw [hnil] at this
          cases this
    · rw [hready] at hi
      obtain ⟨hil, hl, o, ho, hr⟩ := hi
      have ho' : ops.toList[i]? = some o := by simpa using ho
      have hlist : ∀ j, j < ops.size → (listed.setIfInBounds i true).getD j false = (ls j || j == i) := by
        intro j hj
        by_cases e : j = i
        · subst e
          have hl2 : j < listed.size := by omega
          simp [hl2]
        · rw [getD_set_ne false (Ne.symm e), hls j hj]
          have : (j == i) = false := by simpa using e
          rw [this, Bool.or_false]
      have hout' : ∀ j, ops.size ≤ j → (ls j || j == i) = false := by
        intro j hj
        rw [hout j hj]
        simp
        omega
      have htodo' : todo ops.size (fun j => ls j || j == i) ≤ fuel := by
        have := todo_add hil hl
        omega
      unfold wpOp
      simp only [ho]
      by_cases him : i < m
      · have hf := s.facts i o him ho' hl
        cases hf with
        | pure hd ha hg hp =>
          have hwant : Region.wanted o (yielded ops a.tmps) = true := by
            cases hgd : o.guard with
            | none => simp [Region.wanted, hgd]
            | some jw =>
              obtain ⟨j, want⟩ := jw
              obtain ⟨t, ht, htn, hb⟩ := hg j want hgd
              have hlk : t ∈ looks ops.toList o := by
                unfold looks
                rw [hgd]
                exact List.mem_append_right _ (by simp [ht])
              have h1 := s.look D ho' hl hr hlk
              rw [hb] at h1
              have := yielded_of (ops := ops) s.tr ht h1 htn
              simp [Region.wanted, hgd, this]
          rw [if_pos hwant]
          left
          have hev : ∀ y ∈ o.op.operands, VR φ (own φ (Hc M ops.toList m h0 nm obs q ls hq)) w (ev (txt ops.toList tm0 vs i) y) (a.eval y) := s.ev D ho' hl hr
          refine pOp_run hΘ s.hr hev hp _ _ ?_
          intro φ' w' x f1 f2 f3 f4
          obtain ⟨s', hH⟩ := s.pre D ho' him hl hr hd ha f1 f2 f3 f4
          exact ih _ q _ vs hq φ' w' _ s' (by simp [hsz]) hlist hout' htodo' (e1.trans f1) (by rw [hH]; exact e2.trans f2)
        | skip hd ha j want hgd t ht htn hb hv =>
          have hlk : t ∈ looks ops.toList o := by
            unfold looks
            rw [hgd]
            exact List.mem_append_right _ (by simp [ht])
          have h1 := s.look D ho' hl hr hlk
          have hwant : Region.wanted o (yielded ops a.tmps) = false := by
            rcases hb with hb | ⟨cs, hb⟩
            · rw [hb] at h1
              have hy := yielded_of (ops := ops) s.tr ht h1 htn
              simp [Region.wanted, hgd, hy]
            · rw [hb] at h1
              have hy := yielded_none (ops := ops) s.tr ht h1 htn
              simp [Region.wanted, hgd, hy]
          rw [if_neg (by simp [hwant])]
          obtain ⟨s', hH⟩ := s.pre D ho' him hl hr hd ha (Ext.refl φ) (Keeps.refl _ w) s.hr (x := undef) (by rw [hv]; exact VR.und _ _ _)
          exact ih _ q _ vs hq φ w _ s' (by simp [hsz]) hlist hout' htodo' e1 (by rw [hH]; exact e2)
        | alloc hd ha hg hok hv hob =>
          rw [if_pos (by simp [Region.wanted, hg])]
          left
          obtain ⟨w', X, l, hrun, hnew⟩ := mk_run hΘ s.hr ha hok (s.ev D ho' hl hr)
          rw [← hob] at hnew
          obtain ⟨s', f2⟩ := s.alloc D hn0 hinj ho' him hl hr hd ha (w' := w') (X := X) (l := l) (fun h1 h2 => by rw [hv]; exact hnew (nm i) h1 h2)
          unfold Oper.wp
          rw [hrun]
          exact ih _ q _ vs hq _ _ _ s' (by simp [hsz]) hlist hout' htodo' (fun o' l' h => by
            have hne : o' ≠ nm i := by rintro rfl; rw [hφ0 i him] at h; cases h
            rw [bind1_ne _ _ hne]
            exact e1 o' l' h) (e2.trans f2)
      · have hiq : i = m + q := by
          rcases Nat.lt_trichotomy i (m + q) with h | h | h
          · have := (s.tl i (by omega) (by omega)).2 h
            rw [hl] at this
            cases this
          · exact h
          · have hlt : m + q < ops.toList.length := by omega
            obtain ⟨i', rfl⟩ : ∃ i', i = i' + 1 := ⟨i - 1, by omega⟩
            have hlt' : i' < ops.toList.length := by omega
            have hqo : ops.toList[i']? = some ops.toList[i'] := List.getElem?_eq_getElem hlt'
            have := D.tail i' (i' + 1) ops.toList[i'] o (by omega) hqo ho' (by omega) rfl
            simp only [aft, List.any_eq_true] at this
            obtain ⟨e, he, he2⟩ := this
            simp only [Bool.and_eq_true, beq_iff_eq] at he2
            have := hr e (by simpa using he) he2.2
            rw [he2.1] at this
            have := (s.tl i' (by omega) hlt').1 this
            omega
        subst hiq
        have step := fun next Q hn => s.tailStep hΘ D hlo ho' hl hr next Q hn
        obtain ⟨hg, hwp⟩ := step (wpAny P .any ops (Lift φ0 h0 w0 N Q) fuel (listed.setIfInBounds (m + q) true)) (Lift φ0 h0 w0 N Q) (by
          intro φ' w' x hq' vs' f1 f2 s'
          refine ih _ (q + 1) _ vs' hq' φ' w' _ s' (by simp [hsz]) hlist hout' htodo' (e1.trans f1) ?_
          have : Hc M ops.toList m h0 nm obs (q + 1) (fun j => ls j || j == m + q) hq' = hq' := by simp [Hc]
          rw [this]
          exact e2.trans f2)
        rw [if_pos (by simp [Region.wanted, hg])]
        exact .inl hwp

/-- Names kept for objects to come. -/
def keep (φ : Names) (F m : Nat) : Names := fun o => if F ≤ o ∧ o < F + m then some .res else φ o

theorem draw_all {P : Program} {Θ : Types} (M : List Nat) (m : Nat) (ob : List Nat) (hΘ : Θ.ok P) {ops : Array Oper} {Q : Exit → St → Prop} {S : St}
    (hok : drawOK ops.toList m M = true) (hlo : loadsOK ops.toList m M ob 0 ops.toList = true) (h : vcDraw P Θ M ops.toList m ob (Q .normal) S) {φ : Names} {w : World} {a : Act} (H : HR φ w S.h) (T : TR φ (own φ S.h) w S.n S.tm a) :
    wpAny P .any ops (Lift φ S.h w S.n Q) ops.size (Array.replicate ops.size false) a { w with drawn := w.drawn + 1 } := by
  have D := drawOK_spec hok
  obtain ⟨F, hF⟩ := H.free
  have hFh : ∀ o, F ≤ o → S.h o = none := by
    intro o ho
    cases hx : S.h o with
    | none => rfl
    | some x =>
      obtain ⟨l, hl, _⟩ := H.ob o x hx
      rw [hF o ho] at hl
      cases hl
  obtain ⟨vs, obs, pend, f1, f2, f3⟩ := vcPre_resolve (nm := fun i => F + i) (fun i _ _ => hFh _ (by omega)) (fun i j _ _ e => by omega) (ops.toList.take m) 0 (fun _ => .any) (fun _ => ⟨[], 0, 0, false⟩) [] rfl (by simp; have := D.le; simp at this; omega) D.le (fun j _ hj => by omega) (fun _ _ j _ hj => by omega) h
  have hkept : ∀ o x, S.h o = some x → keep φ F m o = φ o := by
    intro o x hx
    unfold keep
    rw [if_neg]
    rintro ⟨h1, _⟩
    rw [hFh o h1] at hx
    cases hx
  have hext : Ext φ (keep φ F m) := by
    intro o l ho
    unfold keep
    rw [if_neg]
    · exact ho
    · rintro ⟨h1, _⟩
      rw [hF o h1] at ho
      cases ho
  have hown : ∀ b, own (keep φ F m) S.h b ↔ own φ S.h b := by
    intro b
    constructor
    · rintro ⟨o, c, h1, h2⟩
      obtain ⟨x, hx⟩ := Option.isSome_iff_exists.1 h1
      exact ⟨o, c, h1, h2.congr (hkept o x hx).symm⟩
    · rintro ⟨o, c, h1, h2⟩
      exact ⟨o, c, h1, h2.mono hext.w⟩
  have hkp0 : Keeps (own φ S.h) w (own (keep φ F m) S.h) w := Keeps.less w fun b hb => (hown b).1 hb
  have H0 : HR (keep φ F m) w S.h := by
    refine ⟨fun o x hx => ?_, fun o o' b c c' h1 h2 e1 e2 => ?_, ⟨F + m, fun o ho => ?_⟩⟩
    · obtain ⟨l, hl, hr⟩ := H.ob o x hx
      refine ⟨l, hext _ _ hl, ?_⟩
      cases l with
      | nil => exact hr
      | res => exact hr.elim
      | blk b cap =>
        obtain ⟨cur, k1, k2, k3, k4, k5⟩ := hr
        exact ⟨cur, k1, k2, k3, k4, fun j u hu => (k5 j u hu).mono hext hkp0⟩
      | mp b => exact hr.weakM hext hkp0
    · obtain ⟨x, hx⟩ := Option.isSome_iff_exists.1 h1
      obtain ⟨x', hx'⟩ := Option.isSome_iff_exists.1 h2
      exact H.inj o o' b c c' h1 h2 (e1.congr (hkept o x hx).symm) (e2.congr (hkept o' x' hx').symm)
    · unfold keep
      rw [if_neg (by omega)]
      exact hF o (by omega)
  have T0 : TR (keep φ F m) (own (keep φ F m) S.h) w S.n S.tm a := T.mono hext hkp0
  have hdr : HR (keep φ F m) { w with drawn := w.drawn + 1 } S.h := H0.same (Nat.le_refl _) (fun _ _ => rfl) rfl rfl rfl
  have hkp : Keeps (own (keep φ F m) S.h) w (own (keep φ F m) S.h) { w with drawn := w.drawn + 1 } := ⟨rfl, rfl, rfl, Nat.le_refl _, fun _ _ hB => ⟨hB, rfl⟩⟩
  have hH : Hc M ops.toList m S.h (fun i => F + i) obs 0 (fun _ => false) S.h = S.h := by
    simp only [Hc, if_true]
    have : ∀ k, hpA M ops.toList (fun i => F + i) obs S.h (fun _ => false) k = S.h := by
      intro k
      induction k with
      | zero => rfl
      | succ k ih => simp only [hpA, ih, Bool.false_and, Bool.false_eq_true, if_false]
    exact this m
  have hcur : ∀ k, cur ops.toList S.tm (fun _ => false) vs k = S.tm := by
    intro k
    induction k with
    | zero => rfl
    | succ k ih => simp [cur, ih]
  refine draw_any (m := m) (ob := ob) (pend := pend) (K := Q .normal) hΘ (fun _ q => q) D hlo (nm := fun i => F + i) (obs := obs) (h0 := S.h) (φ0 := φ) (fun i _ _ => hFh _ (by omega)) (fun i j _ _ e => by omega) (fun i _ => hF _ (by omega)) ops.size (Array.replicate ops.size false) 0 (fun _ => false) vs S.h (keep φ F m) _ a
    ⟨by have := D.le; omega, fun i hi _ => by simp; omega, fun _ _ _ h => (by cases h), fun h => absurd rfl h, fun i hi _ _ => ?_, ?_, by rw [hH]; exact hdr, ?_, fun _ => f3, fun h => absurd rfl h, f2⟩ (by simp) (fun i hi => by simp [hi]) (fun _ _ => rfl) ?_ hext (by rw [hH]; exact hkp0.trans hkp)
  · unfold keep; rw [if_pos (by omega)]
  · intro i o hi ho _
    rw [hH]
    exact f1 i o hi ho
  · rw [hH, hcur]
    exact T0.mono (Ext.refl _) hkp
  · unfold todo
    have := List.length_filter_le (fun i => !(fun _ : Nat => false) i) (List.range ops.size)
    rw [List.length_range] at this
    exact this


theorem AW.draw {P : Program} {Θ : Types} (M : List Nat) (m : Nat) (ob : List Nat) (hΘ : Θ.ok P) {ops : Array Oper} {id : Nat} {Q : Exit → St → Prop} {S : St} (hm : P.follows .mixedOrders = true)
    (hok : drawOK ops.toList m M = true) (hlo : loadsOK ops.toList m M ob 0 ops.toList = true) (h : vcDraw P Θ M ops.toList m ob (Q .normal) S) : AW P (.region id ops true) Q S :=
  fun _ _ _ H T => wp_region_any hm (draw_all M m ob hΘ hok hlo h H T)

end Go.Par
