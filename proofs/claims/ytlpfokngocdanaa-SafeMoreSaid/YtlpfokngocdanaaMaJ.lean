/- What operations do that make objects, write them, or call. -/
import Derived.Test.YtlpfokngocdanaaMaI
set_option linter.unusedSimpArgs false
namespace Go.Par

def allOne (cs : List AV) : Prop := ∀ u ∈ cs, u.one = true

def listA : AV → Option (List AV)
  | .nils => some []
  | .ro _ ys => some ys
  | _ => none

def appendA (e : TypeId) (d : TD) (h : Heap) (s : AV) (ys : List AV) (K : AV → Heap → Prop) : Prop :=
  (0 < d.size ∧ d.zero.cells.size = d.size ∧ ∀ y ∈ ys, y.flat.length = d.size ∧ allOne y.flat) ∧
  match s with
  | .nils =>
    match ys with
    | [] => K .nils h
    | y :: ys => ((ys.length + 1) * d.bytes ≤ 140737488355328 ∧ ys.length < 140737488355328) ∧
      ∀ n, h n = none → K (.mu n (ys.length + 1)) (upd h n (some ⟨(y :: ys).flatMap AV.flat, e, d.size, true⟩))
  | .mu o n =>
    match h o with
    | some x => (x.ty = e ∧ x.sz = d.size ∧ n * d.size ≤ x.cells.length ∧ (n + ys.length) * d.bytes ≤ 140737488355328 ∧ n + ys.length ≤ 140737488355328) ∧
      ∀ n', h n' = none → K (.mu n' (n + ys.length)) (upd (upd h o none) n' (some ⟨x.cells.take (n * d.size) ++ ys.flatMap AV.flat, e, d.size, x.nn || !ys.isEmpty⟩))
    | none => False
  | _ => False

def newA (h : Heap) (t : TypeId) (x : AV) (K : AV → Heap → Prop) : Prop :=
  (x.known = true ∧ 0 < x.flat.length) ∧ ∀ n, h n = none → K (.ptr n 0) (upd h n (some ⟨x.flat, t, x.flat.length, true⟩))

/-- How a method of what lies behind an interface is found: the function, and the type of what the pointer points to, if the method wants that. -/
def Meth (P : Program) (t : TypeId) (name : String) (f : FuncId) (e : Option TypeId) : Prop :=
  ∀ a w, (method (P.types.size + Made.depth) t (.pointer (some a)) name).run P w = (match e with | none => .ok (f, .pointer (some a)) w | some e => ((loadVar e a).run P w).andThen fun v w => .ok (f, v) w)

def recvA (Θ : Types) (h : Heap) (e : Option TypeId) (u : AV) (k : AV → Prop) : Prop :=
  match u with
  | .ptr o off => match e with | none => k (.ptr o off) | some t => match h o with | some ob => loadA Θ t (ob.cells.drop off) k | none => False
  | _ => False

def vcOp (P : Program) (Θ : Types) (M : List Nat) (ρ : Operand → AV) (h : Heap) (dst : Option Nat) (o : Op) (K : AV → Heap → Prop) : Prop :=
  match o with
  | .box t x => if dst.any M.contains then newA h t (ρ x) K else pOp P Θ ρ h (.box t x) fun v => K v h
  | .alloc t => if dst.any M.contains then (match Θ t with | some d => newA h t (absV d.zero) K | none => False) else pOp P Θ ρ h (.alloc t) fun v => K v h
  | .makeSlice t l c =>
    if dst.any M.contains then
      match Θ t, ρ l, ρ c with
      | some ⟨.slice e, _, _, _⟩, .int _ n, .int _ m =>
        match Θ e with
        | some d => (n = m ∧ 0 ≤ n ∧ (d.bytes : Int) * n ≤ 140737488355328 ∧ n ≤ 140737488355328 ∧ (absV d.zero).known = true ∧ (absV d.zero).flat.length = d.size) ∧
          ∀ b, h b = none → K (.mu b n.toNat) (upd h b (some ⟨(List.replicate n.toNat (absV d.zero)).flatMap AV.flat, e, d.size, true⟩))
        | none => False
      | _, _, _ => False
    else pOp P Θ ρ h (.makeSlice t l c) fun v => K v h
  | .buildSlice t n parts =>
    if dst.any M.contains then
      match Θ t with
      | some ⟨.slice e, _, _, _⟩ =>
        match Θ e with
        | some d => (parts.toList.map Prod.fst = List.range n ∧ n * d.size ≤ 16777216 ∧ n ≤ 16777216 ∧ ∀ p ∈ parts.toList, (ρ p.2).known = true ∧ (ρ p.2).flat.length = d.size) ∧
          ∀ b, h b = none → K (.mu b n) (upd h b (some ⟨(parts.toList.map fun p => ρ p.2).flatMap AV.flat, e, d.size, true⟩))
        | none => False
      | _ => False
    else pOp P Θ ρ h (.buildSlice t n parts) fun v => K v h
  | .store t x y =>
    match ρ x with
    | .ptr o off =>
      match h o, Θ t with
      | some ob, some d => ((ρ y).known = true ∧ (ρ y).flat.length = d.size ∧ allOne (ρ y).flat ∧ off + d.size ≤ ob.cells.length) ∧
        K .any (upd h o (some ⟨setAt ob.cells off (ρ y).flat, ob.ty, ob.sz, ob.nn⟩))
      | _, _ => False
    | _ => False
  | .call c =>
    match c.callee with
    | .value f => match ρ f with | .clo f cap => AC P f (c.args.toList.map ρ ++ cap) h K | .bnd f first => AC P f (first ++ c.args.toList.map ρ) h K | _ => False
    | .invoke r name => match ρ r with | .ifc t u => ∃ f e, Meth P t name f e ∧ recvA Θ h e u fun v => AC P f (v :: c.args.toList.map ρ) h K | _ => False
    | .builtin .append =>
      match c.args.toList, c.argTypes.toList with
      | [s, y], [t, t'] => t' = t ∧
        match Θ t, listA (ρ y) with
        | some ⟨.slice e, _, _, _⟩, some ys => match Θ e with | some d => appendA e d h (ρ s) ys K | none => False
        | _, _ => False
      | _, _ => False
    | _ => pOp P Θ ρ h (.call c) fun v => K v h
  | o => pOp P Θ ρ h o fun v => K v h

def VcRun (P : Program) (o : Oper) (φ : Names) (h : Heap) (w : World) (a : Act) (K : AV → Heap → Prop) : Prop :=
  ∀ (next : Act → World → Prop) (Q : Exit → Act → World → Prop),
    (∀ φ' h' w' x v, Ext φ φ' → Keeps (own φ h) w (own φ' h') w' → HR φ' w' h' → VR φ' (own φ' h') w' v x → K v h' → next (a.put o.dst x) w') → o.wp P a w next Q

section runs
variable {P : Program} {Θ : Types} {M : List Nat} {o : Oper} {φ : Names} {h : Heap} {w : World} {a : Act} {ρ : Operand → AV} {K : AV → Heap → Prop}

theorem VcRun.pure (hΘ : Θ.ok P) (H : HR φ w h) (hx : ∀ y ∈ o.op.operands, VR φ (own φ h) w (ρ y) (a.eval y)) (hp : pOp P Θ ρ h o.op fun v => K v h) : VcRun P o φ h w a K := by
  obtain ⟨v, hk, hv⟩ := pOp_val hp
  intro next Q hn
  exact pOp_run hΘ H hx hv next Q fun φ' w' x h1 h2 h3 h4 => hn φ' h w' x v h1 h2 h3 h4 hk

theorem VcRun.new (H : HR φ w h) {t : TypeId} {x : AV} {X : Value} (hX : VR φ (own φ h) w x X) (hr : (execOp a.eval o).run P w = .ok (.value (.pointer (some ⟨w.heap.size, 0, none⟩))) (w.alloc (.cells X.cells t)))
    (hp : newA h t x K) : VcRun P o φ h w a K := by
  obtain ⟨⟨hk, h0⟩, hp⟩ := hp
  obtain ⟨n, hφ, hn⟩ := H.fresh
  have hf := hX.flat hk
  obtain ⟨H', hkeep⟩ := H.new (w' := w.alloc (.cells X.cells t)) hφ hn ⟨x.flat, t, x.flat.length, true⟩ X.cells 1 ⟨w.drawn, rfl⟩ (by simp [hf.1]) (by simp [maxLen]) (by simp [hf.1]) hf.2
  intro next Q hnx
  unfold Oper.wp
  rw [hr]
  exact hnx _ _ _ _ _ (Ext.bind1 hφ _) hkeep H' (.ptr n 0 w.heap.size 1 (bind1_same _ _ _)) (hp n hn)

theorem VcRun.store (hΘ : Θ.ok P) (H : HR φ w h) {t : TypeId} {x y : Operand} (ho : o.op = .store t x y) (hx : VR φ (own φ h) w (ρ x) (a.eval x)) (hy : VR φ (own φ h) w (ρ y) (a.eval y))
    (hp : vcOp P Θ M ρ h o.dst (.store t x y) K) : VcRun P o φ h w a K := by
  simp only [vcOp] at hp
  split at hp
  · rename_i ob off e
    rw [e] at hx
    generalize hq : a.eval x = V at hx
    split at hp
    · rename_i x' d hob hd
      obtain ⟨⟨hk, hl, h1, hle⟩, hK⟩ := hp
      have ok := hΘ t d hd
      have hf := hy.flat hk
      cases hx with
      | ptr _ _ b cap hl' =>
        obtain ⟨l, hl2, hr⟩ := H.ob _ _ hob
        rw [hl'] at hl2
        cases hl2
        obtain ⟨cur, k1, k2, k3, k4, k5⟩ := hr
        have hst := run_storeCells_at P b off x'.ty (a.eval y).cells.toList 0 cur w k1 (by have := hf.1; simp; omega) (by
          intro v hv
          obtain ⟨j, hj⟩ := List.getElem?_of_mem hv
          have hjl : j < (ρ y).flat.length := by rw [hf.1]; simpa using (List.getElem?_eq_some_iff.1 hj).1
          have h2 := hf.2 j _ (List.getElem?_eq_getElem hjl)
          have e2 : (a.eval y).cells.getD j undef = v := by simpa using congrArg (·.getD undef) hj
          rw [e2] at h2
          exact h2.oneCell (h1 _ (List.getElem_mem hjl)))
        have hlen : (a.eval y).cells.toList.length = d.size := by rw [← hl, hf.1]; simp
        obtain ⟨H', hkeep⟩ := H.write hob hl' (cur' := (cur.toList.take (off + 0) ++ (a.eval y).cells.toList ++ cur.toList.drop (off + 0 + (a.eval y).cells.toList.length)).toArray) k1 (by
          simp only [List.size_toArray, List.length_append, List.length_take, List.length_drop, Array.length_toList] at hlen ⊢
          omega) k2 k3 (setAt x'.cells off (ρ y).flat) (by rw [setAt_length]; exact k4) x'.nn (by
          intro j u hu
          have hj := (List.getElem?_eq_some_iff.1 hu).1
          rw [setAt_length] at hj
          rw [setAt_get _ _ _ _ (by omega)] at hu
          have hcj : j < cur.size := by omega
          have hsz : (a.eval y).cells.size = d.size := by simpa using hlen
          by_cases hc : off ≤ j ∧ j < off + (ρ y).flat.length
          · rw [if_pos hc] at hu
            have := hf.2 _ _ hu
            have e3 : ((cur.toList.take (off + 0) ++ (a.eval y).cells.toList ++ cur.toList.drop (off + 0 + (a.eval y).cells.toList.length)).toArray).getD j undef = (a.eval y).cells.getD (j - off) undef := by
              have : j - off < (a.eval y).cells.size := by omega
              rw [List.append_assoc]
              simp [List.getElem?_append_right, List.getElem?_append_left, Nat.min_eq_left (show off ≤ cur.size by omega), hc.1, this, Array.getElem?_eq_getElem]
            rw [e3]
            exact this
          · rw [if_neg hc] at hu
            have := k5 _ _ hu
            have e3 : ((cur.toList.take (off + 0) ++ (a.eval y).cells.toList ++ cur.toList.drop (off + 0 + (a.eval y).cells.toList.length)).toArray).getD j undef = cur.getD j undef := by
              rw [List.append_assoc]
              by_cases hlt : j < off
              · simp [List.getElem?_append_left, hlt, hcj, Nat.min_eq_left (show off ≤ cur.size by omega)]
              · have e4 : j - off - (a.eval y).cells.size + (off + (a.eval y).cells.size) = j := by omega
                simp [List.getElem?_append_right, Nat.min_eq_left (show off ≤ cur.size by omega), (show off ≤ j by omega), (show (a.eval y).cells.size ≤ j - off by omega), List.getElem?_drop]
                congr 2
                omega
            rw [e3]
            exact this)
        intro next Q hnx
        unfold Oper.wp
        have hrun : (execOp a.eval o).run P w = .ok .skip (w.setRow b ((cur.toList.take (off + 0) ++ (a.eval y).cells.toList ++ cur.toList.drop (off + 0 + (a.eval y).cells.toList.length)).toArray)) := by
          have hne : ¬ ((a.eval y).cells.size ≠ d.size) := by simpa using hlen
          simp only [execOp, ho, hq, Instr.storeAt, Instr.sureAddr, Sem.run_bind, Sem.run_pure, Result.andThen_ok, storeVar, ok.sizeOf, if_neg hne, hst]
        rw [hrun, Oper.upon_skip]
        exact hnx φ _ _ undef .any (Ext.refl φ) hkeep H' (.any _) hK
    · exact hp.elim
  · exact hp.elim
end runs
end Go.Par
