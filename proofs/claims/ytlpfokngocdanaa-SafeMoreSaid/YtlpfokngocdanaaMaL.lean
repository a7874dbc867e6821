/- Each operation, and each region that runs in the order of its text. -/
import Derived.Test.YtlpfokngocdanaaMaK
set_option linter.unusedSimpArgs false
namespace Go.Par

section runs
variable {P : Program} {Θ : Types} {M : List Nat} {o : Oper} {φ : Names} {h : Heap} {w : World} {a : Act} {ρ : Operand → AV} {K : AV → Heap → Prop}

theorem VcRun.call (H : HR φ w h) {c : Call} {f : Operand} {g : FuncId} {cap : List AV} (ho : o.op = .call c) (hc : c.callee = .value f) (hx : ∀ y ∈ (Op.call c).operands, VR φ (own φ h) w (ρ y) (a.eval y))
    (e : ρ f = .clo g cap) (hp : AC P g (c.args.toList.map ρ ++ cap) h K) : VcRun P o φ h w a K := by
  have vf := hx f (by simp [Op.operands, Call.operands, hc])
  rw [e] at vf
  generalize hq : a.eval f = V at vf
  cases vf with
  | clo _ _ vs hl hv =>
    have hargs := VRs.map (ρ := ρ) c.args.toList a.eval (fun x hx' => hx x (by
      simp only [Op.operands, Call.operands, hc, Array.mem_append]
      exact .inr (by simpa using hx')))
    have hall := hargs.append (us' := cap) (vs' := vs) ⟨hl, hv⟩
    obtain ⟨h1, h2⟩ := hp
    have hcall := h2 φ w _ H hall
    rw [Array.toArray_toList] at hcall
    intro next Q hn
    unfold Oper.wp
    have hrun : (execOp a.eval o).run P w = .ok (.enter g (c.args.map a.eval ++ vs)) w := by
      simp [execOp, ho, resolve, hc, hq, Deferred.ofValue, invoke, h1 _ _]
    rw [hrun, Oper.upon_enter]
    refine Calls.mono hcall ?_
    rintro e' w' ⟨φ', h', r', v', e1, e2, e3, e5, e4, e6⟩
    subst e5
    exact hn φ' h' w' v' r' e1 e2 e3 e4 e6

theorem VcRun.callB (H : HR φ w h) {c : Call} {f : Operand} {g : FuncId} {first : List AV} (ho : o.op = .call c) (hc : c.callee = .value f) (hx : ∀ y ∈ (Op.call c).operands, VR φ (own φ h) w (ρ y) (a.eval y))
    (e : ρ f = .bnd g first) (hp : AC P g (first ++ c.args.toList.map ρ) h K) : VcRun P o φ h w a K := by
  have vf := hx f (by simp [Op.operands, Call.operands, hc])
  rw [e] at vf
  generalize hq : a.eval f = V at vf
  cases vf with
  | bnd _ _ vs hl hv =>
    have hargs := VRs.map (ρ := ρ) c.args.toList a.eval (fun x hx' => hx x (by
      simp only [Op.operands, Call.operands, hc, Array.mem_append]
      exact .inr (by simpa using hx')))
    have hall := VRs.append (us := first) (vs := vs) ⟨hl, hv⟩ hargs
    obtain ⟨h1, h2⟩ := hp
    have hcall := h2 φ w _ H hall
    rw [Array.toArray_toList] at hcall
    intro next Q hn
    unfold Oper.wp
    have hrun : (execOp a.eval o).run P w = .ok (.enter g (vs ++ c.args.map a.eval)) w := by
      simp [execOp, ho, resolve, hc, hq, Deferred.ofValue, invoke, h1 _ _]
    rw [hrun, Oper.upon_enter]
    refine Calls.mono hcall ?_
    rintro e' w' ⟨φ', h', r', v', e1, e2, e3, e5, e4, e6⟩
    subst e5
    exact hn φ' h' w' v' r' e1 e2 e3 e4 e6

theorem recvA_run (hΘ : Θ.ok P) (H : HR φ w h) {t : TypeId} {name : String} {f : FuncId} {e : Option TypeId} (hm : Meth P t name f e) {u : AV} {U : Value} (hu : VR φ (own φ h) w u U) {k : AV → Prop} (hp : recvA Θ h e u k) :
    ∃ v V, k v ∧ VR φ (own φ h) w v V ∧ (method (P.types.size + Made.depth) t U name).run P w = .ok (f, V) w := by
  unfold recvA at hp
  split at hp
  · rename_i o off
    cases hu with
    | ptr _ _ b cap hl =>
      have hm' := hm ⟨b, off, none⟩ w
      split at hp
      · exact ⟨_, _, hp, .ptr o off b cap hl, hm'⟩
      · rename_i t'
        split at hp
        · rename_i ob hob
          obtain ⟨l, hl', hr⟩ := H.ob _ _ hob
          rw [hl] at hl'
          cases hl'
          obtain ⟨g, hg1, hg2⟩ := load_ob hr
          obtain ⟨v, hk, hv⟩ := loadA_val hp
          obtain ⟨y, h1, h2⟩ := loadVar_run (b := b) (off := off) (f := fun j => g (off + j)) hΘ (fun j u hu => hg1 (off + j) u (by rw [List.getElem?_drop] at hu; exact hu)) (fun j u hu => hg2 (off + j) u (by rw [List.getElem?_drop] at hu; exact hu)) hv
          refine ⟨v, y, hk, h2, ?_⟩
          rw [hm']
          simp only [h1, Result.andThen_ok]
        · exact hp.elim
  · exact hp.elim

theorem VcRun.invoke (hΘ : Θ.ok P) (H : HR φ w h) {c : Call} {r : Operand} {name : String} {t : TypeId} {u : AV} {f : FuncId} {e : Option TypeId} (ho : o.op = .call c) (hc : c.callee = .invoke r name) (hx : ∀ y ∈ (Op.call c).operands, VR φ (own φ h) w (ρ y) (a.eval y))
    (er : ρ r = .ifc t u) (hm : Meth P t name f e) (hp : recvA Θ h e u fun v => AC P f (v :: c.args.toList.map ρ) h K) : VcRun P o φ h w a K := by
  have vr := hx r (by simp [Op.operands, Call.operands, hc])
  rw [er] at vr
  generalize hq : a.eval r = V at vr
  cases vr with
  | ifc _ _ U hU =>
    obtain ⟨v, V, hk, hv, hrun⟩ := recvA_run hΘ H hm hU hp
    have hargs := VRs.map (ρ := ρ) c.args.toList a.eval (fun x hx' => hx x (by
      simp only [Op.operands, Call.operands, hc, Array.mem_append]
      exact .inr (by simpa using hx')))
    have hall := VRs.append (us := [v]) (vs := #[V]) ⟨rfl, fun j u hj => by
      match j with
      | 0 => simp at hj; subst hj; simpa using hv
      | j + 1 => simp at hj⟩ hargs
    obtain ⟨h1, h2⟩ := hk
    have hcall := h2 φ w _ H hall
    rw [Array.toArray_toList] at hcall
    intro next Q hn
    unfold Oper.wp
    have hrun : (execOp a.eval o).run P w = .ok (.enter f (#[V] ++ c.args.map a.eval)) w := by
      have e1 : (#[Value.iface t U] ++ c.args.map a.eval).extract 1 (1 + c.args.size) = c.args.map a.eval := by
        apply Array.ext'
        simp only [Array.toList_extract, Array.toList_append, Array.toList_map]
        simp [List.extract_eq_take_drop, List.take_of_length_le]
      have e0 : (#[Value.iface t U] ++ c.args.map a.eval)[0]? = some (.iface t U) := by
        rw [← Array.getElem?_toList]; simp
      simp [execOp, ho, resolve, hc, hq, Go.invoke, callMethod, hrun, h1 _ _, e1, e0]
    rw [hrun, Oper.upon_enter]
    refine Calls.mono hcall ?_
    rintro e' w' ⟨φ', h', r', v', e1, e2, e3, e5, e4, e6⟩
    subst e5
    exact hn φ' h' w' v' r' e1 e2 e3 e4 e6

theorem VcRun.makeSlice (hΘ : Θ.ok P) (H : HR φ w h) {t : TypeId} {l c : Operand} {e : TypeId} {sz bt : Nat} {z : Value} {k1 k2 : IntKind} {n : Int} {d : TD} (ho : o.op = .makeSlice t l c)
    (v1 : VR φ (own φ h) w (.int k1 n) (a.eval l)) (v2 : VR φ (own φ h) w (.int k2 n) (a.eval c)) (hd : Θ t = some ⟨.slice e, sz, bt, z⟩) (hde : Θ e = some d)
    (h0 : 0 ≤ n) (hb : (d.bytes : Int) * n ≤ 140737488355328) (hm : n ≤ 140737488355328) (hk : (absV d.zero).known = true) (hfl : (absV d.zero).flat.length = d.size)
    (hp : ∀ b, h b = none → K (.mu b n.toNat) (upd h b (some ⟨(List.replicate n.toNat (absV d.zero)).flatMap AV.flat, e, d.size, true⟩))) : VcRun P o φ h w a K := by
  have hu := (hΘ t _ hd).slice
  have ok := hΘ e d hde
  obtain ⟨i, hi, i1, i2, i3⟩ := ok.1
  have hz : VR φ (own φ h) w (absV d.zero) d.zero := absV_VR _ _ _ _
  have hzf := hz.flat hk
  have hr := run_make (P := P) w t e i d.zero hu hi i3 k1 k2 n n h0 (Int.le_refl _) (by rw [i2]; omega) (by omega)
  obtain ⟨b, hφ, hbn⟩ := H.fresh
  have hlen : ((List.replicate n.toNat (absV d.zero)).flatMap AV.flat).length = n.toNat * d.size := by
    rw [flat_len (s := d.size) (fun y hy => by rw [(List.mem_replicate.1 hy).2, hfl]), List.length_replicate]
  obtain ⟨H', hkeep⟩ := H.new (w' := w.alloc (.cells (madeCells d.zero.cells (n.toNat * i.size)) e)) hφ hbn ⟨(List.replicate n.toNat (absV d.zero)).flatMap AV.flat, e, d.size, true⟩ (madeCells d.zero.cells (n.toNat * i.size)) n.toNat ⟨w.drawn, rfl⟩
    (by rw [size_madeCells, i1]) (by simp [maxLen]; omega) (by rw [hlen, size_madeCells, i1]; exact Nat.le_refl _) (by
      intro j u hu
      simp only at hu
      rw [replicate_flat, hfl] at hu
      split at hu
      · rename_i hj
        have h2 := hzf.2 _ _ hu
        have e : (madeCells d.zero.cells (n.toNat * i.size)).getD j undef = d.zero.cells.getD (j % d.size) undef := by
          have hlt : j % d.size < d.zero.cells.size := by rw [← hzf.1, hfl]; exact Nat.mod_lt _ (by rcases Nat.eq_zero_or_pos d.size with h | h; (rw [h] at hj; omega); exact h)
          have hs : d.zero.cells.size = d.size := by rw [← hzf.1, hfl]
          simp [madeCells, i1, hj, hs, getElem!_def, Array.getElem?_eq_getElem hlt]
        rw [e]
        exact h2
      · cases hu)
  intro next Q hn
  unfold Oper.wp
  have hrun : (execOp a.eval o).run P w = .ok (.value (.slice (some ⟨w.heap.size, 0, none⟩) n.toNat n.toNat)) (w.alloc (.cells (madeCells d.zero.cells (n.toNat * i.size)) e)) := by
    simp [execOp, ho, v1.int_inv, v2.int_inv, hr]
  rw [hrun]
  exact hn _ _ _ _ _ (Ext.bind1 hφ _) hkeep H' (.mu b _ w.heap.size _ (bind1_same _ _ _) (Nat.le_refl _)) (hp b hbn)

theorem VcRun.buildSlice (hΘ : Θ.ok P) (H : HR φ w h) {t : TypeId} {n : Nat} {ps : Array (Nat × Operand)} {e : TypeId} {sz bt : Nat} {z : Value} {d : TD} (ho : o.op = .buildSlice t n ps) (hx : ∀ x ∈ (Op.buildSlice t n ps).operands, VR φ (own φ h) w (ρ x) (a.eval x))
    (hd : Θ t = some ⟨.slice e, sz, bt, z⟩) (hde : Θ e = some d) (hr : ps.toList.map Prod.fst = List.range n) (hle : n * d.size ≤ 16777216) (hm : n ≤ 16777216) (hk : ∀ p ∈ ps.toList, (ρ p.2).known = true ∧ (ρ p.2).flat.length = d.size)
    (hp : ∀ b, h b = none → K (.mu b n) (upd h b (some ⟨(ps.toList.map fun p => ρ p.2).flatMap AV.flat, e, d.size, true⟩))) : VcRun P o φ h w a K := by
  obtain ⟨xs', hrun, hlen, g1, g3, g2⟩ := buildSlice_core (h := h) hΘ hx hd hde hr hle hk
  obtain ⟨b, hφ, hbn⟩ := H.fresh
  obtain ⟨H', hkeep⟩ := H.new (w' := w.alloc (.cells xs' e)) hφ hbn ⟨(ps.toList.map fun p => ρ p.2).flatMap AV.flat, e, d.size, true⟩ xs' n ⟨w.drawn, rfl⟩ g3 (by simp [maxLen]; omega) (Nat.le_of_eq g1) g2
  intro next Q hn
  unfold Oper.wp
  have hr2 : (execOp a.eval o).run P w = .ok (.value (.slice (some ⟨w.heap.size, 0, none⟩) n n)) (w.alloc (.cells xs' e)) := by simp [execOp, ho, hrun]
  rw [hr2]
  exact hn _ _ _ _ _ (Ext.bind1 hφ _) hkeep H' (.mu b _ w.heap.size _ (bind1_same _ _ _) (Nat.le_refl _)) (hp b hbn)

theorem vcOp_run (hΘ : Θ.ok P) (H : HR φ w h) (hx : ∀ y ∈ o.op.operands, VR φ (own φ h) w (ρ y) (a.eval y)) (hp : vcOp P Θ M ρ h o.dst o.op K) : VcRun P o φ h w a K := by
  generalize ho : o.op = op at hx hp
  have pure : pOp P Θ ρ h op (fun v => K v h) → VcRun P o φ h w a K := fun q => VcRun.pure hΘ H (by rw [ho]; exact hx) (by rw [ho]; exact q)
  cases op with
  | box t x =>
    simp only [vcOp] at hp
    split at hp
    · exact VcRun.new H (hx x (by simp [Op.operands])) (by simp [execOp, ho, Instr.box, newVar, newRow]) hp
    · exact pure hp
  | alloc t =>
    simp only [vcOp] at hp
    split at hp
    · split at hp
      · rename_i d hd
        exact VcRun.new H (absV_VR _ _ _ d.zero) (by simp [execOp, ho, Instr.alloc, (hΘ t d hd).zero, newVar, newRow]) hp
      · exact hp.elim
    · exact pure hp
  | makeSlice t l c =>
    simp only [vcOp] at hp
    split at hp
    · split at hp
      · rename_i e _ _ _ k1 n k2 m hd e1 e2
        split at hp
        · rename_i d hde
          obtain ⟨⟨rfl, h0, hb, hm, hk, hfl⟩, hp⟩ := hp
          have v1 := hx l (by simp [Op.operands])
          have v2 := hx c (by simp [Op.operands])
          rw [e1] at v1
          rw [e2] at v2
          exact VcRun.makeSlice hΘ H ho v1 v2 hd hde h0 hb hm hk hfl hp
        · exact hp.elim
      · exact hp.elim
    · exact pure hp
  | buildSlice t n ps =>
    simp only [vcOp] at hp
    split at hp
    · split at hp
      · rename_i e _ _ _ hd
        split at hp
        · rename_i d hde
          obtain ⟨⟨h1, h2, h3, h4⟩, hp⟩ := hp
          exact VcRun.buildSlice hΘ H ho hx hd hde h1 h2 h3 h4 hp
        · exact hp.elim
      · exact hp.elim
    · exact pure hp
  | store t x y => exact VcRun.store (M := M) hΘ H ho (hx x (by simp [Op.operands])) (hx y (by simp [Op.operands])) hp
  | call c =>
    simp only [vcOp] at hp
    split at hp
    · rename_i f hc
      split at hp
      · rename_i g cap e
        exact VcRun.call H ho hc hx e hp
      · rename_i g first e
        exact VcRun.callB H ho hc hx e hp
      · exact hp.elim
    · rename_i r name hc
      split at hp
      · rename_i t u e
        obtain ⟨f, e', hm, hp⟩ := hp
        exact VcRun.invoke hΘ H ho hc hx e hm hp
      · exact hp.elim
    · rename_i hc
      split at hp
      · rename_i s y t t' ha ht
        obtain ⟨rfl, hp⟩ := hp
        have hca : c.args = #[s, y] := by rw [← Array.toArray_toList (xs := c.args), ha]
        have hct : c.argTypes = #[t', t'] := by rw [← Array.toArray_toList (xs := c.argTypes), ht]
        split at hp
        · rename_i e _ _ _ ys hd hl
          split at hp
          · rename_i d hde
            refine VcRun.append hΘ H ho hc hca hct hd hde (hx s ?_) (hx y ?_) hl hp <;> simp [Op.operands, Call.operands, hc, hca]
          · exact hp.elim
        · exact hp.elim
      · exact hp.elim
    · exact pure hp
  | _ => exact pure hp
end runs

def putA (tm : Tm) : Option Nat → AV → Tm
  | some d, v => (d, v) :: tm
  | none, _ => tm

def dstOf (all : List Oper) (j : Nat) : Option Nat := match all[j]? with | some o => o.dst | none => none

/-- A region in the order of its text. -/
def vcOps (P : Program) (Θ : Types) (M : List Nat) (all : List Oper) : List Oper → (St → Prop) → St → Prop
  | [], K, S => K S
  | o :: rest, K, S =>
    o.dst.all (· < S.n) = true ∧
    match o.guard with
    | none => vcOp P Θ M (ev S.tm) S.h o.dst o.op fun v h' => vcOps P Θ M all rest K ⟨S.n, putA S.tm o.dst v, h'⟩
    | some (j, want) =>
      match dstOf all j with
      | some t =>
        match get S.tm t with
        | .bool b => t < S.n ∧ if b = want then vcOp P Θ M (ev S.tm) S.h o.dst o.op fun v h' => vcOps P Θ M all rest K ⟨S.n, putA S.tm o.dst v, h'⟩
            else vcOps P Θ M all rest K ⟨S.n, putA S.tm o.dst (.tup []), S.h⟩
        | .tup _ => t < S.n ∧ vcOps P Θ M all rest K ⟨S.n, putA S.tm o.dst (.tup []), S.h⟩
        | _ => False
      | none => False

theorem TR.putA {φ : Names} {B : Nat → Prop} {w : World} {n : Nat} {tm : Tm} {a : Act} (h : TR φ B w n tm a) {d : Option Nat} (hd : d.all (· < n) = true) {u : AV} {v : Value} (hv : VR φ B w u v) : TR φ B w n (putA tm d u) (a.put d v) := by
  cases d with
  | none => exact h
  | some d => exact h.put (by simpa using hd) hv

theorem yielded_of {ops : Array Oper} {φ : Names} {B : Nat → Prop} {w : World} {n : Nat} {tm : Tm} {a : Act} (h : TR φ B w n tm a) {j t : Nat} {b : Bool} (hj : dstOf ops.toList j = some t) (ht : get tm t = .bool b) (hlt : t < n) : yielded ops a.tmps j = some b := by
  have hv := h.val t
  rw [ht] at hv
  have hb := hv.bool_inv
  have e : (ops[j]?).bind (·.dst) = some t := by
    unfold dstOf at hj
    simp only [Array.getElem?_toList] at hj
    cases hq : ops[j]? with
    | none => simp [hq] at hj
    | some o => simpa [hq] using hj
  have hs : t < a.tmps.size := by rw [h.size]; exact hlt
  have e2 : a.tmps[t]? = some (.bool b) := by
    rw [Array.getElem?_eq_getElem hs]
    simp [hs] at hb
    rw [hb]
  simp [yielded, e, e2]

theorem VR.und (φ : Names) (B : Nat → Prop) (w : World) : VR φ B w (.tup []) undef := .tup [] #[] rfl (fun j u h => by simp at h)

theorem yielded_none {ops : Array Oper} {φ : Names} {B : Nat → Prop} {w : World} {n : Nat} {tm : Tm} {a : Act} (h : TR φ B w n tm a) {j t : Nat} {cs : List AV} (hj : dstOf ops.toList j = some t) (ht : get tm t = .tup cs) (hlt : t < n) : yielded ops a.tmps j = none := by
  have hv := h.val t
  rw [ht] at hv
  have hb : ∃ vs, a.tmps.getD t undef = .tuple vs := by
    generalize a.tmps.getD t undef = v at hv
    cases hv with | tup _ vs _ _ => exact ⟨vs, rfl⟩
  obtain ⟨vs, hb⟩ := hb
  have e : (ops[j]?).bind (·.dst) = some t := by
    unfold dstOf at hj
    simp only [Array.getElem?_toList] at hj
    cases hq : ops[j]? with
    | none => simp [hq] at hj
    | some o => simpa [hq] using hj
  have hs : t < a.tmps.size := by rw [h.size]; exact hlt
  have e2 : a.tmps[t]? = some (.tuple vs) := by
    rw [Array.getElem?_eq_getElem hs]
    simp [hs] at hb
    rw [hb]
  simp [yielded, e, e2]

theorem vcOps_run {P : Program} {Θ : Types} {M : List Nat} (hΘ : Θ.ok P) {ops : Array Oper} {Q : Exit → St → Prop} : ∀ (l : List Oper) (S : St) (φ : Names) (w : World) (a : Act), HR φ w S.h → TR φ (own φ S.h) w S.n S.tm a →
    vcOps P Θ M ops.toList l (Q .normal) S → wpList P ops (Lift φ S.h w S.n Q) l a w := by
  intro l
  induction l with
  | nil => intro S φ w a H T hp; exact ⟨φ, S, Ext.refl φ, Keeps.refl _ w, H, rfl, T, hp⟩
  | cons o rest ih =>
    intro S φ w a H T hp
    obtain ⟨hd, hp⟩ := hp
    have step : vcOp P Θ M (ev S.tm) S.h o.dst o.op (fun v h' => vcOps P Θ M ops.toList rest (Q .normal) ⟨S.n, putA S.tm o.dst v, h'⟩) → o.wp P a w (wpList P ops (Lift φ S.h w S.n Q) rest) (Lift φ S.h w S.n Q) := by
      intro hv
      refine vcOp_run (ρ := ev S.tm) hΘ H (fun y _ => T.ev y) hv _ _ ?_
      intro φ' h' w' x v e1 e2 e3 e4 hk
      have T' : TR φ' (own φ' h') w' S.n (putA S.tm o.dst v) (a.put o.dst x) := (T.mono e1 e2).putA hd e4
      have := ih ⟨S.n, putA S.tm o.dst v, h'⟩ φ' w' _ e3 T' hk
      have mono : ∀ (l : List Oper) (a : Act) (W : World), wpList P ops (Lift φ' h' w' S.n Q) l a W → wpList P ops (Lift φ S.h w S.n Q) l a W := by
        intro l
        induction l with
        | nil => intro a W q; exact Lift.trans e1 e2 q
        | cons o l ihl =>
          intro a W q
          unfold wpList at q ⊢
          split
          · rename_i hw
            rw [if_pos hw] at q
            rcases q with q | ⟨q1, a0, w0, q2⟩
            · left
              unfold Oper.wp at q ⊢
              generalize (execOp a.eval o).run P W = r at q
              cases r with
              | ok n w1 =>
                cases n <;> simp only [Oper.upon] at q ⊢ <;> first
                  | exact ihl _ _ q
                  | (refine Calls.mono q ?_
                     intro e w2 hh
                     cases e with
                     | returned v => exact ihl _ _ hh
                     | panicked c => exact Lift.trans e1 e2 hh
                     | outgrown => obtain ⟨a0, w0, hh⟩ := hh; exact ⟨a0, w0, Lift.trans e1 e2 hh⟩)
                  | (refine Rows.mono q ?_
                     intro v w2 hh
                     exact ihl _ _ hh)
              | halt x w1 => cases x <;> simp only [Oper.upon] at q ⊢ <;> first | exact Lift.trans e1 e2 q
            · exact .inr ⟨q1, a0, w0, Lift.trans e1 e2 q2⟩
          · rename_i hw
            rw [if_neg hw] at q
            exact ihl _ _ q
      exact mono _ _ _ this
    have skip : vcOps P Θ M ops.toList rest (Q .normal) ⟨S.n, putA S.tm o.dst (.tup []), S.h⟩ → wpList P ops (Lift φ S.h w S.n Q) rest (a.put o.dst undef) w := by
      intro hv
      exact ih ⟨S.n, putA S.tm o.dst (.tup []), S.h⟩ φ w _ H (T.putA hd (VR.und _ _ _)) hv
    unfold wpList
    cases hg : o.guard with
    | none =>
      rw [hg] at hp
      rw [if_pos (by simp [Region.wanted, hg])]
      exact .inl (step hp)
    | some jw =>
      obtain ⟨j, want⟩ := jw
      rw [hg] at hp
      simp only at hp
      split at hp
      · rename_i t ht
        split at hp
        · rename_i b hb
          obtain ⟨hlt, hp⟩ := hp
          have hy := yielded_of T ht hb hlt
          by_cases hbw : b = want
          · rw [if_pos hbw] at hp
            rw [if_pos (by simp [Region.wanted, hg, hy, hbw])]
            exact .inl (step hp)
          · rw [if_neg hbw] at hp
            rw [if_neg (by simp [Region.wanted, hg, hy, hbw])]
            exact skip hp
        · rename_i cs hb
          obtain ⟨hlt, hp⟩ := hp
          have hy := yielded_none T ht hb hlt
          rw [if_neg (by simp [Region.wanted, hg, hy])]
          exact skip hp
        · exact hp.elim
      · exact hp.elim

end Go.Par
