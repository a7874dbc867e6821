/- Operations that leave all objects as they are: the one law of them all. -/
import Derived.Test.YtlpfokngocdanaaMaG
set_option linter.unusedSimpArgs false
namespace Go.Par

section runs
variable {P : Program} {Θ : Types} {o : Oper} {φ : Names} {h : Heap} {w : World} {a : Act} {ρ : Operand → AV} {v : AV}

theorem VRs.map (xs : List Operand) (f : Operand → Value) (hx : ∀ x ∈ xs, VR φ (own φ h) w (ρ x) (f x)) : VRs φ (own φ h) w (xs.map ρ) (xs.toArray.map f) := by
  refine ⟨by simp, fun j u hu => ?_⟩
  simp only [List.getElem?_map, Option.map_eq_some_iff] at hu
  obtain ⟨x, hx', rfl⟩ := hu
  have : (xs.toArray.map f).getD j undef = f x := by simp [hx']
  rw [this]
  exact hx x (List.mem_of_getElem? hx')

theorem VRs.append {us us' : List AV} {vs vs' : Array Value} (h1 : VRs φ (own φ h) w us vs) (h2 : VRs φ (own φ h) w us' vs') : VRs φ (own φ h) w (us ++ us') (vs ++ vs') := by
  refine ⟨by simp [h1.1, h2.1], fun j u hu => ?_⟩
  have e := h1.1
  by_cases hj : j < us.length
  · rw [List.getElem?_append_left hj] at hu
    have : (vs ++ vs').getD j undef = vs.getD j undef := by simp [Array.getElem?_append, ← e, hj]
    rw [this]
    exact h1.2 j u hu
  · rw [List.getElem?_append_right (by omega)] at hu
    have : (vs ++ vs').getD j undef = vs'.getD (j - us.length) undef := by simp [Array.getElem?_append, ← e, hj]
    rw [this]
    exact h2.2 _ u hu

theorem run_callA (H : HR φ w h) {c : Call} {f : Operand} (ho : o.op = .call c) (hc : c.callee = .value f) (hx : ∀ y ∈ (Op.call c).operands, VR φ (own φ h) w (ρ y) (a.eval y))
    (hp : callA P (ρ f) (c.args.toList.map ρ) (fun u => u = v)) : OpRun P o φ h w a v := by
  unfold callA at hp
  split at hp
  · rename_i g cap e
    obtain ⟨r, hr, rfl⟩ := hp
    have vf := hx f (by simp [Op.operands, Call.operands, hc])
    rw [e] at vf
    generalize hq : a.eval f = V at vf
    cases vf with
    | clo _ _ vs hl hv =>
      have hargs := VRs.map (ρ := ρ) c.args.toList a.eval (fun x hx' => hx x (by
        simp only [Op.operands, Call.operands, hc, Array.mem_append]
        exact .inr (by simpa using hx')))
      have hall := hargs.append (us' := cap) (vs' := vs) ⟨hl, hv⟩
      obtain ⟨h1, h2⟩ := hr h
      have hcall := h2 φ w _ H hall
      rw [Array.toArray_toList] at hcall
      intro next Q hn
      unfold Oper.wp
      have hrun : (execOp a.eval o).run P w = .ok (.enter g (c.args.map a.eval ++ vs)) w := by
        simp [execOp, ho, resolve, hc, hq, Deferred.ofValue, invoke, h1 _ _]
      rw [hrun, Oper.upon_enter]
      refine Calls.mono hcall ?_
      rintro e' w' ⟨φ', h', r', v', e1, e2, e3, e5, e4, e6, e7⟩
      subst e5; subst e6; subst e7
      exact hn φ' w' v' e1 e2 e3 e4
  · rename_i g first e
    obtain ⟨r, hr, rfl⟩ := hp
    have vf := hx f (by simp [Op.operands, Call.operands, hc])
    rw [e] at vf
    generalize hq : a.eval f = V at vf
    cases vf with
    | bnd _ _ vs hl hv =>
      have hargs := VRs.map (ρ := ρ) c.args.toList a.eval (fun x hx' => hx x (by
        simp only [Op.operands, Call.operands, hc, Array.mem_append]
        exact .inr (by simpa using hx')))
      have hall := VRs.append (us := first) (vs := vs) ⟨hl, hv⟩ hargs
      obtain ⟨h1, h2⟩ := hr h
      have hcall := h2 φ w _ H hall
      rw [Array.toArray_toList] at hcall
      intro next Q hn
      unfold Oper.wp
      have hrun : (execOp a.eval o).run P w = .ok (.enter g (vs ++ c.args.map a.eval)) w := by
        simp [execOp, ho, resolve, hc, hq, Deferred.ofValue, invoke, h1 _ _]
      rw [hrun, Oper.upon_enter]
      refine Calls.mono hcall ?_
      rintro e' w' ⟨φ', h', r', v', e1, e2, e3, e5, e4, e6, e7⟩
      subst e5; subst e6; subst e7
      exact hn φ' w' v' e1 e2 e3 e4
  · exact hp.elim

theorem pOp_run (hΘ : Θ.ok P) (H : HR φ w h) (hx : ∀ y ∈ o.op.operands, VR φ (own φ h) w (ρ y) (a.eval y)) (hp : pOp P Θ ρ h o.op (fun u => u = v)) : OpRun P o φ h w a v := by
  generalize ho : o.op = op at hx hp
  cases op with
  | move x =>
    simp only [pOp] at hp
    subst hp
    exact OpRun.same H (by simp [execOp, ho]) (hx x (by simp [Op.operands]))
  | assign x =>
    simp only [pOp] at hp
    subst hp
    exact OpRun.same H (by simp [execOp, ho]) (hx x (by simp [Op.operands]))
  | pick c x y =>
    simp only [pOp] at hp
    split at hp
    · rename_i t e
      subst hp
      have vc := hx c (by simp [Op.operands])
      rw [e] at vc
      refine OpRun.same H (x := if t then a.eval x else a.eval y) (by simp [execOp, ho, vc.bool_inv, asBool]) ?_
      cases t
      · exact hx y (by simp [Op.operands])
      · exact hx x (by simp [Op.operands])
    · exact hp.elim
  | box t x =>
    obtain ⟨hk, rfl⟩ := hp
    have hf := (hx x (by simp [Op.operands])).flat hk
    refine OpRun.alloc H (x := .pointer (some ⟨w.heap.size, 0, none⟩)) (ob := .cells (a.eval x).cells t) ?_ (VR.new_rop H t _ _ hf.1 hf.2)
    simp [execOp, ho, Instr.box, newVar, newRow]
  | alloc t =>
    simp only [pOp] at hp
    split at hp
    · rename_i d hd
      obtain ⟨hk, rfl⟩ := hp
      have hz : VR φ (own φ h) w (absV d.zero) d.zero := absV_VR _ _ _ _
      have hf := hz.flat hk
      refine OpRun.alloc H (x := .pointer (some ⟨w.heap.size, 0, none⟩)) (ob := .cells d.zero.cells t) ?_ (VR.new_rop H t _ _ hf.1 hf.2)
      simp [execOp, ho, Instr.alloc, (hΘ t d hd).zero, newVar, newRow]
    · exact hp.elim
  | build t ps => exact run_build hΘ H ho hx hp
  | buildSlice t n ps => exact run_buildSlice hΘ H ho hx hp
  | load t x => exact run_load_ptr hΘ H ho (hx x (by simp [Op.operands])) hp
  | binOp op t x y u =>
    obtain ⟨q, h1, h2⟩ := run_binA hΘ (ox := x) (oy := y) (hx x (by simp [Op.operands])) (hx y (by simp [Op.operands])) hp
    refine OpRun.same H (x := q) ?_ h2
    simp only [execOp, ho, Sem.run_bind] at h1 ⊢
    rw [h1]
    rfl
  | unOp op t x =>
    simp only [pOp] at hp
    have vx := hx x (by simp [Op.operands])
    split at hp
    · rename_i b e
      subst hp
      rw [e] at vx
      exact OpRun.same H (x := .bool (!b)) (by simp [execOp, ho, vx.bool_inv, Op.unary]) (.bool _)
    · rename_i q n e
      subst hp
      rw [e] at vx
      exact OpRun.same H (x := .int q (q.wrap (0 - n))) (by simp [execOp, ho, vx.int_inv, Op.unary, Op.intArith]) (.int _ _)
    · exact hp.elim
  | convert s d x =>
    simp only [pOp] at hp
    have vx := hx x (by simp [Op.operands])
    split at hp
    · rename_i ds q _ _ _ k n hs hd e
      subst hp
      rw [e] at vx
      have hu : P.underlying d = some (.int q) := (hΘ d _ hd).2
      have hs' : (P.underlying s).isSome = true := by
        have := (hΘ s _ hs).2
        cases hsh : ds.sh with
        | prim =>
          rw [hsh] at this
          cases hq : P.underlying s with
          | none => simp [Sh.ok, hq] at this
          | some x => rfl
        | struct fs => rw [hsh] at this; obtain ⟨l, hl, _⟩ := this; simp [hl]
        | bool => rw [hsh] at this; simp [show P.underlying s = some .bool from this]
        | int k => rw [hsh] at this; simp [show P.underlying s = some (.int k) from this]
        | slice e => rw [hsh] at this; simp [show P.underlying s = some (.slice e) from this]
        | arr n e => rw [hsh] at this; simp [show P.underlying s = some (.array n e) from this]
      obtain ⟨D, hD⟩ := Option.isSome_iff_exists.1 hs'
      exact OpRun.same H (x := .int q (q.wrap n)) (by simp [execOp, ho, vx.int_inv, convert, run_underlying hD, run_underlying hu, Conv.intToInt]) (.int _ _)
    · exact hp.elim
  | makeFunc f x c =>
    cases f with
    | func f =>
      simp only [pOp] at hp
      split at hp
      · rename_i hsz
        subst hp
        have hx0 : x = #[] := by
          apply Array.eq_empty_of_size_eq_zero
          exact hsz
        subst hx0
        have hcap := VRs.map (ρ := ρ) c.toList a.eval (fun y hy => hx y (by simpa [Op.operands] using hy))
        refine OpRun.same H (x := .func (.func f) #[] (c.map a.eval)) (by simp [execOp, ho, Instr.makeFunc]) (.clo f _ _ (by simp) ?_)
        have := hcap.2
        simpa using this
      · split at hp
        · rename_i hsz
          subst hp
          have hc0 : c = #[] := by
            apply Array.eq_empty_of_size_eq_zero
            exact hsz
          subst hc0
          have hcap := VRs.map (ρ := ρ) x.toList a.eval (fun y hy => hx y (by simpa [Op.operands] using hy))
          refine OpRun.same H (x := .func (.func f) (x.map a.eval) #[]) (by simp [execOp, ho, Instr.makeFunc]) (.bnd f _ _ (by simp) ?_)
          have := hcap.2
          simpa using this
        · exact hp.elim
    | _ => exact hp.elim
  | makeSlice t l c => exact run_makeSliceOp hΘ H ho hx hp
  | slice t x lo hi mx => exact run_sliceOp hΘ H ho hx hp
  | fieldAddr t x f => exact run_fieldAddr hΘ H ho hx hp
  | field t x f =>
    simp only [pOp] at hp
    have vx := hx x (by simp [Op.operands])
    split at hp
    · rename_i fs _ _ _ hd
      obtain ⟨l, hl, hfs⟩ := (hΘ t _ hd).2
      split at hp
      · rename_i off size ft cs hf e
        rw [e] at vx
        generalize hq : a.eval x = V at vx
        have := congrArg (·[f]?) hfs
        simp only [List.getElem?_map, hf, Option.map_some, Option.map_eq_some_iff] at this
        obtain ⟨F, hF, he⟩ := this
        simp only [Prod.mk.injEq, Option.map_eq_some_iff] at he
        obtain ⟨e1, _, e2⟩ := he
        have hF' : l[f]? = some F := by simpa using hF
        cases vx with
        | agg _ vs hlv hv =>
          unfold loadA at hp
          split at hp
          · exact hp.elim
          · rename_i d hde
            have ok := hΘ ft d hde
            split at hp
            · rename_i hagg
              obtain ⟨hle, rfl⟩ := hp
              rw [List.length_drop] at hle
              refine OpRun.same H (x := .agg (vs.extract off (off + d.size))) ?_ (.agg _ _ ?_ ?_)
              · simp [execOp, ho, hq, Instr.field, run_underlying hl, hF', asAgg, part, e1, e2, ok.isAgg, hagg, ok.sizeOf]
              · simp; omega
              · intro j u hu
                rw [List.getElem?_take] at hu
                split at hu
                · rw [List.getElem?_drop] at hu
                  have hj := (List.getElem?_eq_some_iff.1 hu).1
                  have := hv _ u hu
                  have e3 : (vs.extract off (off + d.size)).getD j undef = vs.getD (off + j) undef := by
                    simp [Array.getElem?_extract]
                    rw [if_pos (by omega)]
                  rw [e3]
                  exact this
                · cases hu
            · rename_i hagg
              simp only [Bool.not_eq_true] at hagg
              split at hp
              · rename_i c cs' hcs
                subst hp
                have h0 : cs[off]? = some c := by
                  have := congrArg (·[0]?) hcs
                  simpa [List.getElem?_drop] using this
                have hj : off < vs.size := by rw [← hlv]; exact (List.getElem?_eq_some_iff.1 h0).1
                refine OpRun.same H (x := vs.getD off undef) ?_ (hv off c h0)
                simp [execOp, ho, hq, Instr.field, run_underlying hl, hF', asAgg, part, e1, e2, ok.isAgg, hagg, hj]
              · exact hp.elim
      · exact hp.elim
    · exact hp.elim
  | indexAddr t x i => exact run_indexAddr hΘ H ho hx hp
  | index t x i =>
    simp only [pOp] at hp
    have vx := hx x (by simp [Op.operands])
    have vi := hx i (by simp [Op.operands])
    split at hp
    · rename_i m ft sz bt zz cs q n hd e1 e2
      have hu : P.underlying t = some (.array m ft) := (hΘ t _ hd).2
      rw [e1] at vx
      rw [e2] at vi
      split at hp
      · rename_i d hde
        obtain ⟨⟨h0, hm⟩, hp⟩ := hp
        have ok := hΘ ft d hde
        have hi := vi.int_inv
        generalize hq : a.eval x = V at vx
        cases vx with
        | agg _ vs hlv hv =>
          unfold loadA at hp
          rw [hde] at hp
          simp only at hp
          split at hp
          · rename_i hagg
            obtain ⟨hle, rfl⟩ := hp
            rw [List.length_drop] at hle
            refine OpRun.same H (x := .agg (vs.extract (n.toNat * d.size) (n.toNat * d.size + d.size))) ?_ (.agg _ _ ?_ ?_)
            · simp [execOp, ho, hq, hi, Instr.index, run_underlying hu, asIntOf, part, ok.isAgg, hagg, ok.sizeOf, h0, hm]
            · simp; omega
            · intro j u hu
              rw [List.getElem?_take] at hu
              split at hu
              · rw [List.getElem?_drop] at hu
                have hj := (List.getElem?_eq_some_iff.1 hu).1
                have := hv _ u hu
                have e3 : (vs.extract (n.toNat * d.size) (n.toNat * d.size + d.size)).getD j undef = vs.getD (n.toNat * d.size + j) undef := by
                  simp [Array.getElem?_extract]
                  rw [if_pos (by omega)]
                rw [e3]
                exact this
              · cases hu
          · rename_i hagg
            simp only [Bool.not_eq_true] at hagg
            split at hp
            · rename_i c cs' hcs
              subst hp
              have h1 : cs[n.toNat * d.size]? = some c := by
                have := congrArg (·[0]?) hcs
                simpa [List.getElem?_drop] using this
              have hj : n.toNat * d.size < vs.size := by rw [← hlv]; exact (List.getElem?_eq_some_iff.1 h1).1
              refine OpRun.same H (x := vs.getD (n.toNat * d.size) undef) ?_ (hv _ c h1)
              simp [execOp, ho, hq, hi, Instr.index, run_underlying hu, asIntOf, part, ok.isAgg, hagg, hj, ok.sizeOf, h0, hm]
            · exact hp.elim
      · exact hp.elim
    · exact hp.elim
  | makeInterface t x =>
    obtain ⟨hc, hp⟩ := hp
    subst hp
    refine OpRun.same H (x := .iface t (a.eval x)) (by simp [execOp, ho, run_makeInterface _ _ _ hc]) (.ifc t _ _ (hx x (by simp [Op.operands])))
  | typeAssert x xT t c =>
    simp only [pOp] at hp
    have vx := hx x (by simp [Op.operands])
    split at hp
    · rename_i t' u e
      obtain ⟨⟨rfl, hc, rfl⟩, hp⟩ := hp
      subst hp
      rw [e] at vx
      generalize hq : a.eval x = V at vx
      cases vx with
      | ifc _ _ v hv =>
        have hr : (Instr.typeAssert (.iface t' v) xT t' true).run P w = .ok (.tuple #[v, .bool true]) w := by
          unfold Program.concrete at hc
          cases hd : P.underlying t' with
          | none => rw [hd] at hc; cases hc
          | some D =>
            rw [hd] at hc
            cases D <;> simp [Instr.typeAssert, run_underlying hd] at hc ⊢
        refine OpRun.same H (x := .tuple #[v, .bool true]) (by simp [execOp, ho, hq, hr]) (.tup _ _ rfl ?_)
        intro j w' hj
        match j with
        | 0 => simp at hj; subst hj; simpa using hv
        | 1 => simp at hj; subst hj; exact .bool _
        | j + 2 => simp at hj
    · exact hp.elim
  | nilCheck x =>
    simp only [pOp] at hp
    have vx := hx x (by simp [Op.operands])
    split at hp
    · rename_i o' q e
      subst hp
      rw [e] at vx
      generalize hq : a.eval x = V at vx
      cases vx with
      | ptr _ _ b cap hl => exact OpRun.same H (by simp [execOp, ho, hq]) (.ptr _ _ b cap hl)
    · rename_i cs e
      subst hp
      rw [e] at vx
      generalize hq : a.eval x = V at vx
      cases vx with
      | rop _ b off f hB hb hcell hval => exact OpRun.same H (by simp [execOp, ho, hq]) (.rop _ b off f hB hb hcell hval)
    · rename_i t u e
      subst hp
      rw [e] at vx
      generalize hq : a.eval x = V at vx
      cases vx with
      | ifc _ _ v hv => exact OpRun.same H (by simp [execOp, ho, hq]) (.ifc _ _ v hv)
    · exact hp.elim
  | extract x i =>
    simp only [pOp] at hp
    have vx := hx x (by simp [Op.operands])
    split at hp
    · rename_i us e
      rw [e] at vx
      split at hp
      · rename_i u hu
        subst hp
        generalize hq : a.eval x = V at vx
        cases vx with
        | tup _ vs hl hv =>
          have hi : i < vs.size := by rw [← hl]; exact (List.getElem?_eq_some_iff.1 hu).1
          refine OpRun.same H (x := vs.getD i undef) ?_ (hv i u hu)
          simp [execOp, ho, hq, Instr.extract, hi]
      · exact hp.elim
    · exact hp.elim
  | call c =>
    simp only [pOp] at hp
    split at hp
    · rename_i f hc
      exact run_callA H ho hc hx hp
    · rename_i b hc
      have hargs : ∀ y ∈ c.args.toList, VR φ (own φ h) w (ρ y) (a.eval y) := fun y hy => hx y (by simp only [Op.operands, Call.operands, hc, Array.mem_append]; exact .inr (by simpa using hy))
      split at hp
      · rename_i x t he ht
        obtain ⟨X, hX, rfl⟩ : ∃ X, c.args.toList = [X] ∧ ρ X = x := by
          cases hl : c.args.toList with
          | nil => simp [hl] at he
          | cons y l => cases l with | nil => simp [hl] at he; exact ⟨y, rfl, he⟩ | cons z l => simp [hl] at he
        have hca : c.args = #[X] := by rw [← Array.toArray_toList (xs := c.args), hX]
        have hct : c.argTypes = #[t] := by rw [← Array.toArray_toList (xs := c.argTypes), ht]
        have vx := hargs X (by simp [hX])
        split at hp
        · rename_i _ _ _ _ n hd hn
          subst hp
          have hu := (hΘ t _ hd).slice
          have : ∃ A C, a.eval X = .slice A n C := by
            generalize hq : ρ X = u at hn vx
            generalize a.eval X = V at vx
            cases vx <;> simp [lenA] at hn
            · exact ⟨_, _, by rw [← hn]⟩
            · exact ⟨_, _, by rw [← hn]⟩
            · rename_i hn' _ _ _ _ _ _; exact ⟨_, _, by rw [← hn, hn']⟩
            · exact ⟨_, _, by rw [← hn]⟩
            · exact ⟨_, _, by rw [← hn]⟩
          obtain ⟨A, C, hA⟩ := this
          refine OpRun.same H (x := .int .i64 n) ?_ (.int _ _)
          simp [execOp, ho, resolve, hc, hca, hct, hA, invoke, builtin, Builtin.len_, run_underlying hu, goInt]
        · exact hp.elim
      · rename_i q x q' y he
        obtain ⟨rfl, rfl⟩ := hp
        obtain ⟨X, Y, hX, e1, e2⟩ : ∃ X Y, c.args.toList = [X, Y] ∧ ρ X = .int q x ∧ ρ Y = .int q y := by
          cases hl : c.args.toList with
          | nil => simp [hl] at he
          | cons y l => cases l with
            | nil => simp [hl] at he
            | cons z l => cases l with | nil => simp [hl] at he; exact ⟨_, _, rfl, he.1, he.2⟩ | cons z l => simp [hl] at he
        have hca : c.args = #[X, Y] := by rw [← Array.toArray_toList (xs := c.args), hX]
        have vx := hargs X (by simp [hX])
        have vy := hargs Y (by simp [hX])
        rw [e1] at vx
        rw [e2] at vy
        refine OpRun.same H (x := .int q (if y > x then y else x)) ?_ (.int _ _)
        simp [execOp, ho, resolve, hc, hca, vx.int_inv, vy.int_inv, invoke, builtin, Builtin.max_, Builtin.max2]
      · rename_i q x q' y he
        obtain ⟨rfl, rfl⟩ := hp
        obtain ⟨X, Y, hX, e1, e2⟩ : ∃ X Y, c.args.toList = [X, Y] ∧ ρ X = .int q x ∧ ρ Y = .int q y := by
          cases hl : c.args.toList with
          | nil => simp [hl] at he
          | cons y l => cases l with
            | nil => simp [hl] at he
            | cons z l => cases l with | nil => simp [hl] at he; exact ⟨_, _, rfl, he.1, he.2⟩ | cons z l => simp [hl] at he
        have hca : c.args = #[X, Y] := by rw [← Array.toArray_toList (xs := c.args), hX]
        have vx := hargs X (by simp [hX])
        have vy := hargs Y (by simp [hX])
        rw [e1] at vx
        rw [e2] at vy
        refine OpRun.same H (x := .int q (if y < x then y else x)) ?_ (.int _ _)
        simp [execOp, ho, resolve, hc, hca, vx.int_inv, vy.int_inv, invoke, builtin, Builtin.min_, Builtin.min2]
      · exact hp.elim
    · exact hp.elim
  | _ => exact hp.elim
end runs
end Go.Par
