/- The rules in use. -/
import Derived.Test.YtlpfokngocdanaaMaR
namespace Go.Par

theorem AW.region {P : Program} {Θ : Types} (M : List Nat) (hΘ : Θ.ok P) {ops : Array Oper} {id : Nat} {Q : Exit → St → Prop} {S : St} (h : vcOps P Θ M ops.toList ops.toList (Q .normal) S) : AW P (.region id ops false) Q S :=
  fun φ w a H T => wp_region_list (vcOps_run hΘ _ S φ w a H T h)

theorem Fin.refl {v : AV} {h : Heap} {Q : AV → Heap → Prop} (hq : Q v h) : Fin v h Q := ⟨v, h, GV.refl v h, hq⟩

theorem then_normal {K : St → Prop} {Q : Exit → St → Prop} {S : St} : Then K Q .normal S = K S := rfl
theorem then_ret {K : St → Prop} {Q : Exit → St → Prop} {S : St} : Then K Q .ret S = Q .ret S := rfl
theorem then_exit {K : St → Prop} {Q : Exit → St → Prop} {S : St} {i : Nat} : Then K Q (.exit i) S = Q (.exit i) S := rfl
theorem inBlock_normal {Q : Exit → St → Prop} {S : St} {id : Nat} : InBlock id Q .normal S = Q .normal S := rfl
theorem inBlock_ret {Q : Exit → St → Prop} {S : St} {id : Nat} : InBlock id Q .ret S = Q .ret S := rfl
theorem inBlock_exit {Q : Exit → St → Prop} {S : St} {id i : Nat} : InBlock id Q (.exit i) S = if i = id then Q .normal S else Q (.exit i) S := rfl

theorem get_nil (t : Nat) : get [] t = .any := rfl
theorem get_cons (d : Nat) (v : AV) (l : Tm) (t : Nat) : get ((d, v) :: l) t = if d = t then v else get l t := rfl
theorem putA_some (tm : Tm) (d : Nat) (v : AV) : putA tm (some d) v = (d, v) :: tm := rfl
theorem putA_none (tm : Tm) (v : AV) : putA tm none v = tm := rfl
theorem ite_bool (c : Prop) [Decidable c] (x y : Bool) : (if c then AV.bool x else AV.bool y) = AV.bool (if c then x else y) := by split <;> rfl
theorem flat_int (k : IntKind) (n : Int) : (AV.int k n).flat = [.int k n] := rfl
theorem flat_bool (b : Bool) : (AV.bool b).flat = [.bool b] := rfl
theorem flat_nils : AV.nils.flat = [.nils] := rfl
theorem flat_ro (k : Bool) (xs : List AV) : (AV.ro k xs).flat = [.ro k xs] := rfl
theorem flat_mu (o n : Nat) : (AV.mu o n).flat = [.mu o n] := rfl
theorem flat_ptr (o n : Nat) : (AV.ptr o n).flat = [.ptr o n] := rfl
theorem flat_rop (cs : List AV) : (AV.rop cs).flat = [.rop cs] := rfl
theorem flat_nilp : AV.nilp.flat = [.nilp] := rfl
theorem flat_agg (cs : List AV) : (AV.agg cs).flat = cs := rfl
theorem flat_tup (cs : List AV) : (AV.tup cs).flat = [.tup cs] := rfl
theorem flat_clo (f : FuncId) (cs : List AV) : (AV.clo f cs).flat = [.clo f cs] := rfl
theorem flat_bnd (f : FuncId) (cs : List AV) : (AV.bnd f cs).flat = [.bnd f cs] := rfl
theorem flat_nilf : AV.nilf.flat = [.nilf] := rfl
theorem flat_ifc (t : TypeId) (v : AV) : (AV.ifc t v).flat = [.ifc t v] := rfl
theorem flat_nili : AV.nili.flat = [.nili] := rfl
theorem flat_any : AV.any.flat = [.any] := rfl

theorem known_int (k : IntKind) (n : Int) : (AV.int k n).known = true := rfl
theorem one_int (k : IntKind) (n : Int) : (AV.int k n).one = true := rfl
theorem known_bool (b : Bool) : (AV.bool b).known = true := rfl
theorem one_bool (b : Bool) : (AV.bool b).one = true := rfl
theorem known_nils  : AV.nils.known = true := rfl
theorem one_nils  : AV.nils.one = true := rfl
theorem known_ro (k : Bool) (xs : List AV) : (AV.ro k xs).known = true := rfl
theorem one_ro (k : Bool) (xs : List AV) : (AV.ro k xs).one = true := rfl
theorem known_mu (o n : Nat) : (AV.mu o n).known = true := rfl
theorem one_mu (o n : Nat) : (AV.mu o n).one = true := rfl
theorem known_ptr (o n : Nat) : (AV.ptr o n).known = true := rfl
theorem one_ptr (o n : Nat) : (AV.ptr o n).one = true := rfl
theorem known_rop (cs : List AV) : (AV.rop cs).known = true := rfl
theorem one_rop (cs : List AV) : (AV.rop cs).one = true := rfl
theorem known_nilp  : AV.nilp.known = true := rfl
theorem one_nilp  : AV.nilp.one = true := rfl
theorem known_agg (cs : List AV) : (AV.agg cs).known = true := rfl
theorem one_agg (cs : List AV) : (AV.agg cs).one = false := rfl
theorem known_tup (cs : List AV) : (AV.tup cs).known = true := rfl
theorem one_tup (cs : List AV) : (AV.tup cs).one = false := rfl
theorem known_clo (f : FuncId) (cs : List AV) : (AV.clo f cs).known = true := rfl
theorem one_clo (f : FuncId) (cs : List AV) : (AV.clo f cs).one = true := rfl
theorem known_bnd (f : FuncId) (cs : List AV) : (AV.bnd f cs).known = true := rfl
theorem one_bnd (f : FuncId) (cs : List AV) : (AV.bnd f cs).one = true := rfl
theorem known_nilf  : AV.nilf.known = true := rfl
theorem one_nilf  : AV.nilf.one = true := rfl
theorem known_ifc (t : TypeId) (v : AV) : (AV.ifc t v).known = true := rfl
theorem one_ifc (t : TypeId) (v : AV) : (AV.ifc t v).one = true := rfl
theorem known_nili  : AV.nili.known = true := rfl
theorem one_nili  : AV.nili.one = true := rfl
theorem known_any  : AV.any.known = false := rfl
theorem one_any  : AV.any.one = false := rfl
theorem allOne_nil : allOne [] = True := by simp [allOne]
theorem allOne_cons (u : AV) (l : List AV) : allOne (u :: l) = (u.one = true ∧ allOne l) := by simp [allOne]

attribute [simp] flat_bnd known_bnd one_bnd known_int one_int known_bool one_bool known_nils one_nils known_ro one_ro known_mu one_mu known_ptr one_ptr known_rop one_rop known_nilp one_nilp known_agg one_agg known_tup one_tup known_clo one_clo known_nilf one_nilf known_ifc one_ifc known_nili one_nili known_any one_any allOne_nil allOne_cons

attribute [simp] vcOps vcOp pOp ev get_nil get_cons putA_some putA_none dstOf then_normal then_ret then_exit inBlock_normal inBlock_ret inBlock_exit loadA binA lenA listA Sh.agg argTm resK oneOf ite_bool flat_int flat_bool flat_nils flat_ro flat_mu flat_ptr flat_rop flat_nilp flat_agg flat_clo flat_nilf flat_ifc flat_nili flat_any flat_tup EqAll upd_same absV absV.absV1 fillA setAt

end Go.Par
