import Derived.Test.YtlpfokngocdanaaHpA
import Derived.Test.YtlpfokngocdanaaFnE
set_option linter.unusedSimpArgs false
set_option linter.unusedVariables false
set_option maxRecDepth 8000
namespace Go.Par
open Go.Proofs

theorem meth_Push : Meth Try.prog 60 "Push" 81 none := fun a w => by kernel_rfl
theorem meth_Pop : Meth Try.prog 60 "Pop" 80 none := fun a w => by kernel_rfl
theorem Meth.load {P : Program} {t e : TypeId} {name : String} {f : FuncId} (i : TypeInfo) (m : Method) (hi : P.info? t = some i) (hm : i.methods.find? (·.name == name) = some m) (hp : m.path = #[]) (hf : m.func = some (f, false)) (hu : P.underlying t = some (.pointer e)) (hk : ∃ k, P.types.size + Made.depth = k + 1) : Meth P t name f (some e) := by
  obtain ⟨k, hk⟩ := hk
  intro a w
  rw [hk]
  unfold method
  have hw : ∀ (x y : String), (Builtin.ssaWrapNilChk_ #[t] t #[.pointer (some a), strVal x, strVal y]).run P w = .ok (.pointer (some a)) w := fun x y => rfl
  simp [typeInfo, hi, hm, hp, hf, follow, receiverAt, run_underlying hu, Place.get, hw, asAddr]
theorem meth_Len : Meth Try.prog 60 "Len" 77 (some 51) := Meth.load _ _ rfl rfl rfl rfl rfl ⟨_, rfl⟩
theorem meth_Less : Meth Try.prog 60 "Less" 78 (some 51) := Meth.load _ _ rfl rfl rfl rfl rfl ⟨_, rfl⟩
theorem meth_Swap : Meth Try.prog 60 "Swap" 79 (some 51) := Meth.load _ _ rfl rfl rfl rfl rfl ⟨_, rfl⟩
@[simp] theorem conc_row : Try.prog.concrete 60 = true := by kernel_rfl
@[simp] theorem conc_ranked : Try.prog.concrete 57 = true := by kernel_rfl

def obT (T : List Pr) (nn : Bool) : Ob := ⟨prF T, 57, 2, nn⟩
@[simp] theorem obT_cells (T : List Pr) (nn : Bool) : (obT T nn).cells = prF T := rfl
@[simp] theorem obT_ty (T : List Pr) (nn : Bool) : (obT T nn).ty = 57 := rfl
@[simp] theorem obT_sz (T : List Pr) (nn : Bool) : (obT T nn).sz = 2 := rfl
@[simp] theorem obT_nn (T : List Pr) (nn : Bool) : (obT T nn).nn = nn := rfl
attribute [local simp] prF_len

theorem row_Len (o : Nat) (n : Nat) (h : Heap) : AC Try.prog 77 [.mu o n] h fun r h' => r = .int .i64 n ∧ h' = h := by
  refine AC.body Θ_ok Try.func77 rfl rfl (Nat.le_of_ble_eq_true rfl) ?_
  refine AW.seq fun _ k1 => AW.region [] Θ_ok ?_
  simp
  refine k1 _ ?_
  refine AW.seq fun _ kr => AW.region [] Θ_ok ?_
  simp
  refine kr _ (AW.ret ?_)
  simp [Try.f77]
  exact Fin.refl ⟨rfl, rfl⟩

theorem row_Less {T : List Pr} {nn : Bool} {o n i j : Nat} {h : Heap} (ho : h o = some (obT T nn)) (hn : n = T.length) (hi : i < n) (hj : j < n) :
    AC Try.prog 78 [.mu o n, .int .i64 i, .int .i64 j] h fun r h' => r = .bool (lessP (pat T i) (pat T j)) ∧ h' = h := by
  subst hn
  have d1 := prF_drop T i hi
  have d2 := prF_drop T j hj
  have d3 := prF_drop1 T i hi
  have d4 := prF_drop1 T j hj
  have hl : lessP (pat T i) (pat T j) = if (pat T i).2 = (pat T j).2 then decide ((pat T i).1 < (pat T j).1) else decide ((pat T i).2 < (pat T j).2) := rfl
  generalize pat T i = p at *
  generalize pat T j = q at *
  refine AC.body Θ_ok Try.func78 rfl rfl (Nat.le_of_ble_eq_true rfl) ?_
  refine AW.seq fun _ k1 => AW.region [] Θ_ok ?_
  simp
  refine k1 _ ?_
  refine AW.seq fun _ k1 => ?_
  refine AW.seq fun _ k2 => AW.draw [] 11 [] Θ_ok mixed (by kernel_rfl) (by kernel_rfl) ?_
  simp [vcDraw, vcPre, vcTail, callA, isAlloc, isLoad, effOp, obl, obA, mkOK, valA, ho, hi, hj, d1, d2, d3, d4]
  refine k2 _ ?_
  by_cases e : p.2 = q.2
  · rw [if_pos e] at hl
    refine AW.cond false (by simp [Int.natCast_inj, e]) (fun h => by cases h) (fun _ => ?_)
    refine AW.skip ?_
    simp
    refine k1 _ ?_
    refine AW.seq fun _ kr => ?_
    refine AW.draw [] 12 [] Θ_ok mixed (by kernel_rfl) (by kernel_rfl) ?_
    simp [vcDraw, vcPre, vcTail, callA, isAlloc, isLoad, effOp, obl, obA, mkOK, valA, ho, hi, hj, d1, d2, d3, d4]
    refine kr _ (AW.ret ?_)
    simp [Try.f78]
    exact Fin.refl ⟨by rw [hl], rfl⟩
  · rw [if_neg e] at hl
    refine AW.cond true (by simp [Int.natCast_inj, e]) (fun _ => ?_) (fun h => by cases h)
    refine AW.seq fun _ kr => ?_
    refine AW.draw [] 12 [] Θ_ok mixed (by kernel_rfl) (by kernel_rfl) ?_
    simp [vcDraw, vcPre, vcTail, callA, isAlloc, isLoad, effOp, obl, obA, mkOK, valA, ho, hi, hj, d1, d2, d3, d4]
    refine kr _ (AW.ret ?_)
    simp [Try.f78]
    exact Fin.refl ⟨by rw [hl], rfl⟩

theorem row_Swap {T : List Pr} {nn : Bool} {o n i j : Nat} {h : Heap} (ho : h o = some (obT T nn)) (hn : n = T.length) (hi : i < n) (hj : j < n) :
    AC Try.prog 79 [.mu o n, .int .i64 i, .int .i64 j] h fun r h' => h' = upd h o (some (obT (swapL T i j) nn)) := by
  subst hn
  have d1 := prF_drop T i hi
  have d2 := prF_drop T j hj
  have d5 := prF_set T i (pat T j) hi
  have d6 := prF_set (T.set i (pat T j)) j (pat T i) (by simpa using hj)
  refine AC.body Θ_ok Try.func79 rfl rfl (Nat.le_of_ble_eq_true rfl) ?_
  refine AW.draw [] 13 [] Θ_ok mixed (by kernel_rfl) (by kernel_rfl) ?_
  simp [vcDraw, vcPre, vcTail, callA, isAlloc, isLoad, effOp, obl, obA, mkOK, valA, ho, hi, hj, d1, d2, d5]
  refine ⟨by omega, by omega, Fin.refl ?_⟩
  rw [d6]; rfl
end Go.Par
