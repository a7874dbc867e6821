/- A pile of vertices: what container/heap does with it (which of them comes first does not matter). -/
import Derived.Test.YtihlpchiomkinaaSmC
set_option linter.unusedSimpArgs false
set_option linter.unusedVariables false
set_option maxRecDepth 8000
namespace Go.Par
open Go.Proofs

def plF (T : List Nat) : List AV := T.map fun v : Nat => .int .i64 (v : Int)
def plat (T : List Nat) (i : Nat) : Nat := T.getD i 0
def plswap (T : List Nat) (i j : Nat) : List Nat := (T.set i (plat T j)).set j (plat T i)
theorem plF_len (T : List Nat) : (plF T).length = T.length := by simp [plF]
theorem plF_drop (T : List Nat) (i : Nat) (h : i < T.length) : (plF T).drop i = .int .i64 (plat T i : Int) :: (plF T).drop (i + 1) := by
  have : i < (plF T).length := by rw [plF_len]; exact h
  rw [List.drop_eq_getElem_cons this]
  simp [plF, plat, h]
theorem plF_set (T : List Nat) (i v : Nat) : (plF T).set i (.int .i64 (v : Int)) = plF (T.set i v) := by simp [plF, List.map_set]
theorem plF_append (T : List Nat) (v : Nat) : plF T ++ [.int .i64 (v : Int)] = plF (T ++ [v]) := by simp [plF]
theorem plF_take (T : List Nat) (n : Nat) : (plF T).take n = plF (T.take n) := by simp [plF, List.map_take]
theorem plswap_len (T : List Nat) (i j : Nat) : (plswap T i j).length = T.length := by simp [plswap]
theorem plat_lt {T : List Nat} {i : Nat} (h : i < T.length) : plat T i = T[i] := by simp [plat, h]
theorem plswap_perm {T : List Nat} {i j : Nat} (hi : i < T.length) (hj : j < T.length) : (plswap T i j).Perm T := by
  unfold plswap
  rw [plat_lt hi, plat_lt hj]
  exact List.set_set_perm hi hj

theorem pmeth_Push : Meth Try.prog 107 "Push" 126 none := fun a w => by kernel_rfl
theorem pmeth_Pop : Meth Try.prog 107 "Pop" 125 none := fun a w => by kernel_rfl
theorem pmeth_Len : Meth Try.prog 107 "Len" 117 (some 84) := Meth.load _ _ rfl rfl rfl rfl rfl ⟨_, rfl⟩
theorem pmeth_Less : Meth Try.prog 107 "Less" 118 (some 84) := Meth.load _ _ rfl rfl rfl rfl rfl ⟨_, rfl⟩
theorem pmeth_Swap : Meth Try.prog 107 "Swap" 119 (some 84) := Meth.load _ _ rfl rfl rfl rfl rfl ⟨_, rfl⟩
@[simp] theorem conc_pile : Try.prog.concrete 107 = true := by kernel_rfl
@[simp] theorem conc_int : Try.prog.concrete 3 = true := by kernel_rfl

def obP (T : List Nat) (nn : Bool) : Ob := ⟨plF T, 3, 1, nn⟩
@[simp] theorem obP_cells (T : List Nat) (nn : Bool) : (obP T nn).cells = plF T := rfl
@[simp] theorem obP_ty (T : List Nat) (nn : Bool) : (obP T nn).ty = 3 := rfl
@[simp] theorem obP_sz (T : List Nat) (nn : Bool) : (obP T nn).sz = 1 := rfl
@[simp] theorem obP_nn (T : List Nat) (nn : Bool) : (obP T nn).nn = nn := rfl
attribute [local simp] plF_len

theorem pile_Len (o : Nat) (n : Nat) (h : Heap) : AC Try.prog 117 [.mu o n] h fun r h' => r = .int .i64 n ∧ h' = h := by
  refine AC.body Θ_ok Try.func117 rfl rfl (Nat.le_of_ble_eq_true rfl) ?_
  refine AW.seq fun _ k1 => AW.region [] Θ_ok ?_
  simp
  refine k1 _ ?_
  refine AW.seq fun _ kr => AW.region [] Θ_ok ?_
  simp
  refine kr _ (AW.ret ?_)
  simp [Try.f117]
  exact Fin.refl ⟨rfl, rfl⟩

theorem pile_Less {T : List Nat} {nn : Bool} {o n i j : Nat} {h : Heap} (ho : h o = some (obP T nn)) (hn : n = T.length) (hi : i < n) (hj : j < n) :
    AC Try.prog 118 [.mu o n, .int .i64 i, .int .i64 j] h fun r h' => r = .bool (decide (plat T i < plat T j)) ∧ h' = h := by
  subst hn
  have d1 := plF_drop T i hi
  have d2 := plF_drop T j hj
  generalize plat T i = p at *
  generalize plat T j = q at *
  refine AC.body Θ_ok Try.func118 rfl rfl (Nat.le_of_ble_eq_true rfl) ?_
  refine AW.seq fun _ k1 => AW.region [] Θ_ok ?_
  simp
  refine k1 _ ?_
  refine AW.seq fun _ kr => ?_
  refine AW.draw [] 10 [] Θ_ok mixed (by kernel_rfl) (by kernel_rfl) ?_
  simp [vcDraw, vcPre, vcTail, callA, isAlloc, isLoad, effOp, obl, obA, mkOK, valA, ho, hi, hj, d1, d2]
  refine kr _ (AW.ret ?_)
  simp [Try.f118]
  exact Fin.refl ⟨rfl, rfl⟩

theorem pile_Swap {T : List Nat} {nn : Bool} {o n i j : Nat} {h : Heap} (ho : h o = some (obP T nn)) (hn : n = T.length) (hi : i < n) (hj : j < n) :
    AC Try.prog 119 [.mu o n, .int .i64 i, .int .i64 j] h fun r h' => h' = upd h o (some (obP (plswap T i j) nn)) := by
  subst hn
  have d1 := plF_drop T i hi
  have d2 := plF_drop T j hj
  have d5 := plF_set T i (plat T j)
  have d6 := plF_set (T.set i (plat T j)) j (plat T i)
  refine AC.body Θ_ok Try.func119 rfl rfl (Nat.le_of_ble_eq_true rfl) ?_
  refine AW.draw [] 13 [] Θ_ok mixed (by kernel_rfl) (by kernel_rfl) ?_
  simp [vcDraw, vcPre, vcTail, callA, isAlloc, isLoad, effOp, obl, obA, mkOK, valA, ho, hi, hj, d1, d2, d5]
  refine ⟨by omega, by omega, Fin.refl ?_⟩
  rw [d6]; rfl
end Go.Par
