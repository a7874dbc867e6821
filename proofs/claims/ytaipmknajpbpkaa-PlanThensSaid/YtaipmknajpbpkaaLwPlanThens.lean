import Derived.Test.YtaipmknajpbpkaaPnH
import Derived.Test.YtaipmknajpbpkaaCgA
set_option linter.unusedSimpArgs false
set_option linter.unusedVariables false
set_option maxRecDepth 8000
set_option maxHeartbeats 1000000
namespace Go.Par
open Go.Proofs

theorem law_PlanThens (g : G) (hg : g.wide) (lb : List (List Bool)) (hB : (DK.sl (.sl .bool)).fits lb) (p : Int) (_ : DK.fits .int p) (q : Int) (_ : DK.fits .int q) : Pure Try.prog 4 [g.av, .ro false (bools2 lb), .int .i64 p, .int .i64 q] (.bool true) := by
  have hf := hg.f
  have sH := l18_Heavy g hf [] lb (by simp) (G.wide.rows2 hB)
  have sT := plan_Then g hf lb p q
  have sR := r9_PlanThen g hf lb p q
  intro h
  refine AC.body Θ_ok Try.func4 rfl rfl (Nat.le_of_ble_eq_true rfl) ?_
  refine AW.seq fun _ k1 => AW.region [] Θ_ok ?_
  simp
  refine k1 _ ?_
  refine AW.seq fun _ k1 => ?_
  by_cases h1 : 0 < heavy18 g [] lb
  · refine AW.seq fun _ k2 => AW.regionAt 3 [] Θ_ok fun B hB => ?_
    simp
    refine sH.use (by simp [G.av]) ?_
    refine hB _ ?_
    clear hB B
    simp [h1]
    refine k2 _ ?_
    refine AW.cond true (by simp [Int.natCast_inj]) (fun _ => ?_) (fun h => by cases h)
    refine AW.seq fun _ kr => AW.region [] Θ_ok ?_
    simp
    refine (l19_awake).use (by simp [G.av]) ?_
    try simp
    refine kr _ (AW.ret ?_)
    simp [Try.f4]
    exact Fin.refl ⟨rfl, rfl⟩
  have h1' := Int.not_lt.1 h1
  refine AW.seq fun _ k2 => AW.regionAt 3 [] Θ_ok fun B hB => ?_
  simp
  refine sH.use (by simp [G.av]) ?_
  refine hB _ ?_
  clear hB B
  simp [h1, h1']
  refine k2 _ ?_
  refine AW.cond false (by simp [Int.natCast_inj]) (fun h => by cases h) (fun _ => ?_)
  refine AW.skip ?_
  simp
  refine k1 _ ?_
  generalize planTh g lb p q = e at *
  refine AW.seq fun _ kr => AW.draw [] 15 [] Θ_ok mixed (by kernel_rfl) (by kernel_rfl) ?_
  refine vcDraw_split 4 fun B hB => ?_
  simp [vcPre, vcTail, callA, isAlloc, isLoad, effOp, obl, obA, mkOK, valA]
  refine hB _ _ _ ?_
  clear hB B
  refine vcPre_split 1 fun B hB => ?_
  simp [vcPre, vcTail, callA, isAlloc, isLoad, effOp, obl, obA, mkOK, valA]
  refine ⟨_, sT.wk (by simp [G.av]), ?_⟩
  refine hB _ _ _ ?_
  clear hB B
  refine vcPre_split 5 fun B hB => ?_
  simp [vcPre, vcTail, callA, isAlloc, isLoad, effOp, obl, obA, mkOK, valA]
  refine ⟨_, sR.wk (by simp [G.av]), ?_⟩
  refine hB _ _ _ ?_
  clear hB B
  refine vcPre_split 3 fun B hB => ?_
  simp [vcPre, vcTail, callA, isAlloc, isLoad, effOp, obl, obA, mkOK, valA]
  refine ⟨_, l19_awake.wk (by simp), ?_⟩
  refine hB _ _ _ ?_
  clear hB B
  simp [vcPre, vcTail, callA, isAlloc, isLoad, effOp, obl, obA, mkOK, valA]
  refine kr _ (AW.ret ?_)
  simp [Try.f4]
  exact Fin.refl ⟨rfl, rfl⟩
end Go.Par
