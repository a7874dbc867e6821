import Derived.Test.YtkpdhglbkmbojaaGrE
import Derived.Test.YtkpdhglbkmbojaaAgB
set_option linter.unusedSimpArgs false
set_option linter.unusedVariables false
set_option maxRecDepth 8000
set_option maxHeartbeats 1000000
namespace Go.Par
open Go.Proofs

theorem law_GrAgain (g : G) (hg : g.wide) (r : List Bool) (hr : (DK.sl .bool).fits r) : Pure Try.prog 10 [g.av, .ro false (bools r)] (.bool true) := by
  have hf := hg.f
  have sH := l18_Heavy g hf [] [] (by simp) (by simp)
  intro h
  refine AC.body Θ_ok Try.func10 rfl rfl (Nat.le_of_ble_eq_true rfl) ?_
  refine AW.seq fun _ k1 => AW.region [] Θ_ok ?_
  simp
  refine k1 _ ?_
  refine AW.seq fun _ k1 => ?_
  by_cases h1 : 0 < heavy18 g [] []
  · refine AW.seq fun _ k2 => AW.regionAt 2 [] Θ_ok fun B hB => ?_
    simp
    refine sH.use (by simp [G.av]) ?_
    refine hB _ ?_
    clear hB B
    simp [h1]
    refine k2 _ ?_
    refine AW.cond true (by simp [Int.natCast_inj]) (fun _ => ?_) (fun h => by cases h)
    refine AW.seq fun _ kr => AW.region [] Θ_ok ?_
    simp
    refine (l18_awake).use (by simp [G.av]) ?_
    try simp
    refine kr _ (AW.ret ?_)
    simp [Try.f10]
    exact Fin.refl ⟨rfl, rfl⟩
  by_cases h2 : 300 < r.length
  · have h2' : (300 : Int) < r.length := by omega
    refine AW.seq fun _ k2 => AW.regionAt 2 [] Θ_ok fun B hB => ?_
    simp
    refine sH.use (by simp [G.av]) ?_
    refine hB _ ?_
    clear hB B
    simp [h1, Int.not_lt.1 h1, h2, h2']
    refine k2 _ ?_
    refine AW.cond true (by simp [Int.natCast_inj]) (fun _ => ?_) (fun h => by cases h)
    refine AW.seq fun _ kr => AW.region [] Θ_ok ?_
    simp
    refine (l18_awake).use (by simp [G.av]) ?_
    try simp
    refine kr _ (AW.ret ?_)
    simp [Try.f10]
    exact Fin.refl ⟨rfl, rfl⟩
  have h2' : ¬ (300 : Int) < r.length := by omega
  by_cases hm : mayE g = 0
  · have hn3 := (may_ok hm).1
    have hok : okP g 1 := ⟨hm, .inr rfl⟩
    have hokF : okForce g 1 := ⟨hm, .inr rfl⟩
    refine AW.seq fun _ k2 => AW.regionAt 2 [] Θ_ok fun B hB => ?_
    simp
    refine sH.use (by simp [G.av]) ?_
    refine hB _ ?_
    clear hB B
    refine vcOps_split 9 fun B hB => ?_
    simp [h1, Int.not_lt.1 h1, h2, h2']
    refine (r9_May g hf).use (by simp [G.av]) ?_
    refine hB _ ?_
    clear hB B
    simp [hm]
    refine k2 _ ?_
    refine AW.cond false (by simp [Int.natCast_inj]) (fun h => by cases h) (fun _ => ?_)
    refine AW.skip ?_
    simp
    refine k1 _ ?_
    refine AW.seq fun _ k1 => AW.region [24] Θ_ok ?_
    simp
    refine ⟨by omega, fun o ho => k1 _ ?_⟩
    rw [replicate_tab, flat_tab (fun _ _ => rfl)]
    refine AW.seq fun _ k1 => ?_
    refine AW.seq fun _ k2 => AW.region [] Θ_ok ?_
    simp
    refine k2 _ ?_
    refine AW.block ?_
    refine AW.loopI (X := Nat) (fun x => x ≤ g.owner.length) (fun x => ⟨65, [(1, .ro false (bools r)), (2, .rop [.ro false (ints g.owner), .ro false (rows g.next)]), (5, .mu o g.owner.length), (26, .int .i64 g.owner.length), (27, .int .i64 x)], upd h o (some ⟨tab g.owner.length fun i => .bool (decide (i < x)), 4, 1, true⟩)⟩) (fun x => g.owner.length - x) 0 (Nat.zero_le _) (GStep.eq (by simp) ?_) fun x hx => ?_
    · simp; exact subH.refl _
    refine AW.seq fun _ k2 => AW.region [] Θ_ok ?_
    simp
    refine k2 _ ?_
    by_cases hlt : x < g.owner.length
    · have inc := wrap_succ (show x < 9223372036854775807 by omega)
      have hset : (tab g.owner.length fun i => AV.bool (decide (i < x))).set x (.bool true) = tab g.owner.length fun i => .bool (decide (i < x + 1)) := by
        rw [set_tab]
        refine tab_congr fun i hi => ?_
        by_cases e : i = x
        · subst e; simp
        · by_cases h1 : i < x
          · simp [e, h1, show i < x + 1 by omega]
          · simp [e, h1, show ¬ i < x + 1 by omega]
      refine AW.seq fun _ k2 => AW.cond true (by simp [Int.natCast_inj, hlt]) (fun _ => ?_) (fun h => by cases h)
      refine AW.skip ?_
      simp
      refine k2 _ ?_
      refine AW.seq fun _ k2 => ?_
      refine AW.block ?_
      refine AW.seq fun _ k3 => AW.region [] Θ_ok ?_
      simp
      refine k3 _ ?_
      refine AW.region [] Θ_ok ?_
      simp [hlt]
      refine ⟨by omega, k2 _ ?_⟩
      refine AW.region [] Θ_ok ?_
      simp
      exact ⟨x + 1, by omega, by omega, GStep.eq (by simp [inc]) (subH_of_eq (congrArg (fun c => upd h o (some ⟨c, 4, 1, true⟩)) hset))⟩
    obtain rfl : x = g.owner.length := by omega
    refine AW.seq fun _ k2 => AW.cond false (by simp [Int.natCast_inj]) (fun h => by cases h) (fun _ => ?_)
    refine AW.exit ?_
    simp
    refine k1 _ ?_
    refine AW.freeze 5 true rfl (upd_same _ _ _) (fun _ => rfl) rfl (by simp) (ones_bools _ _) ?_
    have e2 : (tab g.owner.length fun i => AV.bool (decide (i < g.owner.length))) = bools (tab g.owner.length fun _ => true) := by
      simp only [bools, map_tab]
      exact tab_congr fun i hi => by simp [hi]
    simp only [upd_upd, upd_none_id ho]
    have hU : ∀ v, v < g.owner.length → hasN (tab g.owner.length fun _ => true) v = true := fun v hv => by simp [hasN, hv]
    have hT : ∀ v, v < g.owner.length → hasN (topL g) v = true := fun v hv => by rw [topL]; exact has_top hv
    have sG1 := gr1_Region g hf [] [r]
    rw [regionA, if_pos ⟨hm, by simp, by simp⟩, solve_all hm hT rfl rfl] at sG1
    have sA := recur_Again g hf 1 r
    rw [agA, if_pos hok] at sA
    have sG2 := gr1_Region g hf [] []
    rw [regionA, if_pos ⟨hm, by simp, by simp⟩, solve_all hm hT rfl rfl] at sG2
    have sK := r9_Keep g hf 1 (tab g.owner.length fun _ => true)
    rw [keepRA, if_pos hokF, keepR_all hm (.inr rfl) hU, show notL g [] = topL g from rfl] at sK
    have sG3 := gr1_Region g hf [tab g.owner.length fun _ => true] [r]
    rw [regionA, if_pos ⟨hm, by simp, by simp⟩, solve_all hm hU rfl rfl] at sG3
    have lA : (agL g 1 r).length = g.owner.length := ag_len hm _
    have lB : (agL g 1 (topL g)).length = g.owner.length := ag_len hm _
    generalize (tab g.owner.length fun _ => true) = U at *
    generalize agL g 1 r = A at *
    generalize agL g 1 (topL g) = Kt at *
    refine AW.seq fun _ kr => AW.draw [] 32 [] Θ_ok mixed (by kernel_rfl) (by kernel_rfl) ?_
    refine vcDraw_split 4 fun B hB => ?_
    simp [vcPre, vcTail, callA, isAlloc, isLoad, effOp, obl, obA, mkOK, valA, e2]
    refine ⟨_, sG1.wk (by simp [G.av]), ?_⟩
    refine hB _ _ _ ?_
    clear hB B
    refine vcPre_split 3 fun B hB => ?_
    simp [vcPre, vcTail, callA, isAlloc, isLoad, effOp, obl, obA, mkOK, valA]
    refine ⟨_, sA.wk (by simp [G.av]), ?_⟩
    refine hB _ _ _ ?_
    clear hB B
    refine vcPre_split 1 fun B hB => ?_
    simp [vcPre, vcTail, callA, isAlloc, isLoad, effOp, obl, obA, mkOK, valA]
    refine ⟨_, (r9_SameRow A A (by omega)).wk (by simp), ?_⟩
    refine hB _ _ _ ?_
    clear hB B
    refine vcPre_split 3 fun B hB => ?_
    simp [vcPre, vcTail, callA, isAlloc, isLoad, effOp, obl, obA, mkOK, valA]
    refine ⟨_, sG2.wk (by simp [G.av]), ?_⟩
    refine hB _ _ _ ?_
    clear hB B
    refine vcPre_split 3 fun B hB => ?_
    simp [vcPre, vcTail, callA, isAlloc, isLoad, effOp, obl, obA, mkOK, valA]
    refine ⟨_, sK.wk (by simp [G.av]), ?_⟩
    refine hB _ _ _ ?_
    clear hB B
    refine vcPre_split 1 fun B hB => ?_
    simp [vcPre, vcTail, callA, isAlloc, isLoad, effOp, obl, obA, mkOK, valA]
    refine ⟨_, (r9_SameRow Kt Kt (by omega)).wk (by simp), ?_⟩
    refine hB _ _ _ ?_
    clear hB B
    refine vcPre_split 8 fun B hB => ?_
    simp [vcPre, vcTail, callA, isAlloc, isLoad, effOp, obl, obA, mkOK, valA]
    refine ⟨_, sG3.wk (by simp [G.av]), ?_⟩
    refine hB _ _ _ ?_
    clear hB B
    refine vcPre_split 3 fun B hB => ?_
    simp [vcPre, vcTail, callA, isAlloc, isLoad, effOp, obl, obA, mkOK, valA]
    refine ⟨_, sA.wk (by simp [G.av]), ?_⟩
    refine hB _ _ _ ?_
    clear hB B
    refine vcPre_split 1 fun B hB => ?_
    simp [vcPre, vcTail, callA, isAlloc, isLoad, effOp, obl, obA, mkOK, valA]
    refine ⟨_, (r9_SameRow A A (by omega)).wk (by simp), ?_⟩
    refine hB _ _ _ ?_
    clear hB B
    refine vcPre_split 3 fun B hB => ?_
    simp [vcPre, vcTail, callA, isAlloc, isLoad, effOp, obl, obA, mkOK, valA]
    refine ⟨_, l18_awake.wk (by simp), ?_⟩
    refine hB _ _ _ ?_
    clear hB B
    simp [vcPre, vcTail, callA, isAlloc, isLoad, effOp, obl, obA, mkOK, valA]
    refine kr _ (AW.ret ?_)
    simp [Try.f10]
    exact Fin.refl ⟨rfl, rfl⟩
  · refine AW.seq fun _ k2 => AW.regionAt 2 [] Θ_ok fun B hB => ?_
    simp
    refine sH.use (by simp [G.av]) ?_
    refine hB _ ?_
    clear hB B
    refine vcOps_split 9 fun B hB => ?_
    simp [h1, Int.not_lt.1 h1, h2, h2']
    refine (r9_May g hf).use (by simp [G.av]) ?_
    refine hB _ ?_
    clear hB B
    simp [hm]
    refine k2 _ ?_
    refine AW.cond true (by simp [Int.natCast_inj, hm]) (fun _ => ?_) (fun h => by cases h)
    refine AW.seq fun _ kr => AW.region [] Θ_ok ?_
    simp
    refine (l18_awake).use (by simp [G.av]) ?_
    try simp
    refine kr _ (AW.ret ?_)
    simp [Try.f10]
    exact Fin.refl ⟨rfl, rfl⟩
end Go.Par
