import Derived.Test.YtdicfaplohdopaaPlF
import Derived.Test.YtdicfaplohdopaaFnK
set_option linter.unusedSimpArgs false
set_option maxRecDepth 8000
namespace Go.Par
open Go.Proofs

theorem law_GraphOnce (g : G) (hg : g.wide) (la : List Bool) (_ : (DK.sl .bool).fits la) (lb : List Bool) (_ : (DK.sl .bool).fits lb) : Pure Try.prog 9 [g.av, .ro false (bools la), .ro false (bools lb)] (.bool true) := by
  have hf := hg.f
  intro h
  refine AC.body Θ_ok Try.func9 rfl rfl (Nat.le_of_ble_eq_true rfl) ?_
  refine AW.seq fun _ k1 => AW.region [] Θ_ok ?_
  simp
  refine k1 _ ?_
  refine AW.seq fun _ k1 => ?_
  by_cases hall : ¬ 0 < heavyE g ∧ mayE g = 0 ∧ la.length ≤ 300 ∧ lb.length ≤ 300
  · obtain ⟨h1, hm, h3, h4⟩ := hall
    have hn := (may_ok hm).2.1
    have hn3 := (may_ok hm).1
    refine AW.seq fun _ k2 => AW.regionAt 2 [] Θ_ok fun B hB => ?_
    simp
    refine (l9_Heavy g hf).use (by simp [G.av]) ?_
    refine hB _ ?_
    clear hB B
    refine vcOps_split 4 fun B hB => ?_
    simp [h1, Int.not_lt.1 h1]
    refine (r9_May g hf).use (by simp [G.av]) ?_
    refine hB _ ?_
    clear hB B
    simp [hm, show ¬ 300 < (la.length : Int) by omega, show ¬ 300 < (lb.length : Int) by omega, show (la.length : Int) ≤ 300 by omega, show (lb.length : Int) ≤ 300 by omega, h3, h4]
    refine k2 _ ?_
    refine AW.cond false (by simp [Int.natCast_inj]) (fun h => by cases h) (fun _ => ?_)
    refine AW.skip ?_
    simp
    refine k1 _ ?_
    have fR := graph_Reach g hf la
    rw [reachA, if_pos hm] at fR
    have eR : (reachL g la).length = g.owner.length := reachL_len _ _
    have fO := graph_Only g hf (reachL g la)
    have fC := graph_Reach _ (waysG_fits hf (onlyP (reachL g la))) la
    rw [reachA, if_pos (waysG_may hm _), reach_cut hm] at fC
    have fA := graph_Only g hf lb
    have fAA := graph_Only _ (waysG_fits hf (onlyP lb)) lb
    have fS := graph_Same _ (waysG (waysG g (onlyP lb)) (onlyP lb)) (waysG_fits (waysG_fits hf (onlyP lb)) (onlyP lb))
    rw [ways_twice hm] at fS
    have fSS := graph_Same g g hf
    have wO := waysA_weak g (onlyP (reachL g la))
    have wA := waysA_weak g (onlyP lb)
    have wAA := waysA_weak (waysG g (onlyP lb)) (onlyP lb)
    rw [ways_twice hm] at wAA
    obtain ⟨a, b, eA, g1, g2⟩ := waysA_shape g (onlyP lb)
    rw [eA] at fA wA
    generalize waysA g (onlyP (reachL g la)) = O at fO wO
    generalize waysA (waysG g (onlyP lb)) (onlyP lb) = AA at fAA wAA
    generalize reachL g la = R at *
    refine AW.seq fun _ k1 => AW.region [] Θ_ok ?_
    simp
    refine fR.use (by simp [G.av]) ?_
    refine k1 _ ?_
    refine AW.seq fun _ k1 => AW.regionAt 3 [8] Θ_ok fun B hB => ?_
    simp
    refine fA.use (by simp [G.av]) ?_
    refine hB _ ?_
    clear hB B
    simp [newA, upd_same, g1, g2]
    refine fun o ho => k1 _ ?_
    refine AW.box 8 rfl (upd_same _ _ _) ?_
    simp only [upd_upd_none ho]
    refine AW.seq fun _ kr => AW.draw [] 22 [] Θ_ok mixed (by kernel_rfl) (by kernel_rfl) ?_
    refine vcDraw_split 3 fun B hB => ?_
    simp [vcPre, vcTail, callA, isAlloc, isLoad, effOp, obl, obA, mkOK, valA]
    refine ⟨_, fO.wk (by simp [G.av]), ?_⟩
    refine hB _ _ _ ?_
    clear hB B
    refine vcPre_split 2 fun B hB => ?_
    simp [vcPre, vcTail, callA, isAlloc, isLoad, effOp, obl, obA, mkOK, valA]
    refine ⟨_, fC.wk (by simp [wO]), ?_⟩
    refine hB _ _ _ ?_
    clear hB B
    refine vcPre_split 2 fun B hB => ?_
    simp [vcPre, vcTail, callA, isAlloc, isLoad, effOp, obl, obA, mkOK, valA]
    refine ⟨_, (r9_SameRow R R (by omega)).wk (by simp), ?_⟩
    refine hB _ _ _ ?_
    clear hB B
    refine vcPre_split 4 fun B hB => ?_
    simp [vcPre, vcTail, callA, isAlloc, isLoad, effOp, obl, obA, mkOK, valA]
    refine ⟨_, fAA.wk (by simp [← wA]), ?_⟩
    refine hB _ _ _ ?_
    clear hB B
    refine vcPre_split 2 fun B hB => ?_
    simp [vcPre, vcTail, callA, isAlloc, isLoad, effOp, obl, obA, mkOK, valA]
    refine ⟨_, fS.wk (by simp [← wA, wAA]), ?_⟩
    refine hB _ _ _ ?_
    clear hB B
    refine vcPre_split 5 fun B hB => ?_
    simp [vcPre, vcTail, callA, isAlloc, isLoad, effOp, obl, obA, mkOK, valA]
    refine ⟨_, fSS.wk (by simp [G.av]), ?_⟩
    refine hB _ _ _ ?_
    clear hB B
    refine vcPre_split 3 fun B hB => ?_
    simp [vcPre, vcTail, callA, isAlloc, isLoad, effOp, obl, obA, mkOK, valA]
    refine ⟨_, l9_awake, ?_⟩
    refine hB _ _ _ ?_
    clear hB B
    simp [vcPre, vcTail, callA, isAlloc, isLoad, effOp, obl, obA, mkOK, valA]
    refine kr _ (AW.ret ?_)
    simp [Try.f9]
    exact Fin.refl ⟨rfl, rfl⟩
  · have hb : 0 < heavyE g ∨ ¬ 0 < heavyE g ∧ ¬ mayE g = 0 ∨ ¬ 0 < heavyE g ∧ mayE g = 0 ∧ 300 < (la.length : Int) ∨ ¬ 0 < heavyE g ∧ mayE g = 0 ∧ ¬ 300 < (la.length : Int) ∧ 300 < (lb.length : Int) := by
      by_cases a1 : 0 < heavyE g
      · exact .inl a1
      · by_cases a2 : mayE g = 0
        · by_cases a3 : 300 < (la.length : Int)
          · exact .inr (.inr (.inl ⟨a1, a2, a3⟩))
          · exact .inr (.inr (.inr ⟨a1, a2, a3, by
              by_cases a4 : 300 < (lb.length : Int)
              · exact a4
              · exact absurd ⟨a1, a2, by omega, by omega⟩ hall⟩))
        · exact .inr (.inl ⟨a1, a2⟩)
    rcases hb with h1 | ⟨h1, h2⟩ | ⟨h1, h2, h3⟩ | ⟨h1, h2, h3, h4⟩
    · refine AW.seq fun _ k2 => AW.regionAt 2 [] Θ_ok fun B hB => ?_
      simp
      refine (l9_Heavy g hf).use (by simp [G.av]) ?_
      refine hB _ ?_
      clear hB B
      simp [h1]
      refine k2 _ ?_
      refine AW.cond true (by simp [Int.natCast_inj]) (fun _ => ?_) (fun h => by cases h)
      refine AW.seq fun _ kr => AW.region [] Θ_ok ?_
      simp
      refine (l9_awake).use (by simp [G.av]) ?_
      try simp
      refine kr _ (AW.ret ?_)
      simp [Try.f9]
      exact Fin.refl ⟨rfl, rfl⟩
    · refine AW.seq fun _ k2 => AW.regionAt 2 [] Θ_ok fun B hB => ?_
      simp
      refine (l9_Heavy g hf).use (by simp [G.av]) ?_
      refine hB _ ?_
      clear hB B
      refine vcOps_split 4 fun B hB => ?_
      simp [h1, Int.not_lt.1 h1]
      refine (r9_May g hf).use (by simp [G.av]) ?_
      refine hB _ ?_
      clear hB B
      simp [h2]
      refine k2 _ ?_
      refine AW.cond true (by simp [Int.natCast_inj]) (fun _ => ?_) (fun h => by cases h)
      refine AW.seq fun _ kr => AW.region [] Θ_ok ?_
      simp
      refine (l9_awake).use (by simp [G.av]) ?_
      try simp
      refine kr _ (AW.ret ?_)
      simp [Try.f9]
      exact Fin.refl ⟨rfl, rfl⟩
    · refine AW.seq fun _ k2 => AW.regionAt 2 [] Θ_ok fun B hB => ?_
      simp
      refine (l9_Heavy g hf).use (by simp [G.av]) ?_
      refine hB _ ?_
      clear hB B
      refine vcOps_split 4 fun B hB => ?_
      simp [h1, Int.not_lt.1 h1]
      refine (r9_May g hf).use (by simp [G.av]) ?_
      refine hB _ ?_
      clear hB B
      simp [h2, h3]
      refine k2 _ ?_
      refine AW.cond true (by simp [Int.natCast_inj]) (fun _ => ?_) (fun h => by cases h)
      refine AW.seq fun _ kr => AW.region [] Θ_ok ?_
      simp
      refine (l9_awake).use (by simp [G.av]) ?_
      try simp
      refine kr _ (AW.ret ?_)
      simp [Try.f9]
      exact Fin.refl ⟨rfl, rfl⟩
    · refine AW.seq fun _ k2 => AW.regionAt 2 [] Θ_ok fun B hB => ?_
      simp
      refine (l9_Heavy g hf).use (by simp [G.av]) ?_
      refine hB _ ?_
      clear hB B
      refine vcOps_split 4 fun B hB => ?_
      simp [h1, Int.not_lt.1 h1]
      refine (r9_May g hf).use (by simp [G.av]) ?_
      refine hB _ ?_
      clear hB B
      simp [h2, h3, Int.not_lt.1 h3, h4]
      refine k2 _ ?_
      refine AW.cond true (by simp [Int.natCast_inj]) (fun _ => ?_) (fun h => by cases h)
      refine AW.seq fun _ kr => AW.region [] Θ_ok ?_
      simp
      refine (l9_awake).use (by simp [G.av]) ?_
      try simp
      refine kr _ (AW.ret ?_)
      simp [Try.f9]
      exact Fin.refl ⟨rfl, rfl⟩
end Go.Par
