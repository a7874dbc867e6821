import Derived.Test.YtihlpchiomkinaaAgB
import Derived.Test.YtihlpchiomkinaaRcB
set_option linter.unusedSimpArgs false
set_option linter.unusedVariables false
set_option maxRecDepth 8000
set_option maxHeartbeats 1000000
namespace Go.Par
open Go.Proofs

theorem law_RecurForced (g : G) (hg : g.wide) (p : Int) (hp : DK.fits .int p) (a : List Bool) (ha : (DK.sl .bool).fits a) : Pure Try.prog 3 [g.av, .int .i64 p, .ro false (bools a)] (.bool true) := by
  have hf := hg.f
  have sl := l14_light g hf a
  have hlb : light12 g a = true → (a : List Bool).length ≤ 300 := fun h => by
    simp only [light12, Bool.and_eq_true, decide_eq_true_eq] at h; exact h.2
  generalize light12 g a = lb at *
  intro h
  refine AC.body Θ_ok Try.func3 rfl rfl (Nat.le_of_ble_eq_true rfl) ?_
  refine AW.seq fun _ k1 => AW.region [] Θ_ok ?_
  simp
  refine k1 _ ?_
  by_cases h1 : lb = true
  · subst h1
    have ha3 := hlb rfl
    by_cases hm : mayE g = 0
    · have hn3 := (may_ok hm).1
      have hn2 := (may_ok hm).2.1
      refine AW.seq fun _ k1 => ?_
      refine AW.seq fun _ k2 => AW.regionAt 3 [] Θ_ok fun B hB => ?_
      simp
      refine sl.use (by simp [G.av]) ?_
      refine hB _ ?_
      clear hB B
      refine vcOps_split 4 fun B hB => ?_
      simp
      refine (r9_May g hf).use (by simp [G.av]) ?_
      refine hB _ ?_
      clear hB B
      simp [hm]
      refine k2 _ ?_
      refine AW.cond false (by simp [Int.natCast_inj]) (fun h => by cases h) (fun _ => ?_)
      refine AW.skip ?_
      simp
      refine k1 _ ?_
      refine AW.seq fun _ k1 => AW.region [] Θ_ok ?_
      simp
      refine k1 _ ?_
      have hw := who2_cases p
      change AW _ _ _ ⟨_, (1, .int .i64 (who2 p)) :: _, _⟩
      generalize who2 p = W at hw
      have hok : okP g W := ⟨hm, hw⟩
      have hokF : okForce g W := ⟨hm, hw⟩
      have hs : IntKind.i64.wrap (1 - W) = 1 - W := wrap_id (by omega) (by omega)
      have hok3 : okP g (1 - W) := ⟨hm, by omega⟩
      have sA := recur_Again g hf W a
      rw [agA, if_pos hok] at sA
      have sS := recur_Stay g hf W a
      rw [stA, if_pos hok] at sS
      have lA : (agL g W a).length = g.owner.length := ag_len hm a
      have lS := st_len g W a
      have sF := pre_Force g hf W (agL g W a)
      rw [forceA, if_pos hokF, ag_force hm] at sF
      have sF2 := pre_Force g hf W (stL g W a)
      rw [forceA, if_pos hokF, st_force hm hw] at sF2
      have sN := pre_And g a (agL g W a) hf.owner
      have sA2 := recur_Again g hf W (andL g a (agL g W a))
      rw [agA, if_pos hok, ag_and hm] at sA2
      generalize andL g a (agL g W a) = N at *
      generalize stL g W a = S at *
      generalize agL g W a = A at *
      refine AW.seq fun _ k1 => AW.draw [] 10 [] Θ_ok mixed (by kernel_rfl) (by kernel_rfl) ?_
      refine vcDraw_split 4 fun B hB => ?_
      simp [vcPre, vcTail, callA, isAlloc, isLoad, effOp, obl, obA, mkOK, valA]
      refine ⟨_, sA.wk (by simp [G.av]), ?_⟩
      refine hB _ _ _ ?_
      clear hB B
      refine vcPre_split 4 fun B hB => ?_
      simp [vcPre, vcTail, callA, isAlloc, isLoad, effOp, obl, obA, mkOK, valA]
      refine ⟨_, sS.wk (by simp [G.av]), ?_⟩
      refine hB _ _ _ ?_
      clear hB B
      simp [vcPre, vcTail, callA, isAlloc, isLoad, effOp, obl, obA, mkOK, valA]
      refine k1 _ ?_
      refine AW.seq fun _ kr => AW.draw [] 44 [] Θ_ok mixed (by kernel_rfl) (by kernel_rfl) ?_
      refine vcDraw_split 11 fun B hB => ?_
      simp [vcPre, vcTail, callA, isAlloc, isLoad, effOp, obl, obA, mkOK, valA, lA]
      refine ⟨_, sF.wk (by simp [G.av]), ?_⟩
      refine hB _ _ _ ?_
      clear hB B
      refine vcPre_split 2 fun B hB => ?_
      simp [vcPre, vcTail, callA, isAlloc, isLoad, effOp, obl, obA, mkOK, valA]
      refine ⟨_, (r9_SameRow A A (by omega)).wk (by simp), ?_⟩
      refine hB _ _ _ ?_
      clear hB B
      refine vcPre_split 13 fun B hB => ?_
      simp [vcPre, vcTail, callA, isAlloc, isLoad, effOp, obl, obA, mkOK, valA, lA, lS]
      refine ⟨_, sF2.wk (by simp [G.av]), ?_⟩
      refine hB _ _ _ ?_
      clear hB B
      refine vcPre_split 2 fun B hB => ?_
      simp [vcPre, vcTail, callA, isAlloc, isLoad, effOp, obl, obA, mkOK, valA]
      refine ⟨_, (r9_SameRow S S (by omega)).wk (by simp), ?_⟩
      refine hB _ _ _ ?_
      clear hB B
      refine vcPre_split 8 fun B hB => ?_
      simp [vcPre, vcTail, callA, isAlloc, isLoad, effOp, obl, obA, mkOK, valA]
      refine ⟨_, sN.wk (by simp [G.av]), ?_⟩
      refine hB _ _ _ ?_
      clear hB B
      refine vcPre_split 1 fun B hB => ?_
      simp [vcPre, vcTail, callA, isAlloc, isLoad, effOp, obl, obA, mkOK, valA]
      refine ⟨_, sA2.wk (by simp [G.av]), ?_⟩
      refine hB _ _ _ ?_
      clear hB B
      refine vcPre_split 2 fun B hB => ?_
      simp [vcPre, vcTail, callA, isAlloc, isLoad, effOp, obl, obA, mkOK, valA]
      refine ⟨_, (r9_SameRow A A (by omega)).wk (by simp), ?_⟩
      refine hB _ _ _ ?_
      clear hB B
      refine vcPre_split 3 fun B hB => ?_
      simp [vcPre, vcTail, callA, isAlloc, isLoad, effOp, obl, obA, mkOK, valA]
      refine ⟨_, l14_awake.wk (by simp), ?_⟩
      refine hB _ _ _ ?_
      clear hB B
      simp [vcPre, vcTail, callA, isAlloc, isLoad, effOp, obl, obA, mkOK, valA]
      refine kr _ (AW.ret ?_)
      simp [Try.f3]
      exact Fin.refl ⟨rfl, rfl⟩

    · refine AW.seq fun _ k1 => ?_
      refine AW.seq fun _ k2 => AW.regionAt 3 [] Θ_ok fun B hB => ?_
      simp
      refine sl.use (by simp [G.av]) ?_
      refine hB _ ?_
      clear hB B
      refine vcOps_split 4 fun B hB => ?_
      simp
      refine (r9_May g hf).use (by simp [G.av]) ?_
      refine hB _ ?_
      clear hB B
      simp [hm]
      refine k2 _ ?_
      refine AW.cond true (by simp [Int.natCast_inj, hm]) (fun _ => ?_) (fun h => by cases h)
      refine AW.seq fun _ kr => AW.region [] Θ_ok ?_
      simp
      refine (l14_awake).use (by simp [G.av]) ?_
      try simp
      refine kr _ (AW.ret ?_)
      simp [Try.f3]
      exact Fin.refl ⟨rfl, rfl⟩
  · have h1 : lb = false := by simpa using h1
    subst h1
    refine AW.seq fun _ k1 => ?_
    refine AW.seq fun _ k2 => AW.regionAt 3 [] Θ_ok fun B hB => ?_
    simp
    refine sl.use (by simp [G.av]) ?_
    refine hB _ ?_
    clear hB B
    simp
    refine k2 _ ?_
    refine AW.cond true (by simp [Int.natCast_inj]) (fun _ => ?_) (fun h => by cases h)
    refine AW.seq fun _ kr => AW.region [] Θ_ok ?_
    simp
    refine (l14_awake).use (by simp [G.av]) ?_
    try simp
    refine kr _ (AW.ret ?_)
    simp [Try.f3]
    exact Fin.refl ⟨rfl, rfl⟩
end Go.Par
