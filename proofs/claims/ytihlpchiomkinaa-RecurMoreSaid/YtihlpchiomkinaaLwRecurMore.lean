import Derived.Test.YtihlpchiomkinaaAgB
import Derived.Test.YtihlpchiomkinaaRcB
import Derived.Test.YtihlpchiomkinaaFgB
set_option linter.unusedSimpArgs false
set_option linter.unusedVariables false
set_option maxRecDepth 8000
set_option maxHeartbeats 1000000
namespace Go.Par
open Go.Proofs

theorem law_RecurMore (g : G) (hg : g.wide) (p : Int) (hp : DK.fits .int p) (a : List Bool) (ha : (DK.sl .bool).fits a) (b : List Bool) (hb : (DK.sl .bool).fits b) : Pure Try.prog 5 [g.av, .int .i64 p, .ro false (bools a), .ro false (bools b)] (.bool true) := by
  have hf := hg.f
  have sl := l14_light g hf a
  have hlb : light12 g a = true → (a : List Bool).length ≤ 300 := fun h => by
    simp only [light12, Bool.and_eq_true, decide_eq_true_eq] at h; exact h.2
  generalize light12 g a = lb at *
  intro h
  refine AC.body Θ_ok Try.func5 rfl rfl (Nat.le_of_ble_eq_true rfl) ?_
  refine AW.seq fun _ k1 => AW.region [] Θ_ok ?_
  simp
  refine k1 _ ?_
  by_cases h1 : lb = true
  · subst h1
    have ha3 := hlb rfl
    by_cases h2 : b.length ≤ 300
    · have h2' : ¬ (300 : Int) < b.length := by omega
      have h2'' : ¬ 300 < b.length := by omega
      by_cases hm : mayE g = 0
      · have hn3 := (may_ok hm).1
        have hn2 := (may_ok hm).2.1
        refine AW.seq fun _ k1 => ?_
        refine AW.seq fun _ k2 => AW.regionAt 3 [] Θ_ok fun B hB => ?_
        simp
        refine sl.use (by simp [G.av]) ?_
        refine hB _ ?_
        clear hB B
        refine vcOps_split 9 fun B hB => ?_
        simp [h2', h2'']
        refine (r9_May g hf).use (by simp [G.av]) ?_
        refine hB _ ?_
        clear hB B
        simp [hm]
        refine k2 _ ?_
        refine AW.cond false (by simp [Int.natCast_inj]) (fun h => by cases h) (fun _ => ?_)
        refine AW.skip ?_
        simp
        refine k1 _ ?_
        refine AW.seq fun _ k1 => AW.region [] Θ_ok ?_
        simp
        refine k1 _ ?_
        have hw := who2_cases p
        change AW _ _ _ ⟨_, (1, .int .i64 (who2 p)) :: _, _⟩
        generalize who2 p = W at hw
        have hok : okP g W := ⟨hm, hw⟩
        have sT := pre_Not g [] hf.owner
        have sA := recur_Again g hf W a
        rw [agA, if_pos hok] at sA
        have sO := pre_Or g a b hf.owner
        have sB := recur_Again g hf W (orL g a b)
        rw [agA, if_pos hok] at sB
        have lA : (agL g W a).length = g.owner.length := ag_len hm a
        have lB : (agL g W (orL g a b)).length = g.owner.length := ag_len hm _
        have hle : ∀ v (h : v < (agL g W a).length) (h' : v < (agL g W (orL g a b)).length), (agL g W a)[v] = true → (agL g W (orL g a b))[v] = true := by
          intro v h h' q
          have := ag_mono (who := W) (a := a) (b := orL g a b) hm (fun u hu c => by rw [has_or hu, c]; rfl) v (show v < g.owner.length by omega) (by simpa [hasN, h] using q)
          simpa [hasN, h'] using this
        have sX := recur_Again g hf W (notL g [])
        rw [agA, if_pos hok, ag_all hm hw] at sX
        have sY := recur_Stay g hf W (notL g [])
        rw [stA, if_pos hok, st_all hm hw] at sY
        have sK := safe_Keep g hf W (notL g []) (by rw [len_not]; omega)
        rw [keepA, if_pos hok] at sK
        have lK := keepL_len g W (notL g [])
        have sW := recur_Ways g hf W a
        rw [recA, if_pos hok] at sW
        have sF := graph_Follow g hf W (recL g W a)
        rw [waysA, if_pos hm] at sF
        have sM := graph_May (waysG g (followP g W (recL g W a))) (waysG_fits hf _)
        rw [waysG_may hm _, waysG_eq hm] at sM
        generalize keepL g W (notL g []) = K at *
        generalize notL g [] = N at *
        generalize agL g W (orL g a b) = B2 at *
        generalize orL g a b = O at *
        generalize agL g W a = A at *
        generalize waysL g (followP g W (recL g W a)) = F at *
        generalize recL g W a = Wy at *
        refine AW.seq fun _ k1 => AW.regionAt 2 [] Θ_ok fun B hB => ?_
        simp
        refine sT.use (by simp [G.av]) ?_
        refine hB _ ?_
        clear hB B
        simp
        refine k1 _ ?_
        refine AW.seq fun _ k1 => AW.draw [] 13 [] Θ_ok mixed (by kernel_rfl) (by kernel_rfl) ?_
        refine vcDraw_split 4 fun B hB => ?_
        simp [vcPre, vcTail, callA, isAlloc, isLoad, effOp, obl, obA, mkOK, valA]
        refine ⟨_, sA.wk (by simp [G.av]), ?_⟩
        refine hB _ _ _ ?_
        clear hB B
        refine vcPre_split 6 fun B hB => ?_
        simp [vcPre, vcTail, callA, isAlloc, isLoad, effOp, obl, obA, mkOK, valA]
        refine ⟨_, sO.wk (by simp [G.av]), ?_⟩
        refine hB _ _ _ ?_
        clear hB B
        refine vcPre_split 1 fun B hB => ?_
        simp [vcPre, vcTail, callA, isAlloc, isLoad, effOp, obl, obA, mkOK, valA]
        refine ⟨_, sB.wk (by simp [G.av]), ?_⟩
        refine hB _ _ _ ?_
        clear hB B
        simp [vcPre, vcTail, callA, isAlloc, isLoad, effOp, obl, obA, mkOK, valA]
        refine k1 _ ?_
        refine AW.seq fun _ k1 => ?_
        refine AW.seq fun _ k2 => AW.region [] Θ_ok ?_
        simp [lA, lB]
        refine k2 _ ?_
        refine AW.cond false (by simp [Int.natCast_inj]) (fun h => by cases h) (fun _ => ?_)
        refine AW.skip ?_
        simp
        refine k1 _ ?_
        refine AW.seq fun _ k1 => ?_
        refine AW.seq fun _ k2 => AW.region [] Θ_ok ?_
        simp
        refine k2 _ ?_
        refine AW.block ?_
        refine AW.loopI (X := Nat) (fun x => x ≤ A.length) (fun x => ⟨109, [(1, .int .i64 W), (2, .ro false (bools a)), (4, .rop [.ro false (ints g.owner), .ro false (rows g.next)]), (9, .ro true (bools N)), (10, .ro true (bools A)), (11, .ro true (bools B2)), (59, .int .i64 A.length), (60, .int .i64 x)], h⟩) (fun x => A.length - x) 0 (Nat.zero_le _) (GStep.eq (by simp) (subH.refl _)) fun x hx => ?_
        refine AW.seq fun _ k2 => AW.region [] Θ_ok ?_
        simp
        refine k2 _ ?_
        by_cases hlt : x < A.length
        · have inc := wrap_succ (show x < 9223372036854775807 by omega)
          have hltB : x < B2.length := by omega
          have f1 := hle x hlt hltB
          clear hle
          refine AW.seq fun _ k2 => AW.cond true (by simp [Int.natCast_inj, hlt]) (fun _ => ?_) (fun h => by cases h)
          refine AW.skip ?_
          simp
          refine k2 _ ?_
          refine AW.seq fun _ k2 => ?_
          refine AW.block ?_
          refine AW.seq fun _ k3 => AW.region [] Θ_ok ?_
          simp
          refine k3 _ ?_
          cases q1 : A[x]
          · refine AW.seq fun _ k3 => AW.region [] Θ_ok ?_
            simp [hlt, hltB, q1]
            refine k3 _ ?_
            refine AW.cond false (by simp [Int.natCast_inj]) (fun h => by cases h) (fun _ => ?_)
            refine AW.skip ?_
            simp
            refine k2 _ ?_
            refine AW.region [] Θ_ok ?_
            simp
            exact ⟨x + 1, by omega, by omega, GStep.eq (by simp [inc]) (subH.refl _)⟩
          · have q2 := f1 q1
            refine AW.seq fun _ k3 => AW.region [] Θ_ok ?_
            simp [hlt, hltB, q1, q2]
            refine k3 _ ?_
            refine AW.cond false (by simp [Int.natCast_inj]) (fun h => by cases h) (fun _ => ?_)
            refine AW.skip ?_
            simp
            refine k2 _ ?_
            refine AW.region [] Θ_ok ?_
            simp
            exact ⟨x + 1, by omega, by omega, GStep.eq (by simp [inc]) (subH.refl _)⟩
        obtain rfl : x = A.length := by omega
        refine AW.seq fun _ k2 => AW.cond false (by simp [Int.natCast_inj]) (fun h => by cases h) (fun _ => ?_)
        refine AW.exit ?_
        simp
        refine k1 _ ?_
        refine AW.seq fun _ kr => AW.draw [] 35 [] Θ_ok mixed (by kernel_rfl) (by kernel_rfl) ?_
        refine vcDraw_split 4 fun B hB => ?_
        simp [vcPre, vcTail, callA, isAlloc, isLoad, effOp, obl, obA, mkOK, valA]
        refine ⟨_, sX.wk (by simp [G.av]), ?_⟩
        refine hB _ _ _ ?_
        clear hB B
        refine vcPre_split 4 fun B hB => ?_
        simp [vcPre, vcTail, callA, isAlloc, isLoad, effOp, obl, obA, mkOK, valA]
        refine ⟨_, sK.wk (by simp [G.av]), ?_⟩
        refine hB _ _ _ ?_
        clear hB B
        refine vcPre_split 1 fun B hB => ?_
        simp [vcPre, vcTail, callA, isAlloc, isLoad, effOp, obl, obA, mkOK, valA]
        refine ⟨_, (r9_SameRow K K (by omega)).wk (by simp), ?_⟩
        refine hB _ _ _ ?_
        clear hB B
        refine vcPre_split 5 fun B hB => ?_
        simp [vcPre, vcTail, callA, isAlloc, isLoad, effOp, obl, obA, mkOK, valA]
        refine ⟨_, sY.wk (by simp [G.av]), ?_⟩
        refine hB _ _ _ ?_
        clear hB B
        refine vcPre_split 4 fun B hB => ?_
        simp [vcPre, vcTail, callA, isAlloc, isLoad, effOp, obl, obA, mkOK, valA]
        refine ⟨_, sK.wk (by simp [G.av]), ?_⟩
        refine hB _ _ _ ?_
        clear hB B
        refine vcPre_split 1 fun B hB => ?_
        simp [vcPre, vcTail, callA, isAlloc, isLoad, effOp, obl, obA, mkOK, valA]
        refine ⟨_, (r9_SameRow K K (by omega)).wk (by simp), ?_⟩
        refine hB _ _ _ ?_
        clear hB B
        refine vcPre_split 8 fun B hB => ?_
        simp [vcPre, vcTail, callA, isAlloc, isLoad, effOp, obl, obA, mkOK, valA]
        refine ⟨_, sW.wk (by simp [G.av]), ?_⟩
        refine hB _ _ _ ?_
        clear hB B
        refine vcPre_split 1 fun B hB => ?_
        simp [vcPre, vcTail, callA, isAlloc, isLoad, effOp, obl, obA, mkOK, valA]
        refine ⟨_, sF.wk (by simp [G.av]), ?_⟩
        refine hB _ _ _ ?_
        clear hB B
        refine vcPre_split 1 fun B hB => ?_
        simp [vcPre, vcTail, callA, isAlloc, isLoad, effOp, obl, obA, mkOK, valA]
        refine ⟨_, sM.wk (by simp [G.av]), ?_⟩
        refine hB _ _ _ ?_
        clear hB B
        refine vcPre_split 4 fun B hB => ?_
        simp [vcPre, vcTail, callA, isAlloc, isLoad, effOp, obl, obA, mkOK, valA]
        refine ⟨_, l14_awake.wk (by simp), ?_⟩
        refine hB _ _ _ ?_
        clear hB B
        simp [vcPre, vcTail, callA, isAlloc, isLoad, effOp, obl, obA, mkOK, valA]
        refine kr _ (AW.ret ?_)
        simp [Try.f5]
        exact Fin.refl ⟨rfl, rfl⟩
      · refine AW.seq fun _ k1 => ?_
        refine AW.seq fun _ k2 => AW.regionAt 3 [] Θ_ok fun B hB => ?_
        simp
        refine sl.use (by simp [G.av]) ?_
        refine hB _ ?_
        clear hB B
        refine vcOps_split 9 fun B hB => ?_
        simp [h2', h2'']
        refine (r9_May g hf).use (by simp [G.av]) ?_
        refine hB _ ?_
        clear hB B
        simp [hm]
        refine k2 _ ?_
        refine AW.cond true (by simp [Int.natCast_inj, hm]) (fun _ => ?_) (fun h => by cases h)
        refine AW.seq fun _ kr => AW.region [] Θ_ok ?_
        simp
        refine (l14_awake).use (by simp [G.av]) ?_
        try simp
        refine kr _ (AW.ret ?_)
        simp [Try.f5]
        exact Fin.refl ⟨rfl, rfl⟩
    · have h2' : (300 : Int) < b.length := by omega
      have h2'' : 300 < b.length := by omega
      refine AW.seq fun _ k1 => ?_
      refine AW.seq fun _ k2 => AW.regionAt 3 [] Θ_ok fun B hB => ?_
      simp
      refine sl.use (by simp [G.av]) ?_
      refine hB _ ?_
      clear hB B
      simp [h2', h2'']
      refine k2 _ ?_
      refine AW.cond true (by simp [Int.natCast_inj]) (fun _ => ?_) (fun h => by cases h)
      refine AW.seq fun _ kr => AW.region [] Θ_ok ?_
      simp
      refine (l14_awake).use (by simp [G.av]) ?_
      try simp
      refine kr _ (AW.ret ?_)
      simp [Try.f5]
      exact Fin.refl ⟨rfl, rfl⟩
  · have h1 : lb = false := by simpa using h1
    subst h1
    refine AW.seq fun _ k1 => ?_
    refine AW.seq fun _ k2 => AW.regionAt 3 [] Θ_ok fun B hB => ?_
    simp
    refine sl.use (by simp [G.av]) ?_
    refine hB _ ?_
    clear hB B
    simp
    refine k2 _ ?_
    refine AW.cond true (by simp [Int.natCast_inj]) (fun _ => ?_) (fun h => by cases h)
    refine AW.seq fun _ kr => AW.region [] Θ_ok ?_
    simp
    refine (l14_awake).use (by simp [G.av]) ?_
    try simp
    refine kr _ (AW.ret ?_)
    simp [Try.f5]
    exact Fin.refl ⟨rfl, rfl⟩
end Go.Par
