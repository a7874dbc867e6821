import Derived.Test.YtihlpchiomkinaaAgB
import Derived.Test.YtihlpchiomkinaaRcB
set_option linter.unusedSimpArgs false
set_option linter.unusedVariables false
set_option maxRecDepth 8000
set_option maxHeartbeats 1000000
namespace Go.Par
open Go.Proofs

theorem law_RecurEither (g : G) (hg : g.wide) (p : Int) (hp : DK.fits .int p) (a : List Bool) (ha : (DK.sl .bool).fits a) : Pure Try.prog 4 [g.av, .int .i64 p, .ro false (bools a)] (.bool true) := by
  have hf := hg.f
  have sl := l14_light g hf a
  have hlb : light12 g a = true → (a : List Bool).length ≤ 300 := fun h => by
    simp only [light12, Bool.and_eq_true, decide_eq_true_eq] at h; exact h.2
  generalize light12 g a = lb at *
  intro h
  refine AC.body Θ_ok Try.func4 rfl rfl (Nat.le_of_ble_eq_true rfl) ?_
  refine AW.seq fun _ k1 => AW.region [] Θ_ok ?_
  simp
  refine k1 _ ?_
  by_cases h1 : lb = true
  · subst h1
    have ha3 := hlb rfl
    by_cases hm : mayE g = 0
    · have hn3 := (may_ok hm).1
      have hn2 := (may_ok hm).2.1
      refine AW.seq fun _ k1 => ?_
      refine AW.seq fun _ k2 => AW.regionAt 3 [] Θ_ok fun B hB => ?_
      simp
      refine sl.use (by simp [G.av]) ?_
      refine hB _ ?_
      clear hB B
      refine vcOps_split 4 fun B hB => ?_
      simp
      refine (r9_May g hf).use (by simp [G.av]) ?_
      refine hB _ ?_
      clear hB B
      simp [hm]
      refine k2 _ ?_
      refine AW.cond false (by simp [Int.natCast_inj]) (fun h => by cases h) (fun _ => ?_)
      refine AW.skip ?_
      simp
      refine k1 _ ?_
      refine AW.seq fun _ k1 => AW.region [] Θ_ok ?_
      simp
      refine k1 _ ?_
      have hw := who2_cases p
      change AW _ _ _ ⟨_, (1, .int .i64 (who2 p)) :: _, _⟩
      generalize who2 p = W at hw
      have hok : okP g W := ⟨hm, hw⟩
      have hokF : okForce g W := ⟨hm, hw⟩
      have hs : IntKind.i64.wrap (1 - W) = 1 - W := wrap_id (by omega) (by omega)
      have hok3 : okP g (1 - W) := ⟨hm, by omega⟩
      have sA := recur_Again g hf W a
      rw [agA, if_pos hok] at sA
      have sN := pre_Not g a hf.owner
      have sS := recur_Stay g hf (1 - W) (notL g a)
      rw [stA, if_pos hok3] at sS
      have sK := safe_Keep g hf W a (by omega)
      rw [keepA, if_pos hok] at sK
      have sT := recur_Stay g hf W a
      rw [stA, if_pos hok] at sT
      have lA : (agL g W a).length = g.owner.length := ag_len hm a
      have lS := st_len g (1 - W) (notL g a)
      have lK := keepL_len g W a
      have lT := st_len g W a
      have e1 : ∀ v (h : v < (agL g W a).length) (h' : v < (stL g (1 - W) (notL g a)).length), (agL g W a)[v] = !(stL g (1 - W) (notL g a))[v] := by
        intro v h h'
        have := congrArg (fun l => hasN l v) (st_either (s := a) hm hw)
        rw [has_not (show v < g.owner.length by omega)] at this
        have : (stL g (1 - W) (notL g a))[v] = !(agL g W a)[v] := by simpa [hasN, h, h'] using this
        rw [this, Bool.not_not]
      have e2 : ∀ v (h : v < (keepL g W a).length) (h' : v < (stL g W a).length), (keepL g W a)[v] = true → (stL g W a)[v] = true := by
        intro v h h' q
        have := keep_stays (who := W) (s := a) hm (show v < g.owner.length by omega) (by simpa [hasN, h] using q)
        simpa [hasN, h'] using this
      have e3 : ∀ v (h : v < (stL g W a).length) (h' : v < (agL g W a).length), (stL g W a)[v] = true → (agL g W a)[v] = true := by
        intro v h h' q
        have := stay_comes (s := a) hm hw v (show v < g.owner.length by omega) (by simpa [hasN, h] using q)
        simpa [hasN, h'] using this
      generalize stL g (1 - W) (notL g a) = S at *
      generalize agL g W a = A at *
      generalize keepL g W a = K at *
      generalize stL g W a = T at *
      generalize notL g a = N at *
      refine AW.seq fun _ k1 => AW.draw [] 13 [] Θ_ok mixed (by kernel_rfl) (by kernel_rfl) ?_
      refine vcDraw_split 4 fun B hB => ?_
      simp [vcPre, vcTail, callA, isAlloc, isLoad, effOp, obl, obA, mkOK, valA, hs]
      refine ⟨_, sA.wk (by simp [G.av]), ?_⟩
      refine hB _ _ _ ?_
      clear hB B
      refine vcPre_split 6 fun B hB => ?_
      simp [vcPre, vcTail, callA, isAlloc, isLoad, effOp, obl, obA, mkOK, valA, hs]
      refine ⟨_, sN.wk (by simp [G.av]), ?_⟩
      refine hB _ _ _ ?_
      clear hB B
      refine vcPre_split 1 fun B hB => ?_
      simp [vcPre, vcTail, callA, isAlloc, isLoad, effOp, obl, obA, mkOK, valA]
      refine ⟨_, sS.wk (by simp [G.av]), ?_⟩
      refine hB _ _ _ ?_
      clear hB B
      simp [vcPre, vcTail, callA, isAlloc, isLoad, effOp, obl, obA, mkOK, valA]
      refine k1 _ ?_
      refine AW.seq fun _ k1 => AW.draw [] 10 [] Θ_ok mixed (by kernel_rfl) (by kernel_rfl) ?_
      refine vcDraw_split 4 fun B hB => ?_
      simp [vcPre, vcTail, callA, isAlloc, isLoad, effOp, obl, obA, mkOK, valA]
      refine ⟨_, sK.wk (by simp [G.av]), ?_⟩
      refine hB _ _ _ ?_
      clear hB B
      refine vcPre_split 4 fun B hB => ?_
      simp [vcPre, vcTail, callA, isAlloc, isLoad, effOp, obl, obA, mkOK, valA]
      refine ⟨_, sT.wk (by simp [G.av]), ?_⟩
      refine hB _ _ _ ?_
      clear hB B
      simp [vcPre, vcTail, callA, isAlloc, isLoad, effOp, obl, obA, mkOK, valA]
      refine k1 _ ?_
      refine AW.seq fun _ k1 => ?_
      refine AW.seq fun _ k2 => AW.region [] Θ_ok ?_
      simp [lA, lS, lK, lT]
      refine k2 _ ?_
      refine AW.cond false (by simp [Int.natCast_inj]) (fun h => by cases h) (fun _ => ?_)
      refine AW.skip ?_
      simp
      refine k1 _ ?_
      refine AW.seq fun _ k1 => ?_
      refine AW.seq fun _ k2 => AW.region [] Θ_ok ?_
      simp
      refine k2 _ ?_
      refine AW.block ?_
      refine AW.loopI (X := Nat) (fun x => x ≤ A.length) (fun x => ⟨114, [(7, .ro true (bools A)), (8, .ro true (bools S)), (9, .ro true (bools K)), (10, .ro true (bools T)), (73, .int .i64 A.length), (74, .int .i64 x)], h⟩) (fun x => A.length - x) 0 (Nat.zero_le _) (GStep.eq (by simp) (subH.refl _)) fun x hx => ?_
      refine AW.seq fun _ k2 => AW.region [] Θ_ok ?_
      simp
      refine k2 _ ?_
      by_cases hlt : x < A.length
      · have inc := wrap_succ (show x < 9223372036854775807 by omega)
        have hltS : x < S.length := by omega
        have hltK : x < K.length := by omega
        have hltT : x < T.length := by omega
        have f1 := e1 x hlt hltS
        have f2 := e2 x hltK hltT
        have f3 := e3 x hltT hlt
        clear e1 e2 e3
        refine AW.seq fun _ k2 => AW.cond true (by simp [Int.natCast_inj, hlt]) (fun _ => ?_) (fun h => by cases h)
        refine AW.skip ?_
        simp
        refine k2 _ ?_
        refine AW.seq fun _ k2 => ?_
        refine AW.block ?_
        refine AW.seq fun _ k3 => AW.region [] Θ_ok ?_
        simp
        refine k3 _ ?_
        cases q1 : K[x]
        · cases q2 : T[x]
          · refine AW.seq fun _ k3 => AW.draw [] 35 [] Θ_ok mixed (by kernel_rfl) (by kernel_rfl) ?_
            refine vcDraw_split 8 fun B hB => ?_
            simp [vcPre, vcTail, callA, isAlloc, isLoad, effOp, obl, obA, mkOK, valA, hlt, hltS, hltK, hltT]
            refine hB _ _ _ ?_
            clear hB B
            simp [vcPre, vcTail, callA, isAlloc, isLoad, effOp, obl, obA, mkOK, valA, hlt, hltS, hltK, hltT, f1, q1, q2]
            refine k3 _ ?_
            refine AW.cond false (by simp [Int.natCast_inj]) (fun h => by cases h) (fun _ => ?_)
            refine AW.skip ?_
            simp
            refine k2 _ ?_
            refine AW.region [] Θ_ok ?_
            simp
            exact ⟨x + 1, by omega, by omega, GStep.eq (by simp [inc]) (subH.refl _)⟩
          · have q3 := f3 q2
            rw [q3] at f1
            have f1 : S[x] = false := by simpa using f1.symm
            refine AW.seq fun _ k3 => AW.draw [] 35 [] Θ_ok mixed (by kernel_rfl) (by kernel_rfl) ?_
            simp [vcDraw, vcPre, vcTail, callA, isAlloc, isLoad, effOp, obl, obA, mkOK, valA, hlt, hltS, hltK, hltT, f1, q1, q2, q3]
            refine k3 _ ?_
            refine AW.cond false (by simp [Int.natCast_inj]) (fun h => by cases h) (fun _ => ?_)
            refine AW.skip ?_
            simp
            refine k2 _ ?_
            refine AW.region [] Θ_ok ?_
            simp
            exact ⟨x + 1, by omega, by omega, GStep.eq (by simp [inc]) (subH.refl _)⟩
        · have q2 := f2 q1
          have q3 := f3 q2
          rw [q3] at f1
          have f1 : S[x] = false := by simpa using f1.symm
          refine AW.seq fun _ k3 => AW.draw [] 35 [] Θ_ok mixed (by kernel_rfl) (by kernel_rfl) ?_
          simp [vcDraw, vcPre, vcTail, callA, isAlloc, isLoad, effOp, obl, obA, mkOK, valA, hlt, hltS, hltK, hltT, f1, q1, q2, q3]
          refine k3 _ ?_
          refine AW.cond false (by simp [Int.natCast_inj]) (fun h => by cases h) (fun _ => ?_)
          refine AW.skip ?_
          simp
          refine k2 _ ?_
          refine AW.region [] Θ_ok ?_
          simp
          exact ⟨x + 1, by omega, by omega, GStep.eq (by simp [inc]) (subH.refl _)⟩
      obtain rfl : x = A.length := by omega
      refine AW.seq fun _ k2 => AW.cond false (by simp [Int.natCast_inj]) (fun h => by cases h) (fun _ => ?_)
      refine AW.exit ?_
      simp
      refine k1 _ ?_
      refine AW.seq fun _ kr => AW.region [] Θ_ok ?_
      simp
      refine (l14_awake).use (by simp [G.av]) ?_
      try simp
      refine kr _ (AW.ret ?_)
      simp [Try.f4]
      exact Fin.refl ⟨rfl, rfl⟩
    · refine AW.seq fun _ k1 => ?_
      refine AW.seq fun _ k2 => AW.regionAt 3 [] Θ_ok fun B hB => ?_
      simp
      refine sl.use (by simp [G.av]) ?_
      refine hB _ ?_
      clear hB B
      refine vcOps_split 4 fun B hB => ?_
      simp
      refine (r9_May g hf).use (by simp [G.av]) ?_
      refine hB _ ?_
      clear hB B
      simp [hm]
      refine k2 _ ?_
      refine AW.cond true (by simp [Int.natCast_inj, hm]) (fun _ => ?_) (fun h => by cases h)
      refine AW.seq fun _ kr => AW.region [] Θ_ok ?_
      simp
      refine (l14_awake).use (by simp [G.av]) ?_
      try simp
      refine kr _ (AW.ret ?_)
      simp [Try.f4]
      exact Fin.refl ⟨rfl, rfl⟩
  · have h1 : lb = false := by simpa using h1
    subst h1
    refine AW.seq fun _ k1 => ?_
    refine AW.seq fun _ k2 => AW.regionAt 3 [] Θ_ok fun B hB => ?_
    simp
    refine sl.use (by simp [G.av]) ?_
    refine hB _ ?_
    clear hB B
    simp
    refine k2 _ ?_
    refine AW.cond true (by simp [Int.natCast_inj]) (fun _ => ?_) (fun h => by cases h)
    refine AW.seq fun _ kr => AW.region [] Θ_ok ?_
    simp
    refine (l14_awake).use (by simp [G.av]) ?_
    try simp
    refine kr _ (AW.ret ?_)
    simp [Try.f4]
    exact Fin.refl ⟨rfl, rfl⟩
end Go.Par
