import Derived.Test.YtlpfokngocdanaaAgB
set_option linter.unusedSimpArgs false
set_option linter.unusedVariables false
set_option maxRecDepth 8000
set_option maxHeartbeats 1000000
namespace Go.Par
open Go.Proofs

theorem law_SafeStays (g : G) (hg : g.wide) (p : Int) (hp : DK.fits .int p) (a : List Bool) (ha : (DK.sl .bool).fits a) : Pure Try.prog 12 [g.av, .int .i64 p, .ro false (bools a)] (.bool true) := by
  have hf := hg.f
  have sl := l13_light g hf a
  have hlb : light12 g a = true → (a : List Bool).length ≤ 300 := fun h => by
    simp only [light12, Bool.and_eq_true, decide_eq_true_eq] at h; exact h.2
  generalize light12 g a = lb at *
  intro h
  refine AC.body Θ_ok Try.func12 rfl rfl (Nat.le_of_ble_eq_true rfl) ?_
  refine AW.seq fun _ k1 => AW.region [] Θ_ok ?_
  simp
  refine k1 _ ?_
  by_cases h1 : lb = true
  · subst h1
    have ha3 := hlb rfl
    by_cases hm : mayE g = 0
    · have hn3 := (may_ok hm).1
      have hn2 := (may_ok hm).2.1
      refine AW.seq fun _ k1 => ?_
      refine AW.seq fun _ k2 => AW.regionAt 3 [] Θ_ok fun B hB => ?_
      simp
      refine sl.use (by simp [G.av]) ?_
      refine hB _ ?_
      clear hB B
      refine vcOps_split 4 fun B hB => ?_
      simp
      refine (r9_May g hf).use (by simp [G.av]) ?_
      refine hB _ ?_
      clear hB B
      simp [hm]
      refine k2 _ ?_
      refine AW.cond false (by simp [Int.natCast_inj]) (fun h => by cases h) (fun _ => ?_)
      refine AW.skip ?_
      simp
      refine k1 _ ?_
      refine AW.seq fun _ k1 => AW.region [] Θ_ok ?_
      simp
      refine k1 _ ?_
      have hw := who2_cases p
      change AW _ _ _ ⟨_, (1, .int .i64 (who2 p)) :: _, _⟩
      generalize who2 p = W at hw
      have hok : okP g W := ⟨hm, hw⟩
      have hokF : okForce g W := ⟨hm, hw⟩
      have hs : IntKind.i64.wrap (1 - W) = 1 - W := wrap_id (by omega) (by omega)
      have sK := safe_Keep g hf W a (by omega)
      have sW := safe_Ways g hf W a (by omega)
      rw [keepA, if_pos hok] at sK
      rw [kwayA, if_pos hok, kwayL] at sW
      have sKK := safe_Keep g hf W (keepL g W a) (by rw [keepL_len]; omega)
      rw [keepA, if_pos hok, keep_keep] at sKK
      have lK := keepL_len g W a
      have sF := graph_Follow g hf W (kwaysR g W (keepL g W a))
      rw [waysA, if_pos hm] at sF
      have sR := graph_Reach (waysG g (followP g W (kwaysR g W (keepL g W a)))) (waysG_fits hf _) (keepL g W a)
      rw [reachA, if_pos (waysG_may hm _), keep_reach hm hw, waysG_eq hm] at sR
      have hin : ∀ v, v < g.owner.length → hasN (keepL g W a) v = true → hasN a v = true := fun v hv q => keep_in hv q
      have hF : ∀ v, v < g.owner.length → hasN (keepL g W a) v = true → ow g v = W → ((waysL g (followP g W (kwaysR g W (keepL g W a)))).getD v []).length = 1 := by
        intro v hv q ho
        have e : (waysL g (followP g W (kwaysR g W (keepL g W a)))).getD v [] = waysRow g (followP g W (kwaysR g W (keepL g W a))) v := by
          unfold waysL
          rw [getD_tab, if_pos (by omega)]
        rw [e]
        exact (keep_row hm hw hv q).1 ho
      have lF : (waysL g (followP g W (kwaysR g W (keepL g W a)))).length = g.owner.length := by unfold waysL; rw [length_tab]; exact hn2
      generalize waysL g (followP g W (kwaysR g W (keepL g W a))) = F at *
      generalize kwaysR g W (keepL g W a) = Y at *
      generalize keepL g W a = K at *
      refine AW.seq fun _ k1 => AW.regionAt 4 [] Θ_ok fun B hB => ?_
      simp
      refine sK.use (by simp [G.av]) ?_
      refine hB _ ?_
      clear hB B
      simp
      refine k1 _ ?_
      refine AW.seq fun _ k1 => AW.draw [8] 8 [] Θ_ok mixed (by kernel_rfl) (by kernel_rfl) ?_
      refine vcDraw_split 6 fun B hB => ?_
      simp [vcPre, vcTail, callA, isAlloc, isLoad, effOp, obl, obA, mkOK, valA]
      refine ⟨_, sW.wk (by simp [G.av]), ?_⟩
      refine hB _ _ _ ?_
      clear hB B
      refine vcPre_split 1 fun B hB => ?_
      simp [vcPre, vcTail, callA, isAlloc, isLoad, effOp, obl, obA, mkOK, valA]
      refine ⟨_, sF.wk (by simp [G.av]), ?_⟩
      refine hB _ _ _ ?_
      clear hB B
      simp [vcPre, vcTail, callA, isAlloc, isLoad, effOp, obl, obA, mkOK, valA]
      refine fun n8 hn8 => k1 _ ?_
      refine AW.box 8 (o := n8) rfl (upd_same _ _ _) ?_
      simp only [upd_upd, upd_none_id hn8]
      refine AW.seq fun _ k1 => AW.regionAt 3 [] Θ_ok fun B hB => ?_
      simp
      refine sR.use (by simp [G.av]) ?_
      refine hB _ ?_
      clear hB B
      simp
      refine k1 _ ?_
      refine AW.seq fun _ k1 => ?_
      refine AW.seq fun _ k2 => AW.regionAt 18 [] Θ_ok fun B hB => ?_
      simp [lK, lF]
      refine (r9_SameRow K K (by omega)).use (by simp) ?_
      refine hB _ ?_
      clear hB B
      simp
      refine k2 _ ?_
      refine AW.cond false (by simp [Int.natCast_inj]) (fun h => by cases h) (fun _ => ?_)
      refine AW.skip ?_
      simp
      refine k1 _ ?_
      refine AW.seq fun _ k1 => ?_
      refine AW.seq fun _ k2 => AW.region [] Θ_ok ?_
      simp
      refine k2 _ ?_
      refine AW.block ?_
      refine AW.loopI (X := Nat) (fun x => x ≤ K.length) (fun x => ⟨102, [(1, .int .i64 W), (2, .ro false (bools a)), (3, .rop [.ro false (ints g.owner), .ro false (rows g.next)]), (7, .ro true (bools K)), (8, .rop [.ro false (ints g.owner), .ro true (rows F)]), (60, .int .i64 K.length), (61, .int .i64 x)], h⟩) (fun x => K.length - x) 0 (Nat.zero_le _) (GStep.eq (by simp) (subH.refl _)) fun x hx => ?_
      refine AW.seq fun _ k2 => AW.region [] Θ_ok ?_
      simp
      refine k2 _ ?_
      by_cases hlt : x < K.length
      · have inc := wrap_succ (show x < 9223372036854775807 by omega)
        have hltg : x < g.owner.length := by omega
        have hltF : x < F.length := by omega
        have ef : F.getD x [] = F[x] := by simp [hltF]
        have eo : ow g x = g.owner[x] := by simp [ow, hltg]
        have h1 := hin x hltg
        have h2 := hF x hltg
        rw [ef, eo] at h2
        clear hin hF
        refine AW.seq fun _ k2 => AW.cond true (by simp [Int.natCast_inj, hlt]) (fun _ => ?_) (fun h => by cases h)
        refine AW.skip ?_
        simp
        refine k2 _ ?_
        refine AW.seq fun _ k2 => ?_
        refine AW.block ?_
        refine AW.seq fun _ k3 => AW.region [] Θ_ok ?_
        simp
        refine k3 _ ?_
        cases hb : K[x]
        · refine AW.seq fun _ k3 => AW.region [] Θ_ok ?_
          simp [hlt, hb]
          refine k3 _ ?_
          refine AW.cond false (by simp [Int.natCast_inj]) (fun h => by cases h) (fun _ => ?_)
          refine AW.skip ?_
          simp
          refine k2 _ ?_
          refine AW.region [] Θ_ok ?_
          simp
          exact ⟨x + 1, by omega, by omega, GStep.eq (by simp [inc]) (subH.refl _)⟩
        · have hk : hasN K x = true := by simp [hasN, hlt, hb]
          have ea : (decide (0 ≤ (x : Int)) && hasI a (x : Int)) = true := by simpa using h1 hk
          have sH := r9_Has a x
          rw [ea] at sH
          have h2 := h2 hk
          by_cases ho : g.owner[x] = W
          · have h3 := h2 ho
            refine AW.seq fun _ k3 => AW.regionAt 8 [] Θ_ok fun B hB => ?_
            simp [hlt, hb]
            refine sH.use (by simp) ?_
            refine hB _ ?_
            clear hB B
            simp [hlt, hb, hltg, hltF, ho, h3]
            refine k3 _ ?_
            refine AW.cond false (by simp [Int.natCast_inj]) (fun h => by cases h) (fun _ => ?_)
            refine AW.skip ?_
            simp
            refine k2 _ ?_
            refine AW.region [] Θ_ok ?_
            simp
            exact ⟨x + 1, by omega, by omega, GStep.eq (by simp [inc]) (subH.refl _)⟩
          · refine AW.seq fun _ k3 => AW.regionAt 8 [] Θ_ok fun B hB => ?_
            simp [hlt, hb]
            refine sH.use (by simp) ?_
            refine hB _ ?_
            clear hB B
            simp [hlt, hb, hltg, hltF, ho]
            refine k3 _ ?_
            refine AW.cond false (by simp [Int.natCast_inj]) (fun h => by cases h) (fun _ => ?_)
            refine AW.skip ?_
            simp
            refine k2 _ ?_
            refine AW.region [] Θ_ok ?_
            simp
            exact ⟨x + 1, by omega, by omega, GStep.eq (by simp [inc]) (subH.refl _)⟩
      obtain rfl : x = K.length := by omega
      refine AW.seq fun _ k2 => AW.cond false (by simp [Int.natCast_inj]) (fun h => by cases h) (fun _ => ?_)
      refine AW.exit ?_
      simp
      refine k1 _ ?_
      refine AW.seq fun _ kr => AW.regionAt 4 [] Θ_ok fun B hB => ?_
      simp
      refine sKK.use (by simp [G.av]) ?_
      refine hB _ ?_
      clear hB B
      refine vcOps_split 2 fun B hB => ?_
      simp
      refine (r9_SameRow K K (by omega)).use (by simp) ?_
      refine hB _ ?_
      clear hB B
      refine vcOps_split 2 fun B hB => ?_
      simp
      refine l13_awake.use (by simp) ?_
      refine hB _ ?_
      clear hB B
      simp
      refine kr _ (AW.ret ?_)
      simp [Try.f12]
      exact Fin.refl ⟨rfl, rfl⟩
    · refine AW.seq fun _ k1 => ?_
      refine AW.seq fun _ k2 => AW.regionAt 3 [] Θ_ok fun B hB => ?_
      simp
      refine sl.use (by simp [G.av]) ?_
      refine hB _ ?_
      clear hB B
      refine vcOps_split 4 fun B hB => ?_
      simp
      refine (r9_May g hf).use (by simp [G.av]) ?_
      refine hB _ ?_
      clear hB B
      simp [hm]
      refine k2 _ ?_
      refine AW.cond true (by simp [Int.natCast_inj, hm]) (fun _ => ?_) (fun h => by cases h)
      refine AW.seq fun _ kr => AW.region [] Θ_ok ?_
      simp
      refine (l13_awake).use (by simp [G.av]) ?_
      try simp
      refine kr _ (AW.ret ?_)
      simp [Try.f12]
      exact Fin.refl ⟨rfl, rfl⟩
  · have h1 : lb = false := by simpa using h1
    subst h1
    refine AW.seq fun _ k1 => ?_
    refine AW.seq fun _ k2 => AW.regionAt 3 [] Θ_ok fun B hB => ?_
    simp
    refine sl.use (by simp [G.av]) ?_
    refine hB _ ?_
    clear hB B
    simp
    refine k2 _ ?_
    refine AW.cond true (by simp [Int.natCast_inj]) (fun _ => ?_) (fun h => by cases h)
    refine AW.seq fun _ kr => AW.region [] Θ_ok ?_
    simp
    refine (l13_awake).use (by simp [G.av]) ?_
    try simp
    refine kr _ (AW.ret ?_)
    simp [Try.f12]
    exact Fin.refl ⟨rfl, rfl⟩
end Go.Par
