import Derived.Test.YtmmfdmhjkcbobaaSmE
import Derived.Test.YtmmfdmhjkcbobaaSmW
set_option linter.unusedSimpArgs false
set_option linter.unusedVariables false
set_option maxRecDepth 8000
set_option maxHeartbeats 1000000
namespace Go.Par
open Go.Proofs

theorem win_eq {g : G} {P : List Int} (hmp : mayP g P = true) : winL g P = winM (measL g P) := by
  have ok := mayP_ok hmp
  have mg := ok.mg
  have hX := meas_least mg
  have lW : (winL g P).length = g.owner.length := (zfin_spec ok).2.2.1
  have lM := meas_len mg
  refine List.ext_getElem (by rw [lW, winM, List.length_map, lM]) fun v h1 h2 => ?_
  have hv : v < g.owner.length := by omega
  have e1 : fI (winL g P) v = (winL g P)[v] := by simp [fI, h1]
  have hvM : v < (measL g P).length := by omega
  have e2 : (winM (measL g P))[v] = winOf (measL g P)[v] := by simp [winM]
  have e3 : xM (measL g P) v = (measL g P)[v] := by simp [xM, hvM]
  rw [e2, ← e1]
  have a1 := meas_win ok hX hv
  have a2 := win_meas ok hX hv
  rw [e3] at a1 a2
  cases q : (measL g P)[v] with
  | some t => rw [q] at a1; rw [a1 (by simp)]; obtain ⟨a, b, c⟩ := t; rfl
  | none =>
    rw [q] at a2
    rcases solve_win ok hv with w | w
    · rw [w]; rfl
    · exact absurd rfl (a2 w)

theorem law_ParityForms (g : G) (hg : g.wide) (P : List Int) (hP : (DK.sl .int).fits P) : Pure Try.prog 3 [g.av, .ro false (ints P)] (.bool true) := by
  have hf := hg.f
  have hPl : P.length ≤ 1152921504606846976 := by
    have : P.length * 8 ≤ reachBytes := hP.1
    unfold reachBytes at this
    omega
  have sH := l15_Heavy g hf P
  have sM := r9_MayPrio g hf P hPl
  have sM2 := parity_May g hf P hPl
  have sS := parity_Solve g hf P hPl
  have sW := r9_Winners g hf P hPl
  intro h
  refine AC.body Θ_ok Try.func3 rfl rfl (Nat.le_of_ble_eq_true rfl) ?_
  refine AW.seq fun _ k1 => AW.region [] Θ_ok ?_
  simp
  refine k1 _ ?_
  refine AW.seq fun _ k1 => ?_
  by_cases h1 : 0 < heavy15 g P
  · refine AW.seq fun _ k2 => AW.regionAt 3 [] Θ_ok fun B hB => ?_
    simp
    refine sH.use (by simp [G.av]) ?_
    refine hB _ ?_
    clear hB B
    simp [h1]
    refine k2 _ ?_
    refine AW.cond true (by simp [Int.natCast_inj]) (fun _ => ?_) (fun h => by cases h)
    refine AW.seq fun _ kr => AW.region [] Θ_ok ?_
    simp
    refine (l15_awake).use (by simp [G.av]) ?_
    try simp
    refine kr _ (AW.ret ?_)
    simp [Try.f3]
    exact Fin.refl ⟨rfl, rfl⟩
  have h1' := Int.not_lt.1 h1
  by_cases hm : mayP g P = true
  · rw [solA, if_pos hm] at sS
    rw [winRA, if_pos hm, ← win_eq hm] at sW
    rw [hm] at sM sM2
    have ok := mayP_ok hm
    have hn := (may_ok ok.m).1
    have lW : (winL g P).length = g.owner.length := (zfin_spec ok).2.2.1
    have lT : (toL g P).length = g.owner.length := length_tab _ _
    have sE := r9_SameInts (winL g P) (winL g P) (by omega)
    rw [decide_eq_true rfl] at sE
    have hto : ∀ v (h1 : v < (winL g P).length) (h2 : v < (toL g P).length) (h3 : v < g.owner.length), (winL g P)[v] ≠ g.owner[v] → (toL g P)[v] = -1 := by
      intro v h1 h2 h3 hne
      have e1 : fI (zfin g P).W v = (winL g P)[v] := by
        show fI (winL g P) v = _
        simp [fI, h1]
      have e2 : ow g v = g.owner[v] := by simp [ow, h3]
      have e3 : (toL g P)[v] = fI (toL g P) v := by simp [fI, h2]
      rw [e3, toL, fI, getD_tab, if_pos h3, e1, e2, if_pos hne]
    generalize winL g P = W at *
    generalize toL g P = T at *
    refine AW.seq fun _ k2 => AW.regionAt 3 [] Θ_ok fun B hB => ?_
    simp
    refine sH.use (by simp [G.av]) ?_
    refine hB _ ?_
    clear hB B
    simp [h1, h1']
    refine k2 _ ?_
    refine AW.cond false (by simp [Int.natCast_inj]) (fun h => by cases h) (fun _ => ?_)
    refine AW.skip ?_
    simp
    refine k1 _ ?_
    refine AW.seq fun _ k1 => AW.regionAt 3 [] Θ_ok fun B hB => ?_
    simp
    refine sS.use (by simp [G.av]) ?_
    refine hB _ ?_
    clear hB B
    simp
    refine k1 _ ?_
    refine AW.seq fun _ k1 => ?_
    refine AW.seq fun _ k2 => AW.draw [] 22 [] Θ_ok mixed (by kernel_rfl) (by kernel_rfl) ?_
    refine vcDraw_split 2 fun B hB => ?_
    simp [vcPre, vcTail, callA, isAlloc, isLoad, effOp, obl, obA, mkOK, valA]
    refine hB _ _ _ ?_
    clear hB B
    refine vcPre_split 1 fun B hB => ?_
    simp [vcPre, vcTail, callA, isAlloc, isLoad, effOp, obl, obA, mkOK, valA]
    refine ⟨_, sM2.wk (by simp [G.av]), ?_⟩
    refine hB _ _ _ ?_
    clear hB B
    refine vcPre_split 3 fun B hB => ?_
    simp [vcPre, vcTail, callA, isAlloc, isLoad, effOp, obl, obA, mkOK, valA]
    refine ⟨_, sM.wk (by simp [G.av]), ?_⟩
    refine hB _ _ _ ?_
    clear hB B
    refine vcPre_split 6 fun B hB => ?_
    simp [vcPre, vcTail, callA, isAlloc, isLoad, effOp, obl, obA, mkOK, valA]
    refine ⟨_, sW.wk (by simp [G.av]), ?_⟩
    refine hB _ _ _ ?_
    clear hB B
    refine vcPre_split 1 fun B hB => ?_
    simp [vcPre, vcTail, callA, isAlloc, isLoad, effOp, obl, obA, mkOK, valA]
    refine ⟨_, sE.wk (by simp), ?_⟩
    refine hB _ _ _ ?_
    clear hB B
    simp [vcPre, vcTail, callA, isAlloc, isLoad, effOp, obl, obA, mkOK, valA, lW, lT]
    refine k2 _ ?_
    refine AW.cond false (by simp [Int.natCast_inj]) (fun h => by cases h) (fun _ => ?_)
    refine AW.skip ?_
    simp
    refine k1 _ ?_
    refine AW.seq fun _ k1 => ?_
    refine AW.seq fun _ k2 => AW.region [] Θ_ok ?_
    simp
    refine k2 _ ?_
    refine AW.block ?_
    refine AW.loopI (X := Nat) (fun x => x ≤ W.length) (fun x => ⟨65, [(2, .rop [.ro false (ints g.owner), .ro false (rows g.next)]), (5, .ro true (ints W)), (6, .ro true (ints T)), (42, .int .i64 W.length), (43, .int .i64 x)], h⟩) (fun x => W.length - x) 0 (Nat.zero_le _) (GStep.eq (by simp) (subH.refl _)) fun x hx => ?_
    refine AW.seq fun _ k2 => AW.region [] Θ_ok ?_
    simp
    refine k2 _ ?_
    by_cases hlt : x < W.length
    · have inc := wrap_succ (show x < 9223372036854775807 by omega)
      have hltT : x < T.length := by omega
      have hltO : x < g.owner.length := by omega
      have q := hto x hlt hltT hltO
      clear hto
      refine AW.seq fun _ k2 => AW.cond true (by simp [Int.natCast_inj, hlt]) (fun _ => ?_) (fun h => by cases h)
      refine AW.skip ?_
      simp
      refine k2 _ ?_
      refine AW.seq fun _ k2 => ?_
      refine AW.block ?_
      refine AW.seq fun _ k3 => AW.region [] Θ_ok ?_
      simp
      refine k3 _ ?_
      by_cases e : W[x] = g.owner[x]
      · refine AW.seq fun _ k3 => AW.draw [] 17 [] Θ_ok mixed (by kernel_rfl) (by kernel_rfl) ?_
        refine vcDraw_split 10 fun B hB => ?_
        simp [vcPre, vcTail, callA, isAlloc, isLoad, effOp, obl, obA, mkOK, valA, hlt, hltT, hltO, e]
        refine hB _ _ _ ?_
        clear hB B
        simp [vcPre, vcTail, callA, isAlloc, isLoad, effOp, obl, obA, mkOK, valA, hlt, hltT, hltO, e]
        refine k3 _ ?_
        refine AW.cond false (by simp [Int.natCast_inj]) (fun h => by cases h) (fun _ => ?_)
        refine AW.skip ?_
        simp
        refine k2 _ ?_
        refine AW.region [] Θ_ok ?_
        simp
        exact ⟨x + 1, by omega, by omega, GStep.eq (by simp [inc]) (subH.refl _)⟩
      · have q1 := q e
        have e' : (W[x] != g.owner[x]) = true := by simpa using e
        refine AW.seq fun _ k3 => AW.draw [] 17 [] Θ_ok mixed (by kernel_rfl) (by kernel_rfl) ?_
        refine vcDraw_split 10 fun B hB => ?_
        simp [vcPre, vcTail, callA, isAlloc, isLoad, effOp, obl, obA, mkOK, valA, hlt, hltT, hltO, e, e']
        refine hB _ _ _ ?_
        clear hB B
        simp [vcPre, vcTail, callA, isAlloc, isLoad, effOp, obl, obA, mkOK, valA, hlt, hltT, hltO, e, e', q1]
        refine k3 _ ?_
        refine AW.cond false (by simp [Int.natCast_inj]) (fun h => by cases h) (fun _ => ?_)
        refine AW.skip ?_
        simp
        refine k2 _ ?_
        refine AW.region [] Θ_ok ?_
        simp
        exact ⟨x + 1, by omega, by omega, GStep.eq (by simp [inc]) (subH.refl _)⟩
    obtain rfl : x = W.length := by omega
    refine AW.seq fun _ k2 => AW.cond false (by simp [Int.natCast_inj]) (fun h => by cases h) (fun _ => ?_)
    refine AW.exit ?_
    simp
    refine k1 _ ?_
    refine AW.seq fun _ kr => AW.region [] Θ_ok ?_
    simp
    refine (l15_awake).use (by simp [G.av]) ?_
    try simp
    refine kr _ (AW.ret ?_)
    simp [Try.f3]
    exact Fin.refl ⟨rfl, rfl⟩
  · rw [solA, if_neg hm] at sS
    rw [winRA, if_neg hm] at sW
    rw [show mayP g P = false by simpa using hm] at sM sM2
    have sE := r9_SameInts [] [] (by simp)
    rw [decide_eq_true rfl] at sE
    refine AW.seq fun _ k2 => AW.regionAt 3 [] Θ_ok fun B hB => ?_
    simp
    refine sH.use (by simp [G.av]) ?_
    refine hB _ ?_
    clear hB B
    simp [h1, h1']
    refine k2 _ ?_
    refine AW.cond false (by simp [Int.natCast_inj]) (fun h => by cases h) (fun _ => ?_)
    refine AW.skip ?_
    simp
    refine k1 _ ?_
    refine AW.seq fun _ k1 => AW.regionAt 3 [] Θ_ok fun B hB => ?_
    simp
    refine sS.use (by simp [G.av]) ?_
    refine hB _ ?_
    clear hB B
    simp
    refine k1 _ ?_
    refine AW.seq fun _ k1 => ?_
    refine AW.seq fun _ k2 => AW.draw [] 22 [] Θ_ok mixed (by kernel_rfl) (by kernel_rfl) ?_
    refine vcDraw_split 2 fun B hB => ?_
    simp [vcPre, vcTail, callA, isAlloc, isLoad, effOp, obl, obA, mkOK, valA]
    refine hB _ _ _ ?_
    clear hB B
    refine vcPre_split 1 fun B hB => ?_
    simp [vcPre, vcTail, callA, isAlloc, isLoad, effOp, obl, obA, mkOK, valA]
    refine ⟨_, sM2.wk (by simp [G.av]), ?_⟩
    refine hB _ _ _ ?_
    clear hB B
    refine vcPre_split 3 fun B hB => ?_
    simp [vcPre, vcTail, callA, isAlloc, isLoad, effOp, obl, obA, mkOK, valA]
    refine ⟨_, sM.wk (by simp [G.av]), ?_⟩
    refine hB _ _ _ ?_
    clear hB B
    refine vcPre_split 6 fun B hB => ?_
    simp [vcPre, vcTail, callA, isAlloc, isLoad, effOp, obl, obA, mkOK, valA]
    refine ⟨_, sW.wk (by simp [G.av]), ?_⟩
    refine hB _ _ _ ?_
    clear hB B
    refine vcPre_split 1 fun B hB => ?_
    simp [vcPre, vcTail, callA, isAlloc, isLoad, effOp, obl, obA, mkOK, valA]
    refine ⟨_, sE.wk (by simp), ?_⟩
    refine hB _ _ _ ?_
    clear hB B
    simp [vcPre, vcTail, callA, isAlloc, isLoad, effOp, obl, obA, mkOK, valA]
    refine k2 _ ?_
    refine AW.cond false (by simp [Int.natCast_inj]) (fun h => by cases h) (fun _ => ?_)
    refine AW.skip ?_
    simp
    refine k1 _ ?_
    refine AW.seq fun _ k1 => ?_
    refine AW.seq fun _ k2 => AW.region [] Θ_ok ?_
    simp
    refine k2 _ ?_
    refine AW.block ?_
    refine AW.loopI (X := Nat) (fun x => x = 0) (fun x => ⟨65, [(42, .int .i64 0), (43, .int .i64 0)], h⟩) (fun x => 0) 0 rfl (GStep.eq (by simp) (subH.refl _)) fun x hx => ?_
    refine AW.seq fun _ k2 => AW.region [] Θ_ok ?_
    simp
    refine k2 _ ?_
    refine AW.seq fun _ k2 => AW.cond false (by simp [Int.natCast_inj]) (fun h => by cases h) (fun _ => ?_)
    refine AW.exit ?_
    simp
    refine k1 _ ?_
    refine AW.seq fun _ kr => AW.region [] Θ_ok ?_
    simp
    refine (l15_awake).use (by simp [G.av]) ?_
    try simp
    refine kr _ (AW.ret ?_)
    simp [Try.f3]
    exact Fin.refl ⟨rfl, rfl⟩
end Go.Par
