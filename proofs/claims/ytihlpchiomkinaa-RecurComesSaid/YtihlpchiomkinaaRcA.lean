import Derived.Test.YtihlpchiomkinaaRcP
import Derived.Test.YtihlpchiomkinaaRgA
import Derived.Test.YtihlpchiomkinaaMgC
set_option linter.unusedSimpArgs false
set_option linter.unusedVariables false
set_option maxRecDepth 8000
set_option maxHeartbeats 1000000
namespace Go.Par
open Go.Proofs

noncomputable def agA (g : G) (who : Int) (s : List Bool) : AV := if okP g who then .ro true (bools (agL g who s)) else .nils
noncomputable def stA (g : G) (who : Int) (s : List Bool) : AV := if okP g who then .ro true (bools (stL g who s)) else .nils
structure AgX where
  y : List Bool
  f : Nat

theorem recur_Again (g : G) (hf : g.fits) (who : Int) (s : List Bool) : Pure Try.prog 15 [g.av, .int .i64 who, .ro false (bools s)] (agA g who s) := by
  have sF0 := pre_Force g hf who []
  intro h
  refine AC.body Θ_ok Try.func15 rfl rfl (Nat.le_of_ble_eq_true rfl) ?_
  refine AW.seq fun _ k1 => AW.region [] Θ_ok ?_
  simp
  refine k1 _ ?_
  by_cases hok : okP g who
  · have hm := hok.1
    have hn3 := (may_ok hm).1
    have hok2 : okForce g who := hok
    rw [forceA, if_pos hok2] at sF0
    have hfin : agA g who s = .ro true (bools (agL g who s)) := if_pos hok
    have sT := pre_Not g [] hf.owner
    have hR : fixG (agF g who s) (g.owner.length + 1) (notL g []) = agL g who s := rfl
    have htl : (notL g []).length = g.owner.length := len_not _ _
    have htd : leS g.owner.length (agF g who s (notL g [])) (notL g []) := le_top' _
    have hct := top_cnt (g := g)
    have M := ag_mon (who := who) hm s
    generalize agL g who s = R at *
    generalize forceL g who [] = F0 at *
    refine AW.seq fun _ k1 => ?_
    refine AW.seq fun _ k2 => AW.regionAt 3 [] Θ_ok fun B hB => ?_
    simp
    refine sF0.use (by simp [G.av]) ?_
    refine hB _ ?_
    clear hB B
    simp
    refine k2 _ ?_
    refine AW.cond false (by simp [Int.natCast_inj]) (fun h => by cases h) (fun _ => ?_)
    refine AW.skip ?_
    simp
    refine k1 _ ?_
    refine AW.seq fun _ k1 => AW.regionAt 2 [] Θ_ok fun B hB => ?_
    simp
    refine sT.use (by simp [G.av]) ?_
    refine hB _ ?_
    clear hB B
    simp
    refine k1 _ ?_
    refine AW.seq fun _ k1 => AW.region [] Θ_ok ?_
    simp
    refine k1 _ ?_
    refine AW.block ?_
    refine AW.loopI (X := AgX) (fun z => z.y.length = g.owner.length ∧ leS g.owner.length (agF g who s z.y) z.y ∧ cntS z.y < z.f ∧ fixG (agF g who s) z.f z.y = R) (fun z => ⟨32, [(1, .int .i64 who), (2, .ro false (bools s)), (3, .rop [.ro false (ints g.owner), .ro false (rows g.next)]), (7, .ro true (bools z.y)), (8, .clo 42 [])], h⟩) (fun z => z.f) ⟨notL g [], g.owner.length + 1⟩ ⟨htl, htd, hct, hR⟩ (GStep.eq (by simp) (subH.refl _)) ?_
    clear htl htd hct hR sF0 sT
    rintro ⟨y, f⟩ ⟨hl, hd, hc, hr⟩
    simp only at hl hd hc hr ⊢
    have sF := pre_Force g hf who y
    rw [forceA, if_pos hok2] at sF
    have sA := pre_And g s (forceL g who y) hf.owner
    have sR := attract_Region g hf who (andL g s (forceL g who y)) (by rw [len_and]; omega)
    rw [regA, if_pos hok, show regL g who (andL g s (forceL g who y)) = agF g who s y from rfl] at sR
    have hl2 := M.len y
    have hmo := M.mono _ _ hd
    have hst : ∀ f', ¬ agF g who s y = y → fixG (agF g who s) (f' + 1) y = fixG (agF g who s) f' (agF g who s y) := fun f' q => fixG_step q
    have hat : agF g who s y = y → fixG (agF g who s) f y = y := fun q => fixG_at q
    obtain ⟨w, hw⟩ : ∃ w, w = agF g who s y := ⟨_, rfl⟩
    rw [← hw] at sR hl2 hd hmo hst hat
    generalize andL g s (forceL g who y) = an at *
    generalize forceL g who y = fo at *
    have sE := slices_EqualB w y (by omega)
    generalize hbv : decide (w = y) = bv at sE
    refine AW.block ?_
    refine AW.seq fun _ k1 => AW.draw [] 12 [] Θ_ok mixed (by kernel_rfl) (by kernel_rfl) ?_
    refine vcDraw_split 9 fun B hB => ?_
    simp [vcPre, vcTail, callA, isAlloc, isLoad, effOp, obl, obA, mkOK, valA]
    refine ⟨_, sF.wk (by simp [G.av]), ?_⟩
    refine hB _ _ _ ?_
    clear hB B
    refine vcPre_split 1 fun B hB => ?_
    simp [vcPre, vcTail, callA, isAlloc, isLoad, effOp, obl, obA, mkOK, valA]
    refine ⟨_, sA.wk (by simp [G.av]), ?_⟩
    refine hB _ _ _ ?_
    clear hB B
    refine vcPre_split 1 fun B hB => ?_
    simp [vcPre, vcTail, callA, isAlloc, isLoad, effOp, obl, obA, mkOK, valA]
    refine ⟨_, sR.wk (by simp [G.av]), ?_⟩
    refine hB _ _ _ ?_
    clear hB B
    simp [vcPre, vcTail, callA, isAlloc, isLoad, effOp, obl, obA, mkOK, valA]
    refine k1 _ ?_
    refine AW.seq fun _ k1 => ?_
    refine AW.seq fun _ k2 => AW.regionAt 3 [] Θ_ok fun B hB => ?_
    simp
    refine sE.use (by simp) ?_
    refine hB _ ?_
    clear hB B
    simp
    refine k2 _ ?_
    cases bv
    · have e := of_decide_eq_false hbv
      clear hbv
      refine AW.cond false (by simp [Int.natCast_inj]) (fun h => by cases h) (fun _ => ?_)
      refine AW.skip ?_
      simp
      refine k1 _ ?_
      refine AW.region [] Θ_ok ?_
      simp
      obtain ⟨f', rfl⟩ : ∃ f', f = f' + 1 := ⟨f - 1, by omega⟩
      have hc' := (cnt_mono hl2 hl hd).2 e
      exact ⟨⟨w, f'⟩, ⟨hl2, hmo, by simp only; omega, by simp only; rw [← hr, hst f' e]⟩, by simp only; omega, GStep.eq (by simp) (subH.refl _)⟩
    · have e := of_decide_eq_true hbv
      clear hbv
      have hy : y = R := by rw [← hr, hat e]
      subst hy
      refine AW.cond true (by simp [Int.natCast_inj]) (fun _ => ?_) (fun h => by cases h)
      refine AW.seq fun _ kr => AW.region [] Θ_ok ?_
      simp
      refine kr _ (AW.ret ?_)
      simp [Try.f15]
      exact Fin.refl ⟨hfin.symm, rfl⟩
  · have hok2 : ¬ okForce g who := hok
    rw [forceA, if_neg hok2] at sF0
    have hfin : agA g who s = .nils := if_neg hok
    refine AW.seq fun _ k1 => ?_
    refine AW.seq fun _ k2 => AW.regionAt 3 [] Θ_ok fun B hB => ?_
    simp
    refine sF0.use (by simp [G.av]) ?_
    refine hB _ ?_
    clear hB B
    simp
    refine k2 _ ?_
    refine AW.cond true (by simp [Int.natCast_inj]) (fun _ => ?_) (fun h => by cases h)
    refine AW.seq fun _ kr => AW.region [] Θ_ok ?_
    simp
    refine kr _ (AW.ret ?_)
    simp [Try.f15]
    exact Fin.refl ⟨hfin.symm, rfl⟩

/-- Nobody else holds what attract.Ways hands back. -/
theorem attract_WaysM (g : G) (hf : g.fits) (who : Int) (s : List Bool) (hs : s.length ≤ 1152921504606846976) (hok : okP g who) (h : Heap) : AC Try.prog 53 [g.av, .int .i64 who, .ro false (bools s)] h fun r h' => ∃ o, h o = none ∧ r = .mu o g.owner.length ∧ h' = upd h o (some (obI (awayL g who s))) := by
  have sR := attract_Ranks g hf who s hs
  rw [ranksA_eq] at sR
  refine AC.body Θ_ok Try.func53 rfl rfl (Nat.le_of_ble_eq_true rfl) ?_
  refine AW.seq fun _ k1 => AW.region [] Θ_ok ?_
  simp
  refine k1 _ ?_
  · rw [if_pos hok] at sR
    have hfin : awayL g who s = awaysR g who (ranksL g who s) := rfl
    have hm := hok.1
    have hn3 := (may_ok hm).1
    have hn2 := (may_ok hm).2.1
    have lR := ranksL_len g who s
    generalize ranksL g who s = R at *
    refine AW.seq fun _ k1 => AW.regionAt 4 [] Θ_ok fun B hB => ?_
    simp
    refine sR.use (by simp [G.av]) ?_
    refine hB _ ?_
    clear hB B
    simp
    refine k1 _ ?_
    refine AW.seq fun _ k1 => ?_
    refine AW.seq fun _ k2 => AW.region [] Θ_ok ?_
    simp
    refine k2 _ ?_
    refine AW.cond false (by simp [Int.natCast_inj]) (fun h => by cases h) (fun _ => ?_)
    refine AW.skip ?_
    simp
    refine k1 _ ?_
    refine AW.seq fun _ k1 => AW.region [21] Θ_ok ?_
    simp
    refine ⟨⟨by omega, by omega⟩, fun o ho => k1 _ ?_⟩
    have e0 : ((List.replicate R.length (AV.int IntKind.i64 0)).flatMap AV.flat) = (awayX g who R 0).map (AV.int .i64) := by
      rw [replicate_tab, flat_tab (fun _ _ => rfl), lR, awayX, map_tab]
      exact tab_congr fun v _ => by simp
    rw [e0, obI_mk]
    refine AW.seq fun _ k1 => ?_
    refine AW.seq fun _ k2 => AW.region [] Θ_ok ?_
    simp
    refine k2 _ ?_
    refine AW.block ?_
    refine AW.loopI (X := Nat) (fun x => x ≤ g.owner.length) (fun x => ⟨73, [(1, .int .i64 who), (3, .rop [.ro false (ints g.owner), .ro false (rows g.next)]), (7, .ro true (ints R)), (8, .mu o g.owner.length), (22, .ro true (ints R)), (23, .int .i64 g.owner.length), (24, .int .i64 x)], upd h o (some (obI (awayX g who R x)))⟩) (fun x => g.owner.length - x) 0 (Nat.zero_le _) (GStep.eq (by simp [lR]) (subH.refl _)) fun x hx => ?_
    refine AW.seq fun _ k2 => AW.region [] Θ_ok ?_
    simp
    refine k2 _ ?_
    by_cases hlt : x < g.owner.length
    · have inc := wrap_succ (show x < 9223372036854775807 by omega)
      have hltR : x < R.length := by omega
      have hltn : x < g.next.length := by omega
      have lX := awayX_len g who R x
      have sX := awayX_set g who R x
      have mX := map_set_int (awayX g who R x) x (-1)
      have sX2 : ((awayX g who R x).set x (-1)).set x (awayR g who R x) = awayX g who R (x + 1) := by rw [List.set_set]; exact sX
      have en : nx g x = g.next[x] := by simp [nx, hltn]
      have eo : ow g x = g.owner[x] := by simp [ow, hlt]
      have er : R.getD x 0 = R[x] := by simp [hltR]
      have hw : awayR g who R x = if g.owner[x] ≠ who ∨ R[x] < 1 then -1 else (g.next[x].find? (wpred R R[x])).getD (-1) := by
        unfold awayR; rw [en, eo, er]
      have hnx := (nx_ok hm hlt).2
      rw [en] at hnx
      have hlen : g.next[x].length ≤ 17592186044416 := hf.row _ (List.getElem_mem _)
      generalize hWs : awayX g who R (x + 1) = Ws at *
      generalize awayX g who R x = W at *
      have lX1 : (W.set x (-1)).length = g.owner.length := by simp [lX]
      generalize hW1 : W.set x (-1) = W1 at *
      generalize hway : awayR g who R x = wv at *
      refine AW.seq fun _ k2 => AW.cond true (by simp [Int.natCast_inj, hlt]) (fun _ => ?_) (fun h => by cases h)
      refine AW.skip ?_
      simp
      refine k2 _ ?_
      refine AW.seq fun _ k2 => ?_
      refine AW.block ?_
      refine AW.seq fun _ k3 => AW.region [] Θ_ok ?_
      simp [hltR]
      refine k3 _ ?_
      refine AW.seq fun _ k3 => AW.region [] Θ_ok ?_
      simp [hlt, lX, mX, obI_mk]
      refine ⟨by omega, k3 _ ?_⟩
      refine AW.seq fun _ k3 => ?_
      by_cases ho1 : g.owner[x] = who
      · by_cases hr1 : R[x] < 1
        · rw [if_pos (.inr hr1)] at hw
          subst hw
          refine AW.seq fun _ k4 => AW.region [] Θ_ok ?_
          simp [hlt, ho1, hr1]
          refine k4 _ ?_
          refine AW.cond true (by simp [Int.natCast_inj, ho1, hr1]) (fun _ => ?_) (fun h => by cases h)
          refine AW.exit ?_
          simp
          refine k2 _ ?_
          refine AW.region [] Θ_ok ?_
          simp
          exact ⟨x + 1, by omega, by omega, GStep.eq (by simp [inc]) (subH_of_eq (by rw [hWs, ← sX, hW1]))⟩
        · rw [if_neg (fun q => q.elim (fun q => q ho1) hr1)] at hw
          have hr2 : 1 ≤ R[x] := by omega
          refine AW.seq fun _ k4 => AW.region [] Θ_ok ?_
          simp [hlt, ho1, hr1, hr2]
          refine k4 _ ?_
          refine AW.cond false (by simp [Int.natCast_inj, ho1, hr1, hr2]) (fun h => by cases h) (fun _ => ?_)
          refine AW.skip ?_
          simp
          refine k3 _ ?_
          refine AW.seq fun _ k3 => AW.region [] Θ_ok ?_
          simp [hltn]
          refine k3 _ ?_
          refine AW.block ?_
          refine AW.loopI (X := Nat) (fun y => y ≤ g.next[x].length ∧ ∀ j (h : j < g.next[x].length), j < y → wpred R R[x] g.next[x][j] = false) (fun y => ⟨73, [(1, .int .i64 who), (3, .rop [.ro false (ints g.owner), .ro false (rows g.next)]), (7, .ro true (ints R)), (8, .mu o g.owner.length), (9, .int .i64 x), (10, .int .i64 R[x]), (22, .ro true (ints R)), (23, .int .i64 g.owner.length), (24, .int .i64 x), (47, .ro false (ints g.next[x])), (48, .int .i64 g.next[x].length), (49, .int .i64 y)], upd h o (some (obI W1))⟩) (fun y => g.next[x].length - y) 0 ⟨Nat.zero_le _, fun j _ h => by omega⟩ (GStep.eq (by simp) (subH.refl _)) fun y hy => ?_
          obtain ⟨hy, hno⟩ := hy
          refine AW.seq fun _ k4 => AW.region [] Θ_ok ?_
          simp
          refine k4 _ ?_
          by_cases hlt2 : y < g.next[x].length
          · have inc2 := wrap_succ (show y < 9223372036854775807 by omega)
            obtain ⟨u0, u1⟩ := hnx _ (List.getElem_mem hlt2)
            obtain ⟨u, hu⟩ : ∃ u : Nat, g.next[x][y] = u := ⟨(g.next[x][y]).toNat, by omega⟩
            have hun : u < R.length := by omega
            have eu : wpred R R[x] g.next[x][y] = (decide (0 ≤ R[u]) && decide (R[u] < R[x])) := by rw [hu]; simp [wpred, hun]
            refine AW.seq fun _ k4 => AW.cond true (by simp [Int.natCast_inj, hlt2]) (fun _ => ?_) (fun h => by cases h)
            refine AW.skip ?_
            simp
            refine k4 _ ?_
            refine AW.seq fun _ k4 => ?_
            refine AW.block ?_
            refine AW.seq fun _ k5 => AW.region [] Θ_ok ?_
            simp [hlt2, hu]
            refine k5 _ ?_
            by_cases c1 : 0 ≤ R[u]
            · by_cases c2 : R[u] < R[x]
              · have hf1 : (g.next[x].find? (wpred R R[x])) = some (g.next[x][y]) := by
                  rw [List.find?_eq_some_iff_getElem]
                  refine ⟨by rw [eu]; simp [c1, c2], y, hlt2, rfl, fun j hj => ?_⟩
                  rw [hno j (by omega) hj]; rfl
                rw [hf1, Option.getD_some, hu] at hw
                have mY := map_set_int W1 x wv
                rw [sX2] at mY
                rw [hw] at mY
                refine AW.seq fun _ k5 => AW.region [] Θ_ok ?_
                simp [hun, c1, c2]
                refine k5 _ ?_
                refine AW.cond true (by simp [Int.natCast_inj, c1, c2]) (fun _ => ?_) (fun h => by cases h)
                refine AW.seq fun _ k5 => AW.region [] Θ_ok ?_
                simp [hlt, lX1, mY, obI_mk]
                refine ⟨by omega, k5 _ ?_⟩
                refine AW.exit ?_
                simp
                refine k2 _ ?_
                refine AW.region [] Θ_ok ?_
                simp
                exact ⟨x + 1, by omega, by omega, GStep.eq (by simp [inc]) (subH_of_eq (by rw [hWs]))⟩
              · have c2' : R[x] ≤ R[u] := by omega
                refine AW.seq fun _ k5 => AW.region [] Θ_ok ?_
                simp [hun, c1, c2, c2']
                refine k5 _ ?_
                refine AW.cond false (by simp [Int.natCast_inj, c1, c2, c2']) (fun h => by cases h) (fun _ => ?_)
                refine AW.skip ?_
                simp
                refine k4 _ ?_
                refine AW.region [] Θ_ok ?_
                simp
                exact ⟨y + 1, ⟨by omega, fun j hj hj2 => by
                  by_cases e : j = y
                  · subst e; rw [eu]; simp [c2]
                  · exact hno j hj (by omega)⟩, by omega, GStep.eq (by simp [inc2]) (subH.refl _)⟩
            · have c1' : R[u] < 0 := by omega
              refine AW.seq fun _ k5 => AW.region [] Θ_ok ?_
              simp [hun, c1, c1']
              refine k5 _ ?_
              refine AW.cond false (by simp [Int.natCast_inj, c1, c1']) (fun h => by cases h) (fun _ => ?_)
              refine AW.skip ?_
              simp
              refine k4 _ ?_
              refine AW.region [] Θ_ok ?_
              simp
              exact ⟨y + 1, ⟨by omega, fun j hj hj2 => by
                by_cases e : j = y
                · subst e; rw [eu]; simp [c1]
                · exact hno j hj (by omega)⟩, by omega, GStep.eq (by simp [inc2]) (subH.refl _)⟩
          · obtain rfl : y = g.next[x].length := by omega
            have hf1 : (g.next[x].find? (wpred R R[x])) = none := by
              rw [List.find?_eq_none]
              intro w hw
              obtain ⟨j, hj, rfl⟩ := List.getElem_of_mem hw
              rw [hno j hj hj]; simp
            rw [hf1, Option.getD_none] at hw
            subst hw
            refine AW.seq fun _ k4 => AW.cond false (by simp [Int.natCast_inj]) (fun h => by cases h) (fun _ => ?_)
            refine AW.exit ?_
            simp
            refine k2 _ ?_
            refine AW.region [] Θ_ok ?_
            simp
            exact ⟨x + 1, by omega, by omega, GStep.eq (by simp [inc]) (subH_of_eq (by rw [hWs, ← sX, hW1]))⟩
      · rw [if_pos (.inl ho1)] at hw
        subst hw
        refine AW.seq fun _ k4 => AW.region [] Θ_ok ?_
        simp [hlt, ho1]
        refine k4 _ ?_
        refine AW.cond true (by simp [Int.natCast_inj, ho1]) (fun _ => ?_) (fun h => by cases h)
        refine AW.exit ?_
        simp
        refine k2 _ ?_
        refine AW.region [] Θ_ok ?_
        simp
        exact ⟨x + 1, by omega, by omega, GStep.eq (by simp [inc]) (subH_of_eq (by rw [hWs, ← sX, hW1]))⟩
    obtain rfl : x = g.owner.length := by omega
    refine AW.seq fun _ k2 => AW.cond false (by simp [Int.natCast_inj]) (fun h => by cases h) (fun _ => ?_)
    refine AW.exit ?_
    simp
    refine k1 _ ?_
    refine AW.seq fun _ kr => AW.region [] Θ_ok ?_
    simp
    refine kr _ (AW.ret ?_)
    simp [Try.f53]
    have e9 : awayX g who R g.owner.length = awaysR g who R := tab_congr fun i hi => by simp [hi]
    exact Fin.refl ⟨o, ho, rfl, by rw [hfin, e9]⟩
end Go.Par
