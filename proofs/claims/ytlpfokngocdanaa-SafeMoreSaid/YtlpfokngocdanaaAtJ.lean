import Derived.Test.YtlpfokngocdanaaAtF
import Derived.Test.YtlpfokngocdanaaAtH
set_option linter.unusedSimpArgs false
set_option linter.unusedVariables false
set_option maxRecDepth 8000
set_option maxHeartbeats 1000000
namespace Go.Par
open Go.Proofs

noncomputable def keepL (g : G) (who : Int) (s : List Bool) : List Bool := notL g (regL g (1 - who) (notL g s))
theorem keepL_len (g : G) (who : Int) (s : List Bool) : (keepL g who s).length = g.owner.length := len_not _ _
noncomputable def keepA (g : G) (who : Int) (s : List Bool) : AV := if okP g who then .ro true (bools (keepL g who s)) else .nils
def kpred (R : List Bool) (w : Int) : Bool := hasI R w
def kwayR (g : G) (who : Int) (R : List Bool) (v : Nat) : Int := if ow g v ≠ who ∨ hasN R v = false then -1 else ((nx g v).find? (kpred R)).getD (-1)
def kwaysR (g : G) (who : Int) (R : List Bool) : List Int := tab g.owner.length (kwayR g who R)
noncomputable def kwayL (g : G) (who : Int) (s : List Bool) : List Int := kwaysR g who (keepL g who s)
noncomputable def kwayA (g : G) (who : Int) (s : List Bool) : AV := if okP g who then .ro true (ints (kwayL g who s)) else .nils
def kwayX (g : G) (who : Int) (R : List Bool) (x : Nat) : List Int := tab g.owner.length fun v => if v < x then kwayR g who R v else 0
theorem kwayX_len (g : G) (who : Int) (R : List Bool) (x : Nat) : (kwayX g who R x).length = g.owner.length := length_tab _ _
theorem kwayX_set (g : G) (who : Int) (R : List Bool) (x : Nat) : (kwayX g who R x).set x (kwayR g who R x) = kwayX g who R (x + 1) := by
  rw [kwayX, set_tab]
  refine tab_congr fun v _ => ?_
  by_cases e : v = x
  · subst e; simp
  · by_cases h : v < x
    · simp [e, h, show v < x + 1 by omega]
    · simp [e, h, show ¬ v < x + 1 by omega]

theorem safe_Keep (g : G) (hf : g.fits) (who : Int) (s : List Bool) (hs : s.length ≤ 1152921504606846976) : Pure Try.prog 31 [g.av, .int .i64 who, .ro false (bools s)] (keepA g who s) := by
  have sF := pre_Force g hf who []
  intro h
  refine AC.body Θ_ok Try.func31 rfl rfl (Nat.le_of_ble_eq_true rfl) ?_
  refine AW.seq fun _ k1 => AW.region [] Θ_ok ?_
  simp
  refine k1 _ ?_
  by_cases hok : okP g who
  · have hm := hok.1
    have hw := hok.2
    have hok2 : okForce g who := hok
    have hok3 : okP g (1 - who) := ⟨hm, by omega⟩
    rw [forceA, if_pos hok2] at sF
    have hw1 : IntKind.i64.wrap (1 - who) = 1 - who := wrap_id (by omega) (by omega)
    have sN := pre_Not g s hf.owner
    have sR := attract_Region g hf (1 - who) (notL g s) (by rw [len_not]; have := hf.owner; omega)
    rw [regA, if_pos hok3] at sR
    have sN2 := pre_Not g (regL g (1 - who) (notL g s)) hf.owner
    have hfin : keepA g who s = .ro true (bools (notL g (regL g (1 - who) (notL g s)))) := if_pos hok
    generalize forceL g who [] = F0 at *
    generalize notL g (regL g (1 - who) (notL g s)) = K at *
    generalize regL g (1 - who) (notL g s) = R at *
    generalize notL g s = S at *
    refine AW.seq fun _ k1 => ?_
    refine AW.seq fun _ k2 => AW.regionAt 3 [] Θ_ok fun B hB => ?_
    simp
    refine sF.use (by simp [G.av]) ?_
    refine hB _ ?_
    clear hB B
    simp
    refine k2 _ ?_
    refine AW.cond false (by simp [Int.natCast_inj]) (fun h => by cases h) (fun _ => ?_)
    refine AW.skip ?_
    simp
    refine k1 _ ?_
    refine AW.seq fun _ kr => AW.draw [] 10 [] Θ_ok mixed (by kernel_rfl) (by kernel_rfl) ?_
    refine vcDraw_split 7 fun B hB => ?_
    simp [vcPre, vcTail, callA, isAlloc, isLoad, effOp, obl, obA, mkOK, valA, hw1]
    refine ⟨_, sN.wk (by simp [G.av]), ?_⟩
    refine hB _ _ _ ?_
    clear hB B
    refine vcPre_split 1 fun B hB => ?_
    simp [vcPre, vcTail, callA, isAlloc, isLoad, effOp, obl, obA, mkOK, valA]
    refine ⟨_, sR.wk (by simp [G.av]), ?_⟩
    refine hB _ _ _ ?_
    clear hB B
    refine vcPre_split 1 fun B hB => ?_
    simp [vcPre, vcTail, callA, isAlloc, isLoad, effOp, obl, obA, mkOK, valA]
    refine ⟨_, sN2.wk (by simp [G.av]), ?_⟩
    refine hB _ _ _ ?_
    clear hB B
    simp [vcPre, vcTail, callA, isAlloc, isLoad, effOp, obl, obA, mkOK, valA]
    refine kr _ (AW.ret ?_)
    simp [Try.f31]
    exact Fin.refl ⟨hfin.symm, rfl⟩
  · have hok2 : ¬ okForce g who := hok
    rw [forceA, if_neg hok2] at sF
    have hfin : keepA g who s = .nils := if_neg hok
    refine AW.seq fun _ k1 => ?_
    refine AW.seq fun _ k2 => AW.regionAt 3 [] Θ_ok fun B hB => ?_
    simp
    refine sF.use (by simp [G.av]) ?_
    refine hB _ ?_
    clear hB B
    simp
    refine k2 _ ?_
    refine AW.cond true (by simp [Int.natCast_inj]) (fun _ => ?_) (fun h => by cases h)
    refine AW.seq fun _ kr => AW.region [] Θ_ok ?_
    simp
    refine kr _ (AW.ret ?_)
    simp [Try.f31]
    exact Fin.refl ⟨hfin.symm, rfl⟩

theorem safe_Ways (g : G) (hf : g.fits) (who : Int) (s : List Bool) (hs : s.length ≤ 1152921504606846976) : Pure Try.prog 35 [g.av, .int .i64 who, .ro false (bools s)] (kwayA g who s) := by
  have sR := safe_Keep g hf who s hs
  rw [keepA] at sR
  intro h
  refine AC.body Θ_ok Try.func35 rfl rfl (Nat.le_of_ble_eq_true rfl) ?_
  refine AW.seq fun _ k1 => AW.region [] Θ_ok ?_
  simp
  refine k1 _ ?_
  by_cases hok : okP g who
  · rw [if_pos hok] at sR
    have hfin : kwayA g who s = .ro true (ints (kwayL g who s)) := if_pos hok
    have hm := hok.1
    have hn3 := (may_ok hm).1
    have hn2 := (may_ok hm).2.1
    have lR := keepL_len g who s
    rw [show kwayL g who s = kwaysR g who (keepL g who s) from rfl] at hfin
    generalize keepL g who s = R at *
    refine AW.seq fun _ k1 => AW.regionAt 4 [] Θ_ok fun B hB => ?_
    simp
    refine sR.use (by simp [G.av]) ?_
    refine hB _ ?_
    clear hB B
    simp
    refine k1 _ ?_
    refine AW.seq fun _ k1 => ?_
    refine AW.seq fun _ k2 => AW.region [] Θ_ok ?_
    simp
    refine k2 _ ?_
    refine AW.cond false (by simp [Int.natCast_inj]) (fun h => by cases h) (fun _ => ?_)
    refine AW.skip ?_
    simp
    refine k1 _ ?_
    refine AW.seq fun _ k1 => AW.region [21] Θ_ok ?_
    simp
    refine ⟨⟨by omega, by omega⟩, fun o ho => k1 _ ?_⟩
    have e0 : ((List.replicate R.length (AV.int IntKind.i64 0)).flatMap AV.flat) = (kwayX g who R 0).map (AV.int .i64) := by
      rw [replicate_tab, flat_tab (fun _ _ => rfl), lR, kwayX, map_tab]
      exact tab_congr fun v _ => by simp
    rw [e0, obI_mk]
    refine AW.seq fun _ k1 => ?_
    refine AW.seq fun _ k2 => AW.region [] Θ_ok ?_
    simp
    refine k2 _ ?_
    refine AW.block ?_
    refine AW.loopI (X := Nat) (fun x => x ≤ g.owner.length) (fun x => ⟨64, [(1, .int .i64 who), (3, .rop [.ro false (ints g.owner), .ro false (rows g.next)]), (7, .ro true (bools R)), (8, .mu o g.owner.length), (22, .ro true (bools R)), (23, .int .i64 g.owner.length), (24, .int .i64 x)], upd h o (some (obI (kwayX g who R x)))⟩) (fun x => g.owner.length - x) 0 (Nat.zero_le _) (GStep.eq (by simp [lR]) (subH.refl _)) fun x hx => ?_
    refine AW.seq fun _ k2 => AW.region [] Θ_ok ?_
    simp
    refine k2 _ ?_
    by_cases hlt : x < g.owner.length
    · have inc := wrap_succ (show x < 9223372036854775807 by omega)
      have hltR : x < R.length := by omega
      have hltn : x < g.next.length := by omega
      have lX := kwayX_len g who R x
      have sX := kwayX_set g who R x
      have mX := map_set_int (kwayX g who R x) x (-1)
      have sX2 : ((kwayX g who R x).set x (-1)).set x (kwayR g who R x) = kwayX g who R (x + 1) := by rw [List.set_set]; exact sX
      have en : nx g x = g.next[x] := by simp [nx, hltn]
      have eo : ow g x = g.owner[x] := by simp [ow, hlt]
      have er : hasN R x = R[x] := by simp [hasN, hltR]
      have hw : kwayR g who R x = if g.owner[x] ≠ who ∨ R[x] = false then -1 else (g.next[x].find? (kpred R)).getD (-1) := by
        unfold kwayR; rw [en, eo, er]
      have hnx := (nx_ok hm hlt).2
      rw [en] at hnx
      have hlen : g.next[x].length ≤ 17592186044416 := hf.row _ (List.getElem_mem _)
      generalize hWs : kwayX g who R (x + 1) = Ws at *
      generalize kwayX g who R x = W at *
      have lX1 : (W.set x (-1)).length = g.owner.length := by simp [lX]
      generalize hW1 : W.set x (-1) = W1 at *
      generalize hway : kwayR g who R x = wv at *
      refine AW.seq fun _ k2 => AW.cond true (by simp [Int.natCast_inj, hlt]) (fun _ => ?_) (fun h => by cases h)
      refine AW.skip ?_
      simp
      refine k2 _ ?_
      refine AW.seq fun _ k2 => ?_
      refine AW.block ?_
      refine AW.seq fun _ k3 => AW.region [] Θ_ok ?_
      simp [hltR]
      refine k3 _ ?_
      refine AW.seq fun _ k3 => AW.region [] Θ_ok ?_
      simp [hlt, lX, mX, obI_mk]
      refine ⟨by omega, k3 _ ?_⟩
      refine AW.seq fun _ k3 => ?_
      cases hr1 : R[x]
      · rw [if_pos (.inr hr1)] at hw
        subst hw
        refine AW.seq fun _ k4 => AW.region [] Θ_ok ?_
        simp [hr1]
        refine k4 _ ?_
        refine AW.cond true (by simp [Int.natCast_inj]) (fun _ => ?_) (fun h => by cases h)
        refine AW.exit ?_
        simp
        refine k2 _ ?_
        refine AW.region [] Θ_ok ?_
        simp
        exact ⟨x + 1, by omega, by omega, GStep.eq (by simp [inc]) (subH_of_eq (by rw [hWs, ← sX, hW1]))⟩
      by_cases ho1 : g.owner[x] = who
      · rw [if_neg (fun q => q.elim (fun q => q ho1) (fun q => by rw [hr1] at q; cases q))] at hw
        refine AW.seq fun _ k4 => AW.region [] Θ_ok ?_
        simp [hlt, ho1, hr1]
        refine k4 _ ?_
        refine AW.cond false (by simp [Int.natCast_inj, ho1]) (fun h => by cases h) (fun _ => ?_)
        refine AW.skip ?_
        simp
        refine k3 _ ?_
        refine AW.seq fun _ k3 => AW.region [] Θ_ok ?_
        simp [hltn]
        refine k3 _ ?_
        refine AW.block ?_
        refine AW.loopI (X := Nat) (fun y => y ≤ g.next[x].length ∧ ∀ j (h : j < g.next[x].length), j < y → kpred R g.next[x][j] = false) (fun y => ⟨64, [(1, .int .i64 who), (3, .rop [.ro false (ints g.owner), .ro false (rows g.next)]), (7, .ro true (bools R)), (8, .mu o g.owner.length), (9, .int .i64 x), (22, .ro true (bools R)), (23, .int .i64 g.owner.length), (24, .int .i64 x), (47, .ro false (ints g.next[x])), (48, .int .i64 g.next[x].length), (49, .int .i64 y)], upd h o (some (obI W1))⟩) (fun y => g.next[x].length - y) 0 ⟨Nat.zero_le _, fun j _ h => by omega⟩ (GStep.eq (by simp) (subH.refl _)) fun y hy => ?_
        obtain ⟨hy, hno⟩ := hy
        refine AW.seq fun _ k4 => AW.region [] Θ_ok ?_
        simp
        refine k4 _ ?_
        by_cases hlt2 : y < g.next[x].length
        · have inc2 := wrap_succ (show y < 9223372036854775807 by omega)
          obtain ⟨u0, u1⟩ := hnx _ (List.getElem_mem hlt2)
          obtain ⟨u, hu⟩ : ∃ u : Nat, g.next[x][y] = u := ⟨(g.next[x][y]).toNat, by omega⟩
          have hun : u < R.length := by omega
          have eu : kpred R g.next[x][y] = R[u] := by rw [hu]; simp [kpred, hasI, hun]
          refine AW.seq fun _ k4 => AW.cond true (by simp [Int.natCast_inj, hlt2]) (fun _ => ?_) (fun h => by cases h)
          refine AW.skip ?_
          simp
          refine k4 _ ?_
          refine AW.seq fun _ k4 => ?_
          refine AW.block ?_
          refine AW.seq fun _ k5 => AW.region [] Θ_ok ?_
          simp [hlt2, hu]
          refine k5 _ ?_
          refine AW.seq fun _ k5 => AW.region [] Θ_ok ?_
          simp [hun]
          refine k5 _ ?_
          cases c1 : R[u]
          · refine AW.cond false (by simp [Int.natCast_inj, c1]) (fun h => by cases h) (fun _ => ?_)
            refine AW.skip ?_
            simp
            refine k4 _ ?_
            refine AW.region [] Θ_ok ?_
            simp
            exact ⟨y + 1, ⟨by omega, fun j hj hj2 => by
              by_cases e : j = y
              · subst e; rw [eu, c1]
              · exact hno j hj (by omega)⟩, by omega, GStep.eq (by simp [inc2]) (subH.refl _)⟩
          · have hf1 : (g.next[x].find? (kpred R)) = some (g.next[x][y]) := by
              rw [List.find?_eq_some_iff_getElem]
              refine ⟨by rw [eu, c1], y, hlt2, rfl, fun j hj => ?_⟩
              rw [hno j (by omega) hj]; rfl
            rw [hf1, Option.getD_some, hu] at hw
            have mY := map_set_int W1 x wv
            rw [sX2] at mY
            rw [hw] at mY
            refine AW.cond true (by simp [Int.natCast_inj, c1]) (fun _ => ?_) (fun h => by cases h)
            refine AW.seq fun _ k5 => AW.region [] Θ_ok ?_
            simp [hlt, lX1, mY, obI_mk]
            refine ⟨by omega, k5 _ ?_⟩
            refine AW.exit ?_
            simp
            refine k2 _ ?_
            refine AW.region [] Θ_ok ?_
            simp
            exact ⟨x + 1, by omega, by omega, GStep.eq (by simp [inc]) (subH_of_eq (by rw [hWs]))⟩
        · obtain rfl : y = g.next[x].length := by omega
          have hf1 : (g.next[x].find? (kpred R)) = none := by
            rw [List.find?_eq_none]
            intro w hw
            obtain ⟨j, hj, rfl⟩ := List.getElem_of_mem hw
            rw [hno j hj hj]; simp
          rw [hf1, Option.getD_none] at hw
          subst hw
          refine AW.seq fun _ k4 => AW.cond false (by simp [Int.natCast_inj]) (fun h => by cases h) (fun _ => ?_)
          refine AW.exit ?_
          simp
          refine k2 _ ?_
          refine AW.region [] Θ_ok ?_
          simp
          exact ⟨x + 1, by omega, by omega, GStep.eq (by simp [inc]) (subH_of_eq (by rw [hWs, ← sX, hW1]))⟩
      · rw [if_pos (.inl ho1)] at hw
        subst hw
        refine AW.seq fun _ k4 => AW.region [] Θ_ok ?_
        simp [hlt, ho1, hr1]
        refine k4 _ ?_
        refine AW.cond true (by simp [Int.natCast_inj, ho1]) (fun _ => ?_) (fun h => by cases h)
        refine AW.exit ?_
        simp
        refine k2 _ ?_
        refine AW.region [] Θ_ok ?_
        simp
        exact ⟨x + 1, by omega, by omega, GStep.eq (by simp [inc]) (subH_of_eq (by rw [hWs, ← sX, hW1]))⟩
    obtain rfl : x = g.owner.length := by omega
    refine AW.seq fun _ k2 => AW.cond false (by simp [Int.natCast_inj]) (fun h => by cases h) (fun _ => ?_)
    refine AW.exit ?_
    simp
    refine k1 _ ?_
    refine AW.seq fun _ kr => AW.region [] Θ_ok ?_
    simp
    refine kr _ (AW.ret ?_)
    simp [Try.f35]
    refine Fin.freeze (k := true) (upd_same _ _ _) (fun _ => rfl) rfl (by simp [kwayX_len]) (by
      intro u hu
      obtain ⟨z, _, rfl⟩ := List.mem_map.1 hu
      rfl) h (by simp [upd_none_id ho]; exact subH.refl _) ⟨?_, rfl⟩
    rw [hfin]
    congr 1
    simp only [obI_cells, ints, kwayX, kwaysR, map_tab]
    exact tab_congr fun i hi => by simp [hi]
  · rw [if_neg hok] at sR
    have hfin : kwayA g who s = .nils := if_neg hok
    refine AW.seq fun _ k1 => AW.regionAt 4 [] Θ_ok fun B hB => ?_
    simp
    refine sR.use (by simp [G.av]) ?_
    refine hB _ ?_
    clear hB B
    simp
    refine k1 _ ?_
    refine AW.seq fun _ k1 => ?_
    refine AW.seq fun _ k2 => AW.region [] Θ_ok ?_
    simp
    refine k2 _ ?_
    refine AW.cond true (by simp [Int.natCast_inj]) (fun _ => ?_) (fun h => by cases h)
    refine AW.seq fun _ kr => AW.region [] Θ_ok ?_
    simp
    refine kr _ (AW.ret ?_)
    simp [Try.f35]
    exact Fin.refl ⟨hfin.symm, rfl⟩
end Go.Par
