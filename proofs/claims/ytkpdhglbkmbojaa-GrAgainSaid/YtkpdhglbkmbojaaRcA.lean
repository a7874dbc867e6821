import Derived.Test.YtkpdhglbkmbojaaRcP
import Derived.Test.YtkpdhglbkmbojaaGrA
import Derived.Test.YtkpdhglbkmbojaaMgC
set_option linter.unusedSimpArgs false
set_option linter.unusedVariables false
set_option maxRecDepth 8000
set_option maxHeartbeats 1000000
namespace Go.Par
open Go.Proofs

noncomputable def agA (g : G) (who : Int) (s : List Bool) : AV := if okP g who then .ro true (bools (agL g who s)) else .nils
noncomputable def stA (g : G) (who : Int) (s : List Bool) : AV := if okP g who then .ro true (bools (stL g who s)) else .nils
structure AgX where
  y : List Bool
  f : Nat

theorem recur_Again (g : G) (hf : g.fits) (who : Int) (s : List Bool) : Pure Try.prog 30 [g.av, .int .i64 who, .ro false (bools s)] (agA g who s) := by
  have sF0 := pre_Force g hf who []
  intro h
  refine AC.body Θ_ok Try.func30 rfl rfl (Nat.le_of_ble_eq_true rfl) ?_
  refine AW.seq fun _ k1 => AW.region [] Θ_ok ?_
  simp
  refine k1 _ ?_
  by_cases hok : okP g who
  · have hm := hok.1
    have hn3 := (may_ok hm).1
    have hok2 : okForce g who := hok
    rw [forceA, if_pos hok2] at sF0
    have hfin : agA g who s = .ro true (bools (agL g who s)) := if_pos hok
    have sT := pre_Not g [] hf.owner
    have hR : fixG (agF g who s) (g.owner.length + 1) (notL g []) = agL g who s := rfl
    have htl : (notL g []).length = g.owner.length := len_not _ _
    have htd : leS g.owner.length (agF g who s (notL g [])) (notL g []) := le_top' _
    have hct := top_cnt (g := g)
    have M := ag_mon (who := who) hm s
    generalize agL g who s = R at *
    generalize forceL g who [] = F0 at *
    refine AW.seq fun _ k1 => ?_
    refine AW.seq fun _ k2 => AW.regionAt 3 [] Θ_ok fun B hB => ?_
    simp
    refine sF0.use (by simp [G.av]) ?_
    refine hB _ ?_
    clear hB B
    simp
    refine k2 _ ?_
    refine AW.cond false (by simp [Int.natCast_inj]) (fun h => by cases h) (fun _ => ?_)
    refine AW.skip ?_
    simp
    refine k1 _ ?_
    refine AW.seq fun _ k1 => AW.regionAt 2 [] Θ_ok fun B hB => ?_
    simp
    refine sT.use (by simp [G.av]) ?_
    refine hB _ ?_
    clear hB B
    simp
    refine k1 _ ?_
    refine AW.seq fun _ k1 => AW.region [] Θ_ok ?_
    simp
    refine k1 _ ?_
    refine AW.block ?_
    refine AW.loopI (X := AgX) (fun z => z.y.length = g.owner.length ∧ leS g.owner.length (agF g who s z.y) z.y ∧ cntS z.y < z.f ∧ fixG (agF g who s) z.f z.y = R) (fun z => ⟨32, [(1, .int .i64 who), (2, .ro false (bools s)), (3, .rop [.ro false (ints g.owner), .ro false (rows g.next)]), (7, .ro true (bools z.y)), (8, .clo 49 [])], h⟩) (fun z => z.f) ⟨notL g [], g.owner.length + 1⟩ ⟨htl, htd, hct, hR⟩ (GStep.eq (by simp) (subH.refl _)) ?_
    clear htl htd hct hR sF0 sT
    rintro ⟨y, f⟩ ⟨hl, hd, hc, hr⟩
    simp only at hl hd hc hr ⊢
    have sF := pre_Force g hf who y
    rw [forceA, if_pos hok2] at sF
    have sA := pre_And g s (forceL g who y) hf.owner
    have sR := attract_Region g hf who (andL g s (forceL g who y)) (by rw [len_and]; omega)
    rw [regA, if_pos hok, show regL g who (andL g s (forceL g who y)) = agF g who s y from rfl] at sR
    have hl2 := M.len y
    have hmo := M.mono _ _ hd
    have hst : ∀ f', ¬ agF g who s y = y → fixG (agF g who s) (f' + 1) y = fixG (agF g who s) f' (agF g who s y) := fun f' q => fixG_step q
    have hat : agF g who s y = y → fixG (agF g who s) f y = y := fun q => fixG_at q
    obtain ⟨w, hw⟩ : ∃ w, w = agF g who s y := ⟨_, rfl⟩
    rw [← hw] at sR hl2 hd hmo hst hat
    generalize andL g s (forceL g who y) = an at *
    generalize forceL g who y = fo at *
    have sE := slices_EqualB w y (by omega)
    generalize hbv : decide (w = y) = bv at sE
    refine AW.block ?_
    refine AW.seq fun _ k1 => AW.draw [] 12 [] Θ_ok mixed (by kernel_rfl) (by kernel_rfl) ?_
    refine vcDraw_split 9 fun B hB => ?_
    simp [vcPre, vcTail, callA, isAlloc, isLoad, effOp, obl, obA, mkOK, valA]
    refine ⟨_, sF.wk (by simp [G.av]), ?_⟩
    refine hB _ _ _ ?_
    clear hB B
    refine vcPre_split 1 fun B hB => ?_
    simp [vcPre, vcTail, callA, isAlloc, isLoad, effOp, obl, obA, mkOK, valA]
    refine ⟨_, sA.wk (by simp [G.av]), ?_⟩
    refine hB _ _ _ ?_
    clear hB B
    refine vcPre_split 1 fun B hB => ?_
    simp [vcPre, vcTail, callA, isAlloc, isLoad, effOp, obl, obA, mkOK, valA]
    refine ⟨_, sR.wk (by simp [G.av]), ?_⟩
    refine hB _ _ _ ?_
    clear hB B
    simp [vcPre, vcTail, callA, isAlloc, isLoad, effOp, obl, obA, mkOK, valA]
    refine k1 _ ?_
    refine AW.seq fun _ k1 => ?_
    refine AW.seq fun _ k2 => AW.regionAt 3 [] Θ_ok fun B hB => ?_
    simp
    refine sE.use (by simp) ?_
    refine hB _ ?_
    clear hB B
    simp
    refine k2 _ ?_
    cases bv
    · have e := of_decide_eq_false hbv
      clear hbv
      refine AW.cond false (by simp [Int.natCast_inj]) (fun h => by cases h) (fun _ => ?_)
      refine AW.skip ?_
      simp
      refine k1 _ ?_
      refine AW.region [] Θ_ok ?_
      simp
      obtain ⟨f', rfl⟩ : ∃ f', f = f' + 1 := ⟨f - 1, by omega⟩
      have hc' := (cnt_mono hl2 hl hd).2 e
      exact ⟨⟨w, f'⟩, ⟨hl2, hmo, by simp only; omega, by simp only; rw [← hr, hst f' e]⟩, by simp only; omega, GStep.eq (by simp) (subH.refl _)⟩
    · have e := of_decide_eq_true hbv
      clear hbv
      have hy : y = R := by rw [← hr, hat e]
      subst hy
      refine AW.cond true (by simp [Int.natCast_inj]) (fun _ => ?_) (fun h => by cases h)
      refine AW.seq fun _ kr => AW.region [] Θ_ok ?_
      simp
      refine kr _ (AW.ret ?_)
      simp [Try.f30]
      exact Fin.refl ⟨hfin.symm, rfl⟩
  · have hok2 : ¬ okForce g who := hok
    rw [forceA, if_neg hok2] at sF0
    have hfin : agA g who s = .nils := if_neg hok
    refine AW.seq fun _ k1 => ?_
    refine AW.seq fun _ k2 => AW.regionAt 3 [] Θ_ok fun B hB => ?_
    simp
    refine sF0.use (by simp [G.av]) ?_
    refine hB _ ?_
    clear hB B
    simp
    refine k2 _ ?_
    refine AW.cond true (by simp [Int.natCast_inj]) (fun _ => ?_) (fun h => by cases h)
    refine AW.seq fun _ kr => AW.region [] Θ_ok ?_
    simp
    refine kr _ (AW.ret ?_)
    simp [Try.f30]
    exact Fin.refl ⟨hfin.symm, rfl⟩

end Go.Par
