import Derived.Test.YtmmfdmhjkcbobaaRkC
import Derived.Test.YtmmfdmhjkcbobaaRcP
import Derived.Test.YtmmfdmhjkcbobaaGrC
set_option linter.unusedSimpArgs false
set_option linter.unusedVariables false
set_option maxRecDepth 8000
set_option maxHeartbeats 1000000
namespace Go.Par
open Go.Proofs

noncomputable def agR (g : G) (who : Int) (s : List Bool) : AV := if okP g who then .ro true (bools (agL g who s)) else .nils
noncomputable def stR (g : G) (who : Int) (s : List Bool) : AV := if okP g who then .ro true (bools (stL g who s)) else .ro true (bools (notL g []))
structure AgY where
  y : List Bool
  f : Nat
theorem row_and' (g : G) (a b : List Bool) : r9andL (rowL g a) b = andL g a b := by
  have hl : (rowL g a).length = g.owner.length := length_tab _ _
  simp only [r9andL, andL, hl]
  exact tab_congr fun v hv => by rw [hasN, rowL, getD_tab, if_pos hv]

theorem r9_Again (g : G) (hf : g.fits) (who : Int) (s : List Bool) : Pure Try.prog 20 [g.av, .int .i64 who, .ro false (bools s)] (agR g who s) := by
  intro h
  refine AC.body Θ_ok Try.func20 rfl rfl (Nat.le_of_ble_eq_true rfl) ?_
  refine AW.seq fun _ k1 => AW.region [] Θ_ok ?_
  simp
  refine k1 _ ?_
  by_cases hm : mayE g = 0
  · by_cases hw : who = 0 ∨ who = 1
    · have hok : okP g who := ⟨hm, hw⟩
      have hok2 : okForce g who := ⟨hm, hw⟩
      have hn3 := (may_ok hm).1
      have hfin : agR g who s = .ro true (bools (agL g who s)) := if_pos hok
      have hw' : (who == 0 || who == 1) = true := by rcases hw with h | h <;> simp [h]
      have sP := r9_Player who
      rw [hw'] at sP
      have sT := r9_not g hf.owner []
      have sRow := r9_Row g hf.owner s
      have hR : fixG (agF g who s) (g.owner.length + 1) (notL g []) = agL g who s := rfl
      have htl : (notL g []).length = g.owner.length := len_not _ _
      have htd : leS g.owner.length (agF g who s (notL g [])) (notL g []) := le_top' _
      have hct := top_cnt (g := g)
      have M := ag_mon (who := who) hm s
      generalize agL g who s = R at *
      generalize notL g [] = z0 at *
      refine AW.seq fun _ k1 => ?_
      refine AW.seq fun _ k2 => AW.regionAt 2 [] Θ_ok fun B hB => ?_
      simp
      refine (r9_May g hf).use (by simp [G.av]) ?_
      refine hB _ ?_
      clear hB B
      refine vcOps_split 4 fun B hB => ?_
      simp [hm]
      refine sP.use (by simp) ?_
      refine hB _ ?_
      clear hB B
      simp
      refine k2 _ ?_
      refine AW.cond false (by simp [Int.natCast_inj]) (fun h => by cases h) (fun _ => ?_)
      refine AW.skip ?_
      simp
      refine k1 _ ?_
      refine AW.seq fun _ k1 => AW.regionAt 2 [] Θ_ok fun B hB => ?_
      simp
      refine sT.use (by simp [G.av]) ?_
      refine hB _ ?_
      clear hB B
      simp
      refine k1 _ ?_
      refine AW.block ?_
      refine AW.loopI (X := AgY) (fun z => z.y.length = g.owner.length ∧ leS g.owner.length (agF g who s z.y) z.y ∧ cntS z.y < z.f ∧ fixG (agF g who s) z.f z.y = R) (fun z => ⟨35, [(1, .int .i64 who), (2, .ro false (bools s)), (3, .rop [.ro false (ints g.owner), .ro false (rows g.next)]), (7, .ro true (bools z.y))], h⟩) (fun z => z.f) ⟨z0, g.owner.length + 1⟩ ⟨htl, htd, hct, hR⟩ (GStep.eq (by simp) (subH.refl _)) ?_
      clear htl htd hct hR sT sP
      rintro ⟨y, f⟩ ⟨hl, hd, hc, hr⟩
      simp only at hl hd hc hr ⊢
      have sF := r9_Force g hf who y
      rw [forceA, if_pos hok2] at sF
      have sA := r9_and (rowL g s) (forceL g who y) (by simp only [rowL, length_tab]; omega)
      rw [row_and'] at sA
      have sR := r9_Region g hf who (andL g s (forceL g who y))
      rw [regA, if_pos hok, show regL g who (andL g s (forceL g who y)) = agF g who s y from rfl] at sR
      have hl2 := M.len y
      have hmo := M.mono _ _ hd
      have hst : ∀ f', ¬ agF g who s y = y → fixG (agF g who s) (f' + 1) y = fixG (agF g who s) f' (agF g who s y) := fun f' q => fixG_step q
      have hat : agF g who s y = y → fixG (agF g who s) f y = y := fun q => fixG_at q
      obtain ⟨w, hw⟩ : ∃ w, w = agF g who s y := ⟨_, rfl⟩
      rw [← hw] at sR hl2 hd hmo hst hat
      generalize andL g s (forceL g who y) = an at *
      generalize forceL g who y = fo at *
      generalize rowL g s = ro at *
      have sE := r9_SameRow y w (by omega)
      generalize hbv : decide (y = w) = bv at sE
      refine AW.block ?_
      refine AW.seq fun _ k1 => AW.draw [] 12 [] Θ_ok mixed (by kernel_rfl) (by kernel_rfl) ?_
      refine vcDraw_split 5 fun B hB => ?_
      simp [vcPre, vcTail, callA, isAlloc, isLoad, effOp, obl, obA, mkOK, valA]
      refine ⟨_, sRow.wk (by simp [G.av]), ?_⟩
      refine hB _ _ _ ?_
      clear hB B
      refine vcPre_split 4 fun B hB => ?_
      simp [vcPre, vcTail, callA, isAlloc, isLoad, effOp, obl, obA, mkOK, valA]
      refine ⟨_, sF.wk (by simp [G.av]), ?_⟩
      refine hB _ _ _ ?_
      clear hB B
      refine vcPre_split 1 fun B hB => ?_
      simp [vcPre, vcTail, callA, isAlloc, isLoad, effOp, obl, obA, mkOK, valA]
      refine ⟨_, sA.wk (by simp), ?_⟩
      refine hB _ _ _ ?_
      clear hB B
      refine vcPre_split 1 fun B hB => ?_
      simp [vcPre, vcTail, callA, isAlloc, isLoad, effOp, obl, obA, mkOK, valA]
      refine ⟨_, sR.wk (by simp [G.av]), ?_⟩
      refine hB _ _ _ ?_
      clear hB B
      simp [vcPre, vcTail, callA, isAlloc, isLoad, effOp, obl, obA, mkOK, valA]
      refine k1 _ ?_
      refine AW.seq fun _ k1 => ?_
      refine AW.seq fun _ k2 => AW.regionAt 3 [] Θ_ok fun B hB => ?_
      simp
      refine sE.use (by simp) ?_
      refine hB _ ?_
      clear hB B
      simp
      refine k2 _ ?_
      cases bv
      · have e := of_decide_eq_false hbv
        clear hbv
        refine AW.cond false (by simp [Int.natCast_inj]) (fun h => by cases h) (fun _ => ?_)
        refine AW.skip ?_
        simp
        refine k1 _ ?_
        refine AW.region [] Θ_ok ?_
        simp
        obtain ⟨f', rfl⟩ : ∃ f', f = f' + 1 := ⟨f - 1, by omega⟩
        have hc' := (cnt_mono hl2 hl hd).2 fun q => e q.symm
        exact ⟨⟨w, f'⟩, ⟨hl2, hmo, by simp only; omega, by simp only; rw [← hr, hst f' fun q => e q.symm]⟩, by simp only; omega, GStep.eq (by simp) (subH.refl _)⟩
      · have e := of_decide_eq_true hbv
        clear hbv
        have hy : y = R := by rw [← hr, hat e.symm]
        subst hy
        refine AW.cond true (by simp [Int.natCast_inj]) (fun _ => ?_) (fun h => by cases h)
        refine AW.seq fun _ kr => AW.region [] Θ_ok ?_
        simp
        refine kr _ (AW.ret ?_)
        simp [Try.f20]
        exact Fin.refl ⟨hfin.symm, rfl⟩
    · have hfin : agR g who s = .nils := if_neg fun q => hw q.2
      have hw' : (who == 0 || who == 1) = false := by
        cases q : (who == 0 || who == 1) with
        | false => rfl
        | true => exact absurd (by simpa using q) hw
      have sP := r9_Player who
      rw [hw'] at sP
      refine AW.seq fun _ k1 => ?_
      refine AW.seq fun _ k2 => AW.regionAt 2 [] Θ_ok fun B hB => ?_
      simp
      refine (r9_May g hf).use (by simp [G.av]) ?_
      refine hB _ ?_
      clear hB B
      refine vcOps_split 4 fun B hB => ?_
      simp [hm]
      refine sP.use (by simp) ?_
      refine hB _ ?_
      clear hB B
      simp
      refine k2 _ ?_
      refine AW.cond true (by simp [Int.natCast_inj]) (fun _ => ?_) (fun h => by cases h)
      refine AW.seq fun _ kr => AW.region [] Θ_ok ?_
      simp
      refine kr _ (AW.ret ?_)
      simp [Try.f20]
      exact Fin.refl ⟨hfin.symm, rfl⟩
  · have hfin : agR g who s = .nils := if_neg fun q => hm q.1
    refine AW.seq fun _ k1 => ?_
    refine AW.seq fun _ k2 => AW.regionAt 2 [] Θ_ok fun B hB => ?_
    simp
    refine (r9_May g hf).use (by simp [G.av]) ?_
    refine hB _ ?_
    clear hB B
    simp [hm]
    refine k2 _ ?_
    refine AW.cond true (by simp [Int.natCast_inj, hm]) (fun _ => ?_) (fun h => by cases h)
    refine AW.seq fun _ kr => AW.region [] Θ_ok ?_
    simp
    refine kr _ (AW.ret ?_)
    simp [Try.f20]
    exact Fin.refl ⟨hfin.symm, rfl⟩

theorem r9_StayOk (g : G) (hf : g.fits) (who : Int) (s : List Bool) (hok : okP g who) : Pure Try.prog 21 [g.av, .int .i64 who, .ro false (bools s)] (.ro true (bools (stL g who s))) := by
  have hm := hok.1
  have hw := hok.2
  have hw' : (who == 0 || who == 1) = true := by rcases hw with h | h <;> simp [h]
  have sP := r9_Player who
  rw [hw'] at sP
  have s1 := r9_not g hf.owner s
  have s2 := r9_Again g hf (1 - who) (notL g s)
  rw [agR, if_pos ⟨hm, by omega⟩] at s2
  have s3 := r9_not g hf.owner (agL g (1 - who) (notL g s))
  rw [stL]
  generalize agL g (1 - who) (notL g s) = A at *
  generalize notL g A = B at *
  generalize notL g s = C at *
  have hs : IntKind.i64.wrap (1 - who) = 1 - who := wrap_id (by omega) (by omega)
  intro h
  refine AC.body Θ_ok Try.func21 rfl rfl (Nat.le_of_ble_eq_true rfl) ?_
  refine AW.seq fun _ k1 => AW.region [] Θ_ok ?_
  simp
  refine k1 _ ?_
  refine AW.seq fun _ k1 => ?_
  refine AW.seq fun _ k2 => AW.regionAt 2 [] Θ_ok fun B hB => ?_
  simp
  refine (r9_May g hf).use (by simp [G.av]) ?_
  refine hB _ ?_
  clear hB B
  refine vcOps_split 4 fun B hB => ?_
  simp [hm]
  refine sP.use (by simp) ?_
  refine hB _ ?_
  clear hB B
  simp
  refine k2 _ ?_
  refine AW.cond false (by simp [Int.natCast_inj]) (fun h => by cases h) (fun _ => ?_)
  refine AW.skip ?_
  simp
  refine k1 _ ?_
  refine AW.seq fun _ kr => AW.draw [] 10 [] Θ_ok mixed (by kernel_rfl) (by kernel_rfl) ?_
  refine vcDraw_split 7 fun B hB => ?_
  simp [vcPre, vcTail, callA, isAlloc, isLoad, effOp, obl, obA, mkOK, valA, hs]
  refine ⟨_, s1.wk (by simp [G.av]), ?_⟩
  refine hB _ _ _ ?_
  clear hB B
  refine vcPre_split 1 fun B hB => ?_
  simp [vcPre, vcTail, callA, isAlloc, isLoad, effOp, obl, obA, mkOK, valA]
  refine ⟨_, s2.wk (by simp [G.av]), ?_⟩
  refine hB _ _ _ ?_
  clear hB B
  refine vcPre_split 1 fun B hB => ?_
  simp [vcPre, vcTail, callA, isAlloc, isLoad, effOp, obl, obA, mkOK, valA]
  refine ⟨_, s3.wk (by simp [G.av]), ?_⟩
  refine hB _ _ _ ?_
  clear hB B
  simp [vcPre, vcTail, callA, isAlloc, isLoad, effOp, obl, obA, mkOK, valA]
  refine kr _ (AW.ret ?_)
  simp [Try.f21]
  exact Fin.refl ⟨rfl, rfl⟩
end Go.Par
