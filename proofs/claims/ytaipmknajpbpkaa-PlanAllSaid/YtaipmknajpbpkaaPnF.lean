/- The planner: a whole plan. -/
import Derived.Test.YtaipmknajpbpkaaPnE
set_option linter.unusedSimpArgs false
set_option linter.unusedVariables false
set_option maxRecDepth 8000
set_option maxHeartbeats 4000000
namespace Go.Par
open Go.Proofs

structure PX where
  y : List Bool
  to : List Int
  f : Nat

section
variable {g : G} (hf : g.fits) (hm : mayE g = 0) {A : List (List Bool)} (hA : 0 < A.length) (hA4 : A.length ≤ 100) {Z : List Bool} (hZ : Z.length = g.owner.length) {h0 : Heap} {a : Nat} (h0a : h0 a = none)
include hf hm hA hA4 hZ h0a
theorem plan_plans (row : List Bool) : AC Try.prog 40 [.ptr a 0, .ro false (bools row)] (upd h0 a (some (obPl g A Z .nils))) fun _ h' => ∃ q, HN h0 [a, q] ∧ h' = PLH h0 a q g A Z (planL g A row Z) := by
  have hb := hf.owner
  have hn := (may_ok hm).1
  have sR := slices_Repeat g.owner.length (by omega) (upd h0 a (some (obPl g A Z .nils)))
  have hH : upd h0 a (some (obPl g A Z .nils)) a = some (obPl g A Z .nils) := upd_same _ _ _
  refine AC.body Θ_ok Try.func40 rfl rfl (Nat.le_of_ble_eq_true rfl) ?_
  refine AW.seqEx (X := Nat) (fun q => HN h0 [a, q]) (fun q => ⟨101, [(0, .ptr a 0), (1, .ro false (bools row))], PLH h0 a q g A Z (List.replicate g.owner.length (-1))⟩) (fun _ k1 => ?_) ?_
  · refine AW.regionAt 8 [] Θ_ok fun B hB => ?_
    simp [hZ]
    refine (sR.wk (by simp)).mono ?_
    rintro r h' ⟨q, hq, rfl, rfl⟩
    have hqa : q ≠ a := fun e => by rw [e, upd_same] at hq; cases hq
    have hq0 : h0 q = none := by rwa [upd_ne _ _ hqa] at hq
    refine hB _ ?_
    clear hB B
    have e1 : upd (upd h0 a (some (obPl g A Z .nils))) q (some (obTd (List.replicate g.owner.length (-1)) true)) a = some (obPl g A Z .nils) := by rw [upd_ne _ _ (Ne.symm hqa), upd_same]
    simp [e1]
    refine k1 _ q ⟨by simp [Ne.symm hqa], by simp [h0a, hq0]⟩ (GStep.eq (by simp) (subH_of_eq ?_))
    simp only
    rw [upd_comm h0 _ _ (Ne.symm hqa), upd_upd]; rfl
  intro q N
  have sF := fun (to x : List _) => plan_force hf hm (PLH.ga N g A Z to) x
  have sG := fun (F I : List Bool) (hF : F.length = g.owner.length) (hI : I.length = g.owner.length) (to : List Int) (ht : to.length = g.owner.length) => plan_goes (A := A) (Z := Z) hf hm N F I hF hI to ht
  have sW := fun (to : List Int) (sure r : List Bool) => plan_waits hf hm (PLH.ga N g A Z to) sure r
  have gA := PLH.ga N g A Z
  obtain ⟨goal, hgoal⟩ : ∃ goal, goal = goalL g row Z := ⟨_, rfl⟩
  have eL : planL g A row Z = planG g A goal (g.owner.length + 1) (botL g) (planB g row Z) := by rw [hgoal]; rfl
  have eB : planB g row Z = goesL g (andL g goal Z) Z (List.replicate g.owner.length (-1)) := by rw [hgoal]; rfl
  have lB : (planB g row Z).length = g.owner.length := planB_len ..
  rw [eL]
  obtain ⟨to0, hto0⟩ : ∃ to0 : List Int, to0 = List.replicate g.owner.length (-1) := ⟨_, rfl⟩
  have lt0 : to0.length = g.owner.length := by rw [hto0]; simp
  rw [← hto0] at eB ⊢
  have g0 := gA to0
  have f0 := sF to0 Z
  have sA1 := pre_And g row (forceL g 1 Z) hb
  rw [show andL g row (forceL g 1 Z) = goal by rw [hgoal]; rfl] at sA1
  have sA2 := pre_And g goal Z hb
  have sG0 := sG (andL g goal Z) Z (len_and _ _ _) hZ to0 lt0
  rw [← eB] at sG0
  have sA3 := pre_And g [] [] hb
  rw [show andL g [] [] = botL g from rfl] at sA3
  obtain ⟨H0, hH0⟩ : ∃ H0, H0 = PLH h0 a q g A Z to0 := ⟨_, rfl⟩
  rw [← hH0] at g0 f0 sG0 ⊢
  refine AW.seq fun _ k1 => AW.draw [] 10 [3, 9] Θ_ok mixed (by kernel_rfl) (by kernel_rfl) ?_
  simp [vcDraw, vcPre, vcTail, callA, isAlloc, isLoad, effOp, obl, obA, mkOK, valA, g0]
  refine (f0.wk (by simp)).mono ?_
  rintro r h' ⟨rfl, rfl⟩
  simp [g0]
  refine sA1.use (by simp [G.av]) ?_
  simp [g0]
  refine k1 _ ?_
  refine AW.seq fun _ k1 => AW.draw [] 15 [4, 9] Θ_ok mixed (by kernel_rfl) (by kernel_rfl) ?_
  refine vcDraw_split 10 fun B hB => ?_
  simp [vcPre, vcTail, callA, isAlloc, isLoad, effOp, obl, obA, mkOK, valA, g0]
  refine hB _ _ _ ?_
  clear hB B
  simp [vcPre, vcTail, callA, isAlloc, isLoad, effOp, obl, obA, mkOK, valA, g0]
  refine ⟨_, sA2.wk (by simp [G.av]), ?_⟩
  try simp [g0]
  refine (sG0.wk (by simp)).mono ?_
  rintro r h' rfl
  have g1 := gA (planB g row Z)
  simp [g1]
  refine k1 _ ?_
  clear sG0 f0 g0 sA2 sA1
  refine AW.seq fun _ k1 => AW.regionAt 5 [] Θ_ok fun B hB => ?_
  simp [g1]
  refine sA3.use (by simp [G.av]) ?_
  refine hB _ ?_
  clear hB B
  simp
  refine k1 _ ?_
  refine AW.seq fun _ k1 => AW.region [] Θ_ok ?_
  simp
  refine k1 _ ?_
  refine AW.block ?_
  generalize planB g row Z = to1 at *
  obtain ⟨R, hR⟩ : ∃ R, R = planG g A goal (g.owner.length + 1) (botL g) to1 := ⟨_, rfl⟩
  rw [← hR]
  clear eL eB g1 sA3 lt0
  have M := level_mon hm hA goal
  refine AW.loopI (X := PX) (fun s => s.y.length = g.owner.length ∧ s.to.length = g.owner.length ∧ leS g.owner.length s.y (levelL g A goal s.y) ∧ g.owner.length < s.f + cntS s.y ∧ planG g A goal s.f s.y s.to = R) (fun s => ⟨101, [(0, .ptr a 0), (4, .ro true (bools goal)), (5, .ro false (bools s.y)), (6, .bnd 75 [.ptr a 0])], PLH h0 a q g A Z s.to⟩) (fun s => s.f) ⟨botL g, to1, g.owner.length + 1⟩ ⟨len_and _ _ _, lB, bot_le _, by simp only; omega, hR.symm⟩ ?_ ?_
  · exact GStep.trans (GStep.weaken (t := 5) (.ro false (bools (botL g))) rfl (.inl (by simp))) (GStep.eq (by simp) (subH.refl _))
  clear hR lB
  rintro ⟨y, to, f⟩ ⟨ly, lt, up, hc, hP⟩
  simp only at ly lt up hc hP ⊢
  refine AW.block ?_
  have g1 := gA to
  have f1 := sF to y
  obtain ⟨f', rfl⟩ : ∃ f', f = f' + 1 := ⟨f - 1, by have := cntS_le y; omega⟩
  rw [planG] at hP
  obtain ⟨near, hnear⟩ : ∃ near, near = forceL g 1 y := ⟨_, rfl⟩
  have lnear : near.length = g.owner.length := by rw [hnear]; exact len_force _ _ _
  obtain ⟨sure, hsure⟩ : ∃ sure, sure = sureL g goal y := ⟨_, rfl⟩
  have sO := pre_Or g goal near hb
  rw [show orL g goal near = sure by rw [hsure, hnear]; rfl] at sO
  obtain ⟨to2, hto2⟩ : ∃ to2, to2 = goesL g near y to := ⟨_, rfl⟩
  have lt2 : to2.length = g.owner.length := by rw [hto2, goesL_len]; exact lt
  have sG1 := sG near y lnear ly to lt
  rw [← hto2] at sG1
  have eR : planR g A goal y to = planK g A sure to2 A.length := by rw [hsure, hto2, hnear]; rfl
  have eV : levelL g A goal y = levelK g A sure A.length := by rw [hsure]; rfl
  rw [← hnear] at f1
  rw [eR] at hP
  refine AW.seq fun _ k2 => AW.regionAt 3 [] Θ_ok fun B hB => ?_
  simp [g1]
  refine (f1.wk (by simp)).mono ?_
  rintro r h' ⟨rfl, rfl⟩
  refine hB _ ?_
  clear hB B
  simp
  refine k2 _ ?_
  refine AW.seq fun _ k2 => AW.regionAt 7 [] Θ_ok fun B hB => ?_
  simp [g1]
  refine sO.use (by simp [G.av]) ?_
  refine hB _ ?_
  clear hB B
  simp
  refine k2 _ ?_
  refine AW.seq fun _ k2 => AW.region [] Θ_ok ?_
  simp
  refine (sG1.wk (by simp)).mono ?_
  rintro r h' rfl
  refine k2 _ ?_
  clear sG1 g1 f1 sO
  refine AW.seq fun _ k2 => AW.region [] Θ_ok ?_
  simp
  refine k2 _ ?_
  refine AW.weaken 9 (.ro false (bools (levelK g A sure 0))) rfl (.inl (by simp [levelK])) ?_
  refine AW.seq fun _ k2 => ?_
  have g2 := gA to2
  refine AW.seq fun _ k3 => AW.region [] Θ_ok ?_
  simp [g2]
  refine k3 _ ?_
  refine AW.block ?_
  refine AW.loopI (X := Nat) (fun x => x ≤ A.length) (fun x => ⟨101, [(0, .ptr a 0), (4, .ro true (bools goal)), (5, .ro false (bools y)), (6, .bnd 75 [.ptr a 0]), (8, .ro true (bools sure)), (9, .ro false (bools (levelK g A sure x))), (75, .ro false (bools2 A)), (76, .int .i64 A.length), (77, .int .i64 x)], PLH h0 a q g A Z (planK g A sure to2 x)⟩) (fun x => A.length - x) 0 (Nat.zero_le _) (GStep.eq (by simp) (subH.refl _)) fun x hx => ?_
  refine AW.seq fun _ k3 => AW.region [] Θ_ok ?_
  simp
  refine k3 _ ?_
  by_cases hlt : x < A.length
  · have inc := wrap_succ (show x < 9223372036854775807 by omega)
    have sWx := sW (planK g A sure to2 x) sure A[x]
    obtain ⟨gr, hgr⟩ : ∃ gr, gr = great g (stepL g sure A[x]) := ⟨_, rfl⟩
    have lgr : gr.length = g.owner.length := by rw [hgr]; exact (great_spec (step_mon hm sure A[x])).2.1
    have ltx : (planK g A sure to2 x).length = g.owner.length := by rw [planK_len]; exact lt2
    have sGx := sG gr gr lgr lgr (planK g A sure to2 x) ltx
    have gAx : A.getD x [] = A[x] := by simp [hlt]
    have e1 : goesL g gr gr (planK g A sure to2 x) = planK g A sure to2 (x + 1) := by rw [planK, gAx, ← hgr]
    have so := pre_Or g (levelK g A sure x) gr hb
    have e2 : orL g (levelK g A sure x) gr = levelK g A sure (x + 1) := by rw [levelK, gAx, ← hgr]
    rw [e2] at so
    rw [e1] at sGx
    rw [← hgr] at sWx
    have g3 := gA (planK g A sure to2 (x + 1))
    refine AW.seq fun _ k3 => AW.cond true (by simp [Int.natCast_inj, hlt]) (fun _ => ?_) (fun h => by cases h)
    refine AW.skip ?_
    simp
    refine k3 _ ?_
    refine AW.seq fun _ k3 => ?_
    refine AW.block ?_
    refine AW.seq fun _ k4 => AW.region [] Θ_ok ?_
    simp [hlt]
    refine k4 _ ?_
    refine AW.seq fun _ k4 => AW.regionAt 4 [] Θ_ok fun B hB => ?_
    simp
    refine (sWx.wk (by simp)).mono ?_
    rintro r h' ⟨rfl, rfl⟩
    refine hB _ ?_
    clear hB B
    simp
    refine k4 _ ?_
    refine AW.seq fun _ k4 => AW.region [] Θ_ok ?_
    simp
    refine (sGx.wk (by simp)).mono ?_
    rintro r h' rfl
    refine k4 _ ?_
    refine AW.regionAt 7 [] Θ_ok fun B hB => ?_
    simp [g3]
    refine so.use (by simp [G.av]) ?_
    refine hB _ ?_
    clear hB B
    simp
    refine k3 _ ?_
    refine AW.region [] Θ_ok ?_
    simp
    exact ⟨x + 1, by omega, by omega, GStep.trans (GStep.weaken (t := 9) (.ro false (bools (levelK g A sure (x + 1)))) rfl (.inl (by simp))) (GStep.eq (by simp [inc]) (subH.refl _))⟩
  · obtain rfl : x = A.length := by omega
    refine AW.seq fun _ k3 => AW.cond false (by simp [Int.natCast_inj]) (fun h => by cases h) (fun _ => ?_)
    refine AW.exit ?_
    simp
    refine k2 _ ?_
    rw [← eV]
    obtain ⟨to3, hto3⟩ : ∃ to3, to3 = planK g A sure to2 A.length := ⟨_, rfl⟩
    have lt3 : to3.length = g.owner.length := by rw [hto3, planK_len]; exact lt2
    rw [← hto3] at hP ⊢
    have lV : (levelL g A goal y).length = g.owner.length := M.len y
    have sE := slices_EqualB (levelL g A goal y) y (by omega)
    generalize hbv : decide (levelL g A goal y = y) = bv at sE
    refine AW.seq fun _ k2 => ?_
    refine AW.seq fun _ k3 => AW.region [] Θ_ok ?_
    simp
    refine sE.use (by simp) ?_
    refine k3 _ ?_
    cases bv
    · have e := of_decide_eq_false hbv
      clear hbv
      rw [if_neg e] at hP
      refine AW.cond false (by simp [Int.natCast_inj]) (fun h => by cases h) (fun _ => ?_)
      refine AW.skip ?_
      simp
      refine k2 _ ?_
      refine AW.region [] Θ_ok ?_
      simp
      have hc' := (cnt_mono ly lV up).2 (fun z => e z.symm)
      exact ⟨⟨levelL g A goal y, to3, f'⟩, ⟨lV, lt3, M.mono _ _ up, by simp only; omega, hP⟩, by simp only; omega, GStep.eq (by simp) (subH.refl _)⟩
    · have e := of_decide_eq_true hbv
      clear hbv
      rw [if_pos e] at hP
      refine AW.cond true (by simp [Int.natCast_inj]) (fun _ => ?_) (fun h => by cases h)
      refine AW.ret ?_
      simp [Try.f40]
      exact Fin.refl ⟨q, N, by rw [hP]⟩
end
end Go.Par
