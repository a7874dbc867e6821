import Derived.Test.YtihlpchiomkinaaSpK
import Derived.Test.YtihlpchiomkinaaSmQ
import Derived.Test.YtihlpchiomkinaaPhA
set_option linter.unusedSimpArgs false
set_option linter.unusedVariables false
set_option maxRecDepth 8000
set_option maxHeartbeats 2000000
namespace Go.Par
open Go.Proofs

def upX (P : List Int) (x : Nat) : List Int := tab P.length fun i => if i < x then P.getD i 0 + 2 else 0
theorem upX_len (P : List Int) (x : Nat) : (upX P x).length = P.length := length_tab _ _
theorem upX_set {P : List Int} {x : Nat} (hx : x < P.length) : (upX P x).set x (P[x] + 2) = upX P (x + 1) := by
  refine List.ext_getElem (by simp [upX]) fun i h1 h2 => ?_
  have hi : i < P.length := by simpa [upX] using h2
  rw [List.getElem_set]
  simp only [upX, getElem_tab]
  by_cases e : x = i
  · subst e; rw [if_pos rfl, if_pos (Nat.lt_succ_self _)]; simp [hx]
  · rw [if_neg e]
    by_cases q : i < x
    · rw [if_pos q, if_pos (by omega)]
    · rw [if_neg q, if_neg (by omega)]
theorem upX_at {P : List Int} {x : Nat} (hx : x < P.length) (h : x < (upX P (x + 1)).length) : (upX P (x + 1))[x] = P[x] + 2 := by
  simp [upX, hx]
theorem upX_full (P : List Int) : upX P P.length = upP P := by
  refine List.ext_getElem (by simp [upX, upP]) fun i h1 h2 => ?_
  have hi : i < P.length := by simpa [upX] using h1
  simp [upX, upP, hi]
theorem upX_zero (P : List Int) : upX P 0 = tab P.length fun _ => 0 := tab_congr fun i _ => by rw [if_neg (Nat.not_lt_zero _)]

theorem up_num : ∀ m : Ms, (numM m).length = 3 ∧ (numM (upM m)).length = 3 ∧ (∀ (h : 0 < (numM (upM m)).length), (numM (upM m))[0] = 0) ∧ (numM m).take 2 = (numM (upM m)).drop 1
  | none => ⟨rfl, rfl, fun _ => rfl, rfl⟩
  | some (_, _, _) => ⟨rfl, rfl, fun _ => rfl, rfl⟩

theorem law_SmallShift (g : G) (hg : g.wide) (P : List Int) (hP : (DK.sl .int).fits P) : Pure Try.prog 10 [g.av, .ro false (ints P)] (.bool true) := by
  have hf := hg.f
  have hPl : P.length ≤ 1152921504606846976 := by
    have : P.length * 8 ≤ reachBytes := hP.1
    unfold reachBytes at this
    omega
  have sH := l15_Heavy g hf P
  have sY := r9_MayPrio g hf P hPl
  have sM := small_Measures g hf P hPl
  intro h
  refine AC.body Θ_ok Try.func10 rfl rfl (Nat.le_of_ble_eq_true rfl) ?_
  refine AW.seq fun _ k1 => AW.region [] Θ_ok ?_
  simp
  refine k1 _ ?_
  refine AW.seq fun _ k1 => ?_
  by_cases h1 : 0 < heavy15 g P
  · refine AW.seq fun _ k2 => AW.regionAt 3 [] Θ_ok fun B hB => ?_
    simp
    refine sH.use (by simp [G.av]) ?_
    refine hB _ ?_
    clear hB B
    simp [h1]
    refine k2 _ ?_
    refine AW.cond true (by simp [Int.natCast_inj]) (fun _ => ?_) (fun h => by cases h)
    refine AW.seq fun _ kr => AW.region [] Θ_ok ?_
    simp
    refine (l16_awake).use (by simp [G.av]) ?_
    try simp
    refine kr _ (AW.ret ?_)
    simp [Try.f10]
    exact Fin.refl ⟨rfl, rfl⟩
  have h1' := Int.not_lt.1 h1
  by_cases hm : mayP g P = true
  · rw [smA, if_pos hm] at sM
    rw [hm] at sY
    have ok := mayP_mg hm
    have hn := (may_ok ok.m).1
    have lP := ok.len
    have hEP : ∀ x (hx : x < P.length), 0 ≤ P[x] ∧ P[x] ≤ 5 := fun x hx => by
      have p0 := ok.lo x (by omega)
      have p5 := ok.hi x (by omega)
      rw [show P.getD x 0 = P[x] by simp [hx]] at p0 p5
      exact ⟨p0, p5⟩
    refine AW.seq fun _ k2 => AW.regionAt 3 [] Θ_ok fun B hB => ?_
    simp
    refine sH.use (by simp [G.av]) ?_
    refine hB _ ?_
    clear hB B
    refine vcOps_split 5 fun B hB => ?_
    simp [h1, h1']
    refine sY.use (by simp [G.av]) ?_
    refine hB _ ?_
    clear hB B
    simp
    refine k2 _ ?_
    refine AW.cond false (by simp [Int.natCast_inj]) (fun h => by cases h) (fun _ => ?_)
    refine AW.skip ?_
    simp
    refine k1 _ ?_
    refine AW.seq fun _ k1 => AW.region [26] Θ_ok ?_
    simp [newA]
    have b1 : 8 * (P.length : Int) ≤ 140737488355328 := by omega
    have b2 : (P.length : Int) ≤ 140737488355328 := by omega
    have e1 : (List.replicate P.length (AV.int IntKind.i64 0)).flatMap AV.flat = (upX P 0).map (AV.int .i64) := by
      rw [replicate_tab, flat_tab (fun _ _ => rfl), upX_zero]; simp
    rw [e1]
    simp only [obI_mk]
    refine ⟨⟨b1, b2⟩, fun e he => k1 _ ?_⟩
    clear e1 b1 b2
    have eH : ∀ X : Ob, upd h e (some X) e = some X := fun X => upd_same _ _ _
    have eU : ∀ X Y : Ob, upd (upd h e (some X)) e (some Y) = upd h e (some Y) := fun X Y => upd_upd _ _ _ _
    have eS : ∀ X : Ob, subH h (upd h e (some X)) := fun X o y hy => by
      by_cases q : o = e
      · subst q; rw [he] at hy; cases hy
      · rw [upd_ne _ _ q]; exact hy
    refine AW.seq fun _ k1 => ?_
    refine AW.seq fun _ k2 => AW.region [] Θ_ok ?_
    simp
    refine k2 _ ?_
    refine AW.block ?_
    refine AW.loopI (X := Nat) (fun x => x ≤ P.length ∧ ∀ i (h : i < P.length), i < x → P[i] ≤ 3) (fun x => ⟨120, [(1, .ro false (ints P)), (2, .rop [.ro false (ints g.owner), .ro false (rows g.next)]), (5, .mu e P.length), (27, .ro false (ints P)), (28, .int .i64 P.length), (29, .int .i64 x)], upd h e (some (obI (upX P x)))⟩) (fun x => P.length - x) 0 ⟨Nat.zero_le _, fun i h q => absurd q (Nat.not_lt_zero _)⟩ (GStep.eq (by simp) (subH.refl _)) ?_
    rintro x ⟨hx, hall⟩
    refine AW.seq fun _ k2 => AW.region [] Θ_ok ?_
    simp
    refine k2 _ ?_
    by_cases hlt : x < P.length
    · have inc := wrap_succ (show x < 9223372036854775807 by omega)
      obtain ⟨p0, p5⟩ := hEP x hlt
      have w2 : IntKind.i64.wrap (P[x] + 2) = P[x] + 2 := wrap_id (by omega) (by omega)
      have ux := upX_set hlt
      have ua := upX_at hlt (by rw [upX_len]; exact hlt)
      have l1 := upX_len P x
      have l2 := upX_len P (x + 1)
      have mx := map_set_int (upX P x) x (P[x] + 2)
      rw [ux] at mx
      have ud : (List.map (AV.int IntKind.i64) (upX P (x + 1))).drop x = .int .i64 (P[x] + 2) :: (List.map (AV.int IntKind.i64) (upX P (x + 1))).drop (x + 1) := by
        rw [List.drop_eq_getElem_cons (by rw [List.length_map, l2]; exact hlt), List.getElem_map, ua]
      refine AW.seq fun _ k2 => AW.cond true (by simp [Int.natCast_inj, hlt]) (fun _ => ?_) (fun h => by cases h)
      refine AW.skip ?_
      simp
      refine k2 _ ?_
      refine AW.seq fun _ k2 => ?_
      refine AW.block ?_
      refine AW.seq fun _ k3 => AW.region [] Θ_ok ?_
      simp [hlt]
      refine k3 _ ?_
      clear ua ux
      generalize hU2 : upX P (x + 1) = U2 at *
      generalize upX P x = U1 at *
      refine AW.seq fun _ k3 => AW.region [] Θ_ok ?_
      simp [eH, w2, hlt, l1, mx, obI_mk, eU]
      refine ⟨by omega, k3 _ ?_⟩
      by_cases h6 : 6 ≤ P[x] + 2
      · refine AW.seq fun _ k3 => AW.region [] Θ_ok ?_
        simp [eH, hlt, l2, ud, h6]
        refine k3 _ ?_
        refine AW.cond true (by simp [Int.natCast_inj, h6]) (fun _ => ?_) (fun h => by cases h)
        refine AW.seq fun _ kr => AW.region [] Θ_ok ?_
        simp
        refine (l16_awake).use (by simp [G.av]) ?_
        try simp
        refine kr _ (AW.ret ?_)
        simp [Try.f10]
        exact Fin.gv (GV.sub (eS _)) (Fin.refl ⟨rfl, rfl⟩)
      · have h6' := Int.not_le.1 h6
        refine AW.seq fun _ k3 => AW.region [] Θ_ok ?_
        simp [eH, hlt, l2, ud, h6, h6']
        refine k3 _ ?_
        refine AW.cond false (by simp [Int.natCast_inj, h6, h6']) (fun h => by cases h) (fun _ => ?_)
        refine AW.skip ?_
        simp
        refine k2 _ ?_
        refine AW.region [] Θ_ok ?_
        simp
        refine ⟨x + 1, ⟨by omega, fun i h q => ?_⟩, by omega, GStep.eq (by simp [inc]) (subH_of_eq (by rw [hU2]))⟩
        by_cases z : i = x
        · subst z; omega
        · exact hall i h (by omega)
    have hxx : x = P.length := by omega
    subst hxx
    refine AW.seq fun _ k2 => AW.cond false (by simp [Int.natCast_inj]) (fun h => by cases h) (fun _ => ?_)
    refine AW.exit ?_
    simp
    refine k1 _ ?_
    rw [upX_full]
    have U : Up g P := Up.of ok fun p hp => by
      obtain ⟨i, hi, rfl⟩ := List.mem_iff_getElem.1 hp
      exact hall i hi hi
    have hX := meas_least ok
    have hm2 : mayP g (upP P) = true := by
      simp only [mayP, Bool.and_eq_true, decide_eq_true_eq, List.all_eq_true]
      refine ⟨⟨ok.m, by rw [upP, List.length_map]; exact lP⟩, fun p hp => ?_⟩
      obtain ⟨q, hq, rfl⟩ := List.mem_map.1 hp
      obtain ⟨i, hi, rfl⟩ := List.mem_iff_getElem.1 hq
      have := hEP i hi
      have := hall i hi hi
      omega
    have lU : (upP P).length = P.length := by rw [upP, List.length_map]
    have sM2 := small_Measures g hf (upP P) (by omega)
    rw [smA, if_pos hm2, ← meas_eq U.ok2 (up_least U hX)] at sM2
    have lL : (measL g P).length = g.owner.length := meas_len ok
    have mok := hX.ok
    obtain ⟨L, hL⟩ : ∃ L, L = measL g P := ⟨_, rfl⟩
    rw [← hL] at sM sM2 lL mok
    clear hL hX hall hEP
    have lA : (L.map numM).length = g.owner.length := by simp [lL]
    have lA2 : ((L.map upM).map numM).length = g.owner.length := by simp [lL]
    have lB : (L.map topM).length = g.owner.length := by simp [lL]
    have eB : (L.map upM).map topM = L.map topM := by
      rw [List.map_map]
      refine List.map_congr_left fun m _ => ?_
      cases m with
      | none => rfl
      | some t => obtain ⟨_, _, _⟩ := t; rfl
    rw [eB] at sM2
    have key : ∀ x (hx : x < g.owner.length) (h1 : x < (L.map numM).length) (h2 : x < ((L.map upM).map numM).length), (L.map numM)[x].length = 3 ∧ ((L.map upM).map numM)[x].length = 3 ∧ (∀ (h : 0 < ((L.map upM).map numM)[x].length), ((L.map upM).map numM)[x][0] = 0) ∧ (L.map numM)[x].take 2 = ((L.map upM).map numM)[x].drop 1 := by
      intro x hx h1 h2
      simp only [List.getElem_map]
      exact up_num _
    have sB := r9_SameRow (L.map topM) (L.map topM) (by omega)
    rw [decide_eq_true rfl] at sB
    clear eB mok
    generalize L.map topM = B at *
    generalize (L.map upM).map numM = A2 at *
    generalize L.map numM = A at *
    refine AW.freeze 5 false rfl (eH _) (fun z => by cases z) rfl (by simp [lU]) (fun u hu => by obtain ⟨z, _, rfl⟩ := List.mem_map.1 hu; rfl) ?_
    rw [obI_cells, updN _ he]
    generalize upP P = P2 at *
    refine AW.seq fun _ k1 => AW.regionAt 3 [] Θ_ok fun B hB => ?_
    simp
    refine sM.use (by simp [G.av]) ?_
    refine hB _ ?_
    clear hB B
    simp
    refine k1 _ ?_
    refine AW.seq fun _ k1 => AW.regionAt 3 [] Θ_ok fun B hB => ?_
    simp
    refine sM2.use (by simp [G.av]) ?_
    refine hB _ ?_
    clear hB B
    simp
    refine k1 _ ?_
    refine AW.seq fun _ k1 => ?_
    refine AW.seq fun _ k2 => AW.regionAt 16 [] Θ_ok fun B hB => ?_
    simp [lA, lA2, lP]
    refine sB.use (by simp) ?_
    refine hB _ ?_
    clear hB B
    simp
    refine k2 _ ?_
    refine AW.cond false (by simp [Int.natCast_inj]) (fun h => by cases h) (fun _ => ?_)
    refine AW.skip ?_
    simp
    refine k1 _ ?_
    refine AW.seq fun _ k1 => ?_
    refine AW.seq fun _ k2 => AW.region [] Θ_ok ?_
    simp [lA]
    refine k2 _ ?_
    refine AW.block ?_
    refine AW.loopI (X := Nat) (fun x => x ≤ g.owner.length) (fun x => ⟨120, [(8, .ro true (rows A)), (10, .ro true (rows A2)), (77, .int .i64 g.owner.length), (78, .int .i64 x)], h⟩) (fun x => g.owner.length - x) 0 (Nat.zero_le _) (GStep.eq (by simp) (subH.refl _)) fun x hx => ?_
    refine AW.seq fun _ k2 => AW.region [] Θ_ok ?_
    simp
    refine k2 _ ?_
    by_cases hlt : x < g.owner.length
    · have inc := wrap_succ (show x < 9223372036854775807 by omega)
      have hltA : x < A.length := by omega
      have hltA2 : x < A2.length := by omega
      obtain ⟨t1, t2, t3, t4⟩ := key x hlt hltA hltA2
      have sE := r9_SameInts (A[x].take 2) (A2[x].drop 1) (by rw [List.length_take]; omega)
      rw [decide_eq_true t4] at sE
      have q1 : List.take 2 (ints A[x]) = ints (A[x].take 2) := by simp [List.map_take]
      have q2 : (ints A2[x]).tail = ints (A2[x].drop 1) := by simp
      rw [← q1, ← q2] at sE
      have o1 : ∀ y ∈ ints A[x], y.flat.length = 1 := fun y hy => by obtain ⟨_, _, rfl⟩ := List.mem_map.1 hy; rfl
      have o2 : ∀ y ∈ ints A2[x], y.flat.length = 1 := fun y hy => by obtain ⟨_, _, rfl⟩ := List.mem_map.1 hy; rfl
      have t3' := t3 (by omega)
      refine AW.seq fun _ k2 => AW.cond true (by simp [Int.natCast_inj, hlt]) (fun _ => ?_) (fun h => by cases h)
      refine AW.skip ?_
      simp
      refine k2 _ ?_
      refine AW.seq fun _ k2 => ?_
      refine AW.block ?_
      refine AW.seq fun _ k3 => AW.region [] Θ_ok ?_
      simp
      refine k3 _ ?_
      refine AW.seq fun _ k3 => AW.draw [] 37 [] Θ_ok mixed (by kernel_rfl) (by kernel_rfl) ?_
      refine vcDraw_split 34 fun B hB => ?_
      simp [vcPre, vcTail, callA, isAlloc, isLoad, effOp, obl, obA, mkOK, valA, hltA, hltA2, t1, t2, t3']
      refine hB _ _ _ ?_
      clear hB B
      simp [vcPre, vcTail, callA, isAlloc, isLoad, effOp, obl, obA, mkOK, valA]
      refine ⟨_, sE.wk (by simp), ?_⟩
      try simp
      refine k3 _ ?_
      refine AW.cond false (by simp [Int.natCast_inj]) (fun h => by cases h) (fun _ => ?_)
      refine AW.skip ?_
      simp
      refine k2 _ ?_
      refine AW.region [] Θ_ok ?_
      simp
      exact ⟨x + 1, by omega, by omega, GStep.eq (by simp [inc]) (subH.refl _)⟩
    have hxx : x = g.owner.length := by omega
    subst hxx
    refine AW.seq fun _ k2 => AW.cond false (by simp [Int.natCast_inj]) (fun h => by cases h) (fun _ => ?_)
    refine AW.exit ?_
    simp
    refine k1 _ ?_
    refine AW.seq fun _ kr => AW.region [] Θ_ok ?_
    simp
    refine (l16_awake).use (by simp [G.av]) ?_
    try simp
    refine kr _ (AW.ret ?_)
    simp [Try.f10]
    exact Fin.refl ⟨rfl, rfl⟩
  · rw [show mayP g P = false by simpa using hm] at sY
    refine AW.seq fun _ k2 => AW.regionAt 3 [] Θ_ok fun B hB => ?_
    simp
    refine sH.use (by simp [G.av]) ?_
    refine hB _ ?_
    clear hB B
    refine vcOps_split 5 fun B hB => ?_
    simp [h1, h1']
    refine sY.use (by simp [G.av]) ?_
    refine hB _ ?_
    clear hB B
    simp
    refine k2 _ ?_
    refine AW.cond true (by simp [Int.natCast_inj]) (fun _ => ?_) (fun h => by cases h)
    refine AW.seq fun _ kr => AW.region [] Θ_ok ?_
    simp
    refine (l16_awake).use (by simp [G.av]) ?_
    try simp
    refine kr _ (AW.ret ?_)
    simp [Try.f10]
    exact Fin.refl ⟨rfl, rfl⟩
end Go.Par
