import Derived.Test.YtdicfaplohdopaaFnF
import Derived.Test.YtdicfaplohdopaaMaV
set_option linter.unusedSimpArgs false
set_option maxRecDepth 8000
namespace Go.Par
open Go.Proofs

theorem forceR_len (g : G) (who : Int) (l : List Bool) : (forceR g who l).length ≤ g.owner.length := by
  unfold forceR; split
  · rw [forceL, length_tab]; exact Nat.le_refl _
  · exact Nat.zero_le _

theorem law_PreForms (g : G) (hg : g.wide) (p : Int) (_ : DK.fits .int p) (la : List Bool) (_ : (DK.sl .bool).fits la) (lb : List Bool) (_ : (DK.sl .bool).fits lb) : Pure Try.prog 6 [g.av, .int .i64 p, .ro false (bools la), .ro false (bools lb)] (.bool true) := by
  have hf := hg.f
  have hb := hf.owner
  intro h
  refine AC.body Θ_ok Try.func6 rfl rfl (Nat.le_of_ble_eq_true rfl) ?_
  refine AW.seq fun _ k1 => AW.region [] Θ_ok ?_
  simp
  refine k1 _ ?_
  refine AW.seq fun _ k1 => ?_
  refine AW.seq fun _ k2 => AW.region [] Θ_ok ?_
  simp
  refine ⟨rfl, ?_⟩
  cases h1 : lightB g [la, lb]
  · refine (l11_light g hf [la, lb] (by simp)).use (by simp [G.av]) ?_
    try simp [h1]
    refine k2 _ ?_
    refine AW.cond true (by simp [Int.natCast_inj]) (fun _ => ?_) (fun h => by cases h)
    refine AW.seq fun _ kr => AW.region [] Θ_ok ?_
    simp
    refine (l11_awake).use (by simp [G.av]) ?_
    try simp
    refine kr _ (AW.ret ?_)
    simp [Try.f6]
    exact Fin.refl ⟨rfl, rfl⟩
  · refine (l11_light g hf [la, lb] (by simp)).use (by simp [G.av]) ?_
    try simp [h1]
    refine k2 _ ?_
    refine AW.cond false (by simp [Int.natCast_inj]) (fun h => by cases h) (fun _ => ?_)
    refine AW.skip ?_
    simp
    refine k1 _ ?_
    refine AW.seq fun _ k1 => AW.region [] Θ_ok ?_
    simp
    refine k1 _ ?_
    have eX : (notL g la).length = g.owner.length := length_tab _ _
    have eY : (andL g la lb).length = g.owner.length := length_tab _ _
    have eZ : (orL g la lb).length = g.owner.length := length_tab _ _
    have vX : ∀ v (h : v < (notL g la).length), (notL g la)[v] = !hasN la v := fun v h => by simp [notL]
    have vY : ∀ v (h : v < (andL g la lb).length), (andL g la lb)[v] = (hasN la v && hasN lb v) := fun v h => by simp [andL]
    have vZ : ∀ v (h : v < (orL g la lb).length), (orL g la lb)[v] = (hasN la v || hasN lb v) := fun v h => by simp [orL]
    have fX := pre_Not g la hb
    have fY := pre_And g la lb hb
    have fZ := pre_Or g la lb hb
    generalize notL g la = X at eX vX fX
    generalize andL g la lb = Y at eY vY fY
    generalize orL g la lb = Z at eZ vZ fZ
    refine AW.seq fun _ k1 => AW.draw [] 14 [] Θ_ok mixed (by kernel_rfl) (by kernel_rfl) ?_
    simp [vcDraw, vcPre, vcAllocs, vcTail, callA, isAlloc, isLoad, effOp, obl, obA]
    refine ⟨_, fX.wk (by simp [G.av]), ?_⟩
    try simp
    refine ⟨_, fY.wk (by simp [G.av]), ?_⟩
    try simp
    refine ⟨_, fZ.wk (by simp [G.av]), ?_⟩
    try simp
    refine k1 _ ?_
    refine AW.seq fun _ k1 => ?_
    refine AW.seq fun _ k2 => AW.region [] Θ_ok ?_
    simp [eX, eY, eZ]
    refine k2 _ ?_
    refine AW.cond false (by simp [Int.natCast_inj]) (fun h => by cases h) (fun _ => ?_)
    refine AW.skip ?_
    simp
    refine k1 _ ?_
    refine AW.seq fun _ k1 => ?_
    refine AW.seq fun _ k2 => AW.region [] Θ_ok ?_
    simp
    refine k2 _ ?_
    refine AW.block ?_
    refine AW.loopI (X := Nat) (fun x => x ≤ g.owner.length) (fun x => ⟨115, [(55, .int .i64 x), (54, .int .i64 g.owner.length), (10, .int .i64 ((List.range x).countP (hasN la) : Nat)), (11, .ro true (bools X)), (12, .ro true (bools Y)), (13, .ro true (bools Z)), (1, .int .i64 p), (2, .ro false (bools la)), (3, .ro false (bools lb)), (4, .rop [.ro false (ints g.owner), .ro false (rows g.next)])], h⟩) (fun x => g.owner.length - x) 0 (Nat.zero_le _) (GStep.eq (by simp) (subH.refl _)) fun x hx => ?_
    refine AW.seq fun _ k2 => AW.region [] Θ_ok ?_
    simp
    refine k2 _ ?_
    by_cases hlt : x < g.owner.length
    · have l1 : x < X.length := by omega
      have l2 : x < Y.length := by omega
      have l3 : x < Z.length := by omega
      have inc := wrap_succ (show x < 9223372036854775807 by omega)
      have hstep : (List.range (x + 1)).countP (hasN la) = (List.range x).countP (hasN la) + if hasN la x then 1 else 0 := by
        rw [List.range_succ, List.countP_append]
        simp [List.countP_cons]
      have hle : (List.range x).countP (hasN la) ≤ x := Nat.le_trans List.countP_le_length (by simp)
      have inc2 := wrap_succ (show (List.range x).countP (hasN la) < 9223372036854775807 by omega)
      have qX := vX x l1
      have qY := vY x l2
      have qZ := vZ x l3
      have sa := r9_Has la x
      have sb := r9_Has lb x
      have ea : (decide (0 ≤ (x : Int)) && hasI la x) = hasN la x := by simp
      have eb : (decide (0 ≤ (x : Int)) && hasI lb x) = hasN lb x := by simp
      rw [ea] at sa
      rw [eb] at sb
      refine AW.seq fun _ k2 => AW.cond true (by simp [Int.natCast_inj, hlt]) (fun _ => ?_) (fun h => by cases h)
      refine AW.skip ?_
      simp
      refine k2 _ ?_
      refine AW.seq fun _ k2 => ?_
      refine AW.block ?_
      refine AW.seq fun _ k3 => AW.region [] Θ_ok ?_
      simp
      refine k3 _ ?_
      generalize hasN la x = P at qX qY qZ sa hstep
      generalize hasN lb x = R at qY qZ sb
      refine AW.seq fun _ k3 => AW.region [] Θ_ok ?_
      simp
      refine sa.use (by simp) ?_
      try simp
      refine sb.use (by simp) ?_
      try simp
      refine k3 _ ?_
      cases P
      · cases R
        all_goals
          simp at qX qY qZ hstep
          refine AW.seq fun _ k3 => ?_
          refine AW.seq fun _ k4 => AW.region [] Θ_ok ?_
          simp [l1, l2, l3, qX, qY, qZ]
          refine k4 _ ?_
          refine AW.cond false (by simp [Int.natCast_inj]) (fun h => by cases h) (fun _ => ?_)
          refine AW.skip ?_
          simp
          refine k3 _ ?_
          refine AW.seq fun _ k4 => AW.region [] Θ_ok ?_
          simp
          refine k4 _ ?_
          refine AW.cond false (by simp [Int.natCast_inj]) (fun h => by cases h) (fun _ => ?_)
          refine AW.skip ?_
          simp
          refine k2 _ ?_
          refine AW.region [] Θ_ok ?_
          simp
          exact ⟨x + 1, by omega, by omega, GStep.eq (by simp [inc, hstep]) (subH.refl _)⟩
      · cases R
        all_goals
          simp at qX qY qZ hstep
          refine AW.seq fun _ k3 => ?_
          refine AW.seq fun _ k4 => AW.region [] Θ_ok ?_
          simp [l1, l2, l3, qX, qY, qZ]
          refine k4 _ ?_
          refine AW.cond false (by simp [Int.natCast_inj]) (fun h => by cases h) (fun _ => ?_)
          refine AW.skip ?_
          simp
          refine k3 _ ?_
          refine AW.seq fun _ k4 => AW.region [] Θ_ok ?_
          simp
          refine k4 _ ?_
          refine AW.cond true (by simp [Int.natCast_inj]) (fun _ => ?_) (fun h => by cases h)
          refine AW.region [] Θ_ok ?_
          simp
          refine k2 _ ?_
          refine AW.region [] Θ_ok ?_
          simp
          exact ⟨x + 1, by omega, by omega, GStep.eq (by simp [inc, inc2, hstep]) (subH.refl _)⟩
    · obtain rfl : x = g.owner.length := by omega
      refine AW.seq fun _ k2 => AW.cond false (by simp [Int.natCast_inj]) (fun h => by cases h) (fun _ => ?_)
      refine AW.exit ?_
      simp
      refine k1 _ ?_
      refine AW.seq fun _ kr => AW.draw [] 20 [] Θ_ok mixed (by kernel_rfl) (by kernel_rfl) ?_
      refine vcDraw_split 3 fun B hB => ?_
      simp [vcPre, callA, isAlloc, isLoad, effOp, obl, obA]
      refine ⟨_, (pre_Count g la hb).wk (by simp [G.av]), hB _ _ ?_⟩
      clear hB B
      simp [vcPre, vcAllocs, vcTail, callA, isAlloc, isLoad, effOp, obl, obA]
      refine ⟨_, (pre_Force g hf p la).wk (by simp [G.av]), ?_⟩
      try simp
      refine ⟨_, (r9_Force g hf p la).wk (by simp [G.av]), ?_⟩
      try simp
      refine ⟨_, (r9_SameRow (forceR g p la) (forceR g p la) (Nat.le_trans (forceR_len g p la) (by omega))).wk (by simp [forceA_eq]), ?_⟩
      try simp
      refine ⟨_, l11_awake, ?_⟩
      try simp
      refine kr _ (AW.ret ?_)
      simp [Try.f6]
      exact Fin.refl ⟨rfl, rfl⟩
end Go.Par
