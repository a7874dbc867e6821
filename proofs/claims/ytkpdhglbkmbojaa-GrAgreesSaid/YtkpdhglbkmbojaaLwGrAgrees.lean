import Derived.Test.YtkpdhglbkmbojaaGcD
import Derived.Test.YtkpdhglbkmbojaaGrD
import Derived.Test.YtkpdhglbkmbojaaGrB
import Derived.Test.YtkpdhglbkmbojaaCgA
set_option linter.unusedSimpArgs false
set_option linter.unusedVariables false
set_option maxRecDepth 8000
set_option maxHeartbeats 1000000
namespace Go.Par
open Go.Proofs

theorem law_GrAgrees (g : G) (hg : g.wide) (la : List (List Bool)) (hA : (DK.sl (.sl .bool)).fits la) (lb : List (List Bool)) (hB : (DK.sl (.sl .bool)).fits lb) : Pure Try.prog 6 [g.av, .ro false (bools2 la), .ro false (bools2 lb)] (.bool true) := by
  have hf := hg.f
  have sH := l18_Heavy g hf la lb (G.wide.rows2 hA) (G.wide.rows2 hB)
  have sR := gr1_Region g hf la lb
  have sO := r9_Rough g hf la lb
  intro h
  refine AC.body Θ_ok Try.func6 rfl rfl (Nat.le_of_ble_eq_true rfl) ?_
  refine AW.seq fun _ k1 => AW.region [] Θ_ok ?_
  simp
  refine k1 _ ?_
  refine AW.seq fun _ k1 => ?_
  by_cases h1 : 0 < heavy18 g la lb
  · refine AW.seq fun _ k2 => AW.regionAt 4 [] Θ_ok fun B hB => ?_
    simp
    refine sH.use (by simp [G.av]) ?_
    refine hB _ ?_
    clear hB B
    simp [h1]
    refine k2 _ ?_
    refine AW.cond true (by simp [Int.natCast_inj]) (fun _ => ?_) (fun h => by cases h)
    refine AW.seq fun _ kr => AW.region [] Θ_ok ?_
    simp
    refine (l18_awake).use (by simp [G.av]) ?_
    try simp
    refine kr _ (AW.ret ?_)
    simp [Try.f6]
    exact Fin.refl ⟨rfl, rfl⟩
  have h1' := Int.not_lt.1 h1
  by_cases h2 : 12 < g.owner.length
  · have h2' : (12 : Int) < g.owner.length := by omega
    refine AW.seq fun _ k2 => AW.regionAt 4 [] Θ_ok fun B hB => ?_
    simp
    refine sH.use (by simp [G.av]) ?_
    refine hB _ ?_
    clear hB B
    simp [h1, h1', h2, h2']
    refine k2 _ ?_
    refine AW.cond true (by simp [Int.natCast_inj]) (fun _ => ?_) (fun h => by cases h)
    refine AW.seq fun _ kr => AW.region [] Θ_ok ?_
    simp
    refine (l18_awake).use (by simp [G.av]) ?_
    try simp
    refine kr _ (AW.ret ?_)
    simp [Try.f6]
    exact Fin.refl ⟨rfl, rfl⟩
  have h2' : ¬ (12 : Int) < g.owner.length := by omega
  have h2'' : (g.owner.length : Int) ≤ 12 := by omega
  by_cases h3 : 2 < la.length
  · have h3' : (2 : Int) < la.length := by omega
    refine AW.seq fun _ k2 => AW.regionAt 4 [] Θ_ok fun B hB => ?_
    simp
    refine sH.use (by simp [G.av]) ?_
    refine hB _ ?_
    clear hB B
    simp [h1, h1', h2, h2', h2'', h3, h3']
    refine k2 _ ?_
    refine AW.cond true (by simp [Int.natCast_inj]) (fun _ => ?_) (fun h => by cases h)
    refine AW.seq fun _ kr => AW.region [] Θ_ok ?_
    simp
    refine (l18_awake).use (by simp [G.av]) ?_
    try simp
    refine kr _ (AW.ret ?_)
    simp [Try.f6]
    exact Fin.refl ⟨rfl, rfl⟩
  have h3' : ¬ (2 : Int) < la.length := by omega
  have h3'' : (la.length : Int) ≤ 2 := by omega
  by_cases h4 : 2 < lb.length
  · have h4' : (2 : Int) < lb.length := by omega
    refine AW.seq fun _ k2 => AW.regionAt 4 [] Θ_ok fun B hB => ?_
    simp
    refine sH.use (by simp [G.av]) ?_
    refine hB _ ?_
    clear hB B
    simp [h1, h1', h2, h2', h2'', h3, h3', h3'', h4, h4']
    refine k2 _ ?_
    refine AW.cond true (by simp [Int.natCast_inj]) (fun _ => ?_) (fun h => by cases h)
    refine AW.seq fun _ kr => AW.region [] Θ_ok ?_
    simp
    refine (l18_awake).use (by simp [G.av]) ?_
    try simp
    refine kr _ (AW.ret ?_)
    simp [Try.f6]
    exact Fin.refl ⟨rfl, rfl⟩
  have h4' : ¬ (2 : Int) < lb.length := by omega
  have h4'' : (lb.length : Int) ≤ 2 := by omega
  refine AW.seq fun _ k2 => AW.regionAt 4 [] Θ_ok fun B hB => ?_
  simp
  refine sH.use (by simp [G.av]) ?_
  refine hB _ ?_
  clear hB B
  simp [h1, h1', h2, h2', h2'', h3, h3', h3'', h4, h4', h4'']
  refine k2 _ ?_
  refine AW.cond false (by simp [Int.natCast_inj]) (fun h => by cases h) (fun _ => ?_)
  refine AW.skip ?_
  simp
  refine k1 _ ?_
  by_cases hE : cgErr g la lb = 0
  · have ok := cg_ok hE
    have hn := (may_ok ok.m).1
    rw [roughA, if_pos hE] at sO
    rw [regionA, if_pos ⟨ok.m, ok.a4, ok.e4⟩] at sR
    have lZ : (solveL g la lb).1.length = g.owner.length := (solve_spec ok.m la lb).2.1.1
    have lW : (roW g (winL (cgG g la lb) (cgP g la lb)) (kC la lb)).length = g.owner.length := length_tab _ _
    have key : ∀ x (hx : x < g.owner.length) (h1 : x < (solveL g la lb).1.length) (h2 : x < (roW g (winL (cgG g la lb) (cgP g la lb)) (kC la lb)).length), (solveL g la lb).1[x] = ((roW g (winL (cgG g la lb) (cgP g la lb)) (kC la lb))[x] == 1) := by
      intro x hx h1 h2
      have k0 := ok.k0
      have q := gr1_counter hE (p := x * kC la lb + 0) (cg_lt hE hx k0)
      rw [(cg_at hE x 0 k0).1] at q
      have e1 : (roW g (winL (cgG g la lb) (cgP g la lb)) (kC la lb))[x] = fI (winL (cgG g la lb) (cgP g la lb)) (x * kC la lb + 0) := by simp [roW]
      have e2 : hasN (solveL g la lb).1 x = (solveL g la lb).1[x] := by simp [hasN, h1]
      rw [e2] at q
      rw [e1]
      rw [Bool.eq_iff_iff, ← q]
      simp
    generalize roW g (winL (cgG g la lb) (cgP g la lb)) (kC la lb) = W at *
    generalize (solveL g la lb).1 = Z at *
    refine AW.seq fun _ k1 => AW.regionAt 4 [] Θ_ok fun B hB => ?_
    simp
    refine sO.use (by simp [G.av]) ?_
    refine hB _ ?_
    clear hB B
    simp
    refine k1 _ ?_
    refine AW.seq fun _ k1 => ?_
    refine AW.seq fun _ k2 => AW.region [] Θ_ok ?_
    simp
    refine k2 _ ?_
    refine AW.cond false (by simp [Int.natCast_inj]) (fun h => by cases h) (fun _ => ?_)
    refine AW.skip ?_
    simp
    refine k1 _ ?_
    refine AW.seq fun _ k1 => AW.regionAt 4 [] Θ_ok fun B hB => ?_
    simp
    refine sR.use (by simp [G.av]) ?_
    refine hB _ ?_
    clear hB B
    simp
    refine k1 _ ?_
    refine AW.seq fun _ k1 => ?_
    refine AW.seq fun _ k2 => AW.region [] Θ_ok ?_
    simp [lZ, lW]
    refine k2 _ ?_
    refine AW.cond false (by simp [Int.natCast_inj]) (fun h => by cases h) (fun _ => ?_)
    refine AW.skip ?_
    simp
    refine k1 _ ?_
    refine AW.seq fun _ k1 => ?_
    refine AW.seq fun _ k2 => AW.region [] Θ_ok ?_
    simp [lW]
    refine k2 _ ?_
    refine AW.block ?_
    refine AW.loopI (X := Nat) (fun x => x ≤ g.owner.length) (fun x => ⟨69, [(7, .ro true (ints W)), (9, .ro false (bools Z)), (53, .int .i64 g.owner.length), (54, .int .i64 x)], h⟩) (fun x => g.owner.length - x) 0 (Nat.zero_le _) (GStep.eq (by simp) (subH.refl _)) fun x hx => ?_
    refine AW.seq fun _ k2 => AW.region [] Θ_ok ?_
    simp
    refine k2 _ ?_
    by_cases hlt : x < g.owner.length
    · have inc := wrap_succ (show x < 9223372036854775807 by omega)
      have hltZ : x < Z.length := by omega
      have hltW : x < W.length := by omega
      have kx := key x hlt hltZ hltW
      refine AW.seq fun _ k2 => AW.cond true (by simp [Int.natCast_inj, hlt]) (fun _ => ?_) (fun h => by cases h)
      refine AW.skip ?_
      simp
      refine k2 _ ?_
      refine AW.seq fun _ k2 => ?_
      refine AW.block ?_
      refine AW.seq fun _ k3 => AW.region [] Θ_ok ?_
      simp
      refine k3 _ ?_
      refine AW.seq fun _ k3 => AW.draw [] 10 [] Θ_ok mixed (by kernel_rfl) (by kernel_rfl) ?_
      simp [vcDraw, vcPre, vcTail, callA, isAlloc, isLoad, effOp, obl, obA, mkOK, valA, hltZ, hltW, kx]
      refine k3 _ ?_
      refine AW.cond false (by simp [Int.natCast_inj]) (fun h => by cases h) (fun _ => ?_)
      refine AW.skip ?_
      simp
      refine k2 _ ?_
      refine AW.region [] Θ_ok ?_
      simp
      exact ⟨x + 1, by omega, by omega, GStep.eq (by simp [inc]) (subH.refl _)⟩
    have hxx : x = g.owner.length := by omega
    subst hxx
    refine AW.seq fun _ k2 => AW.cond false (by simp [Int.natCast_inj]) (fun h => by cases h) (fun _ => ?_)
    refine AW.exit ?_
    simp
    refine k1 _ ?_
    refine AW.seq fun _ kr => AW.region [] Θ_ok ?_
    simp
    refine (l18_awake).use (by simp [G.av]) ?_
    try simp
    refine kr _ (AW.ret ?_)
    simp [Try.f6]
    exact Fin.refl ⟨rfl, rfl⟩
  · rw [roughA, if_neg hE] at sO
    have hE' : ¬ (0 : Int) = cgErr g la lb := fun e => hE e.symm
    generalize cgErr g la lb = e at *
    refine AW.seq fun _ k1 => AW.regionAt 4 [] Θ_ok fun B hB => ?_
    simp
    refine sO.use (by simp [G.av]) ?_
    refine hB _ ?_
    clear hB B
    simp
    refine k1 _ ?_
    refine AW.seq fun _ k1 => ?_
    refine AW.seq fun _ k2 => AW.region [] Θ_ok ?_
    simp [hE]
    refine k2 _ ?_
    refine AW.cond true (by simp [Int.natCast_inj, hE]) (fun _ => ?_) (fun h => by cases h)
    refine AW.seq fun _ kr => AW.region [] Θ_ok ?_
    simp
    refine (l18_awake).use (by simp [G.av]) ?_
    try simp
    refine kr _ (AW.ret ?_)
    simp [Try.f6]
    exact Fin.refl ⟨rfl, rfl⟩
end Go.Par
