import Derived.Test.YtihlpchiomkinaaSpK
import Derived.Test.YtihlpchiomkinaaPrG
import Derived.Test.YtihlpchiomkinaaPhA
import Derived.Test.YtihlpchiomkinaaLwParityForms
set_option linter.unusedSimpArgs false
set_option linter.unusedVariables false
set_option maxRecDepth 8000
set_option maxHeartbeats 1000000
namespace Go.Par
open Go.Proofs

theorem law_SmallAgrees (g : G) (hg : g.wide) (P : List Int) (hP : (DK.sl .int).fits P) : Pure Try.prog 11 [g.av, .ro false (ints P)] (.bool true) := by
  have hf := hg.f
  have hPl : P.length ≤ 1152921504606846976 := by
    have : P.length * 8 ≤ reachBytes := hP.1
    unfold reachBytes at this
    omega
  have sH := l15_Heavy g hf P
  have sM := r9_MayPrio g hf P hPl
  have sS := parity_Solve g hf P hPl
  have sW := small_Winners g hf P hPl
  intro h
  refine AC.body Θ_ok Try.func11 rfl rfl (Nat.le_of_ble_eq_true rfl) ?_
  refine AW.seq fun _ k1 => AW.region [] Θ_ok ?_
  simp
  refine k1 _ ?_
  refine AW.seq fun _ k1 => ?_
  by_cases h1 : 0 < heavy15 g P
  · refine AW.seq fun _ k2 => AW.regionAt 3 [] Θ_ok fun B hB => ?_
    simp
    refine sH.use (by simp [G.av]) ?_
    refine hB _ ?_
    clear hB B
    simp [h1]
    refine k2 _ ?_
    refine AW.cond true (by simp [Int.natCast_inj]) (fun _ => ?_) (fun h => by cases h)
    refine AW.seq fun _ kr => AW.region [] Θ_ok ?_
    simp
    refine (l16_awake).use (by simp [G.av]) ?_
    try simp
    refine kr _ (AW.ret ?_)
    simp [Try.f11]
    exact Fin.refl ⟨rfl, rfl⟩
  have h1' := Int.not_lt.1 h1
  by_cases h2 : 40 < g.owner.length
  · have h2' : (40 : Int) < g.owner.length := by omega
    refine AW.seq fun _ k2 => AW.regionAt 3 [] Θ_ok fun B hB => ?_
    simp
    refine sH.use (by simp [G.av]) ?_
    refine hB _ ?_
    clear hB B
    simp [h1, h1', h2, h2']
    refine k2 _ ?_
    refine AW.cond true (by simp [Int.natCast_inj]) (fun _ => ?_) (fun h => by cases h)
    refine AW.seq fun _ kr => AW.region [] Θ_ok ?_
    simp
    refine (l16_awake).use (by simp [G.av]) ?_
    try simp
    refine kr _ (AW.ret ?_)
    simp [Try.f11]
    exact Fin.refl ⟨rfl, rfl⟩
  have h2' : ¬ (40 : Int) < g.owner.length := by omega
  have h2'' : (g.owner.length : Int) ≤ 40 := by omega
  refine AW.seq fun _ k2 => AW.regionAt 3 [] Θ_ok fun B hB => ?_
  simp
  refine sH.use (by simp [G.av]) ?_
  refine hB _ ?_
  clear hB B
  simp [h1, h1', h2, h2', h2'']
  refine k2 _ ?_
  refine AW.cond false (by simp [Int.natCast_inj]) (fun h => by cases h) (fun _ => ?_)
  refine AW.skip ?_
  simp
  refine k1 _ ?_
  by_cases hm : mayP g P = true
  · rw [solA, if_pos hm] at sS
    rw [smW, if_pos hm, ← win_eq hm] at sW
    have ok := mayP_ok hm
    have lW : (winL g P).length = g.owner.length := (zfin_spec ok).2.2.1
    have sE := r9_SameInts (winL g P) (winL g P) (by omega)
    rw [decide_eq_true rfl] at sE
    generalize winL g P = W at *
    refine AW.seq fun _ k1 => AW.regionAt 3 [] Θ_ok fun B hB => ?_
    simp
    refine sS.use (by simp [G.av]) ?_
    refine hB _ ?_
    clear hB B
    simp
    refine k1 _ ?_
    refine AW.seq fun _ kr => AW.regionAt 4 [] Θ_ok fun B hB => ?_
    simp
    refine sW.use (by simp [G.av]) ?_
    refine hB _ ?_
    clear hB B
    refine vcOps_split 1 fun B hB => ?_
    simp
    refine sE.use (by simp) ?_
    refine hB _ ?_
    clear hB B
    refine vcOps_split 16 fun B hB => ?_
    simp [lW]
    refine l16_awake.use (by simp) ?_
    refine hB _ ?_
    clear hB B
    simp
    refine kr _ (AW.ret ?_)
    simp [Try.f11]
    exact Fin.refl ⟨rfl, rfl⟩
  · rw [solA, if_neg hm] at sS
    rw [smW, if_neg hm] at sW
    rw [show mayP g P = false by simpa using hm] at sM
    have sE := r9_SameInts [] [] (by simp)
    rw [decide_eq_true rfl] at sE
    refine AW.seq fun _ k1 => AW.regionAt 3 [] Θ_ok fun B hB => ?_
    simp
    refine sS.use (by simp [G.av]) ?_
    refine hB _ ?_
    clear hB B
    simp
    refine k1 _ ?_
    refine AW.seq fun _ kr => AW.regionAt 4 [] Θ_ok fun B hB => ?_
    simp
    refine sW.use (by simp [G.av]) ?_
    refine hB _ ?_
    clear hB B
    refine vcOps_split 1 fun B hB => ?_
    simp
    refine sE.use (by simp) ?_
    by_cases h0 : g.owner.length = 0
    · have h0' : g.owner = [] := List.eq_nil_of_length_eq_zero h0
      refine hB _ ?_
      clear hB B
      refine vcOps_split 16 fun B hB => ?_
      simp [h0, h0']
      refine l16_awake.use (by simp) ?_
      refine hB _ ?_
      clear hB B
      simp
      refine kr _ (AW.ret ?_)
      simp [Try.f11]
      exact Fin.refl ⟨rfl, rfl⟩
    · have h0' : ¬ g.owner = [] := fun e => h0 (by rw [e]; rfl)
      have h0'' : ¬ (0 : Int) = g.owner.length := by omega
      have h0b : ((0 : Int) == (g.owner.length : Int)) = false := by simp; omega
      refine hB _ ?_
      clear hB B
      refine vcOps_split 11 fun B hB => ?_
      simp [h0, h0', h0'', h0b]
      refine sM.use (by simp [G.av]) ?_
      refine hB _ ?_
      clear hB B
      refine vcOps_split 5 fun B hB => ?_
      simp
      refine l16_awake.use (by simp) ?_
      refine hB _ ?_
      clear hB B
      simp
      refine kr _ (AW.ret ?_)
      simp [Try.f11]
      exact Fin.refl ⟨rfl, rfl⟩
end Go.Par
