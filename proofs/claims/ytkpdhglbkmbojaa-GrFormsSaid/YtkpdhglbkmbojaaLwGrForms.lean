import Derived.Test.YtkpdhglbkmbojaaGrD
set_option linter.unusedSimpArgs false
set_option maxRecDepth 8000
namespace Go.Par
open Go.Proofs

theorem law_GrForms (g : G) (hg : g.wide) (la : List (List Bool)) (hA : (DK.sl (.sl .bool)).fits la) (lb : List (List Bool)) (hB : (DK.sl (.sl .bool)).fits lb) : Pure Try.prog 8 [g.av, .ro false (bools2 la), .ro false (bools2 lb)] (.bool true) := by
  have hf := hg.f
  have sH := l18_Heavy g hf la lb (G.wide.rows2 hA) (G.wide.rows2 hB)
  have sR := gr1_Region g hf la lb
  have sN := gr1_Rounds g hf la lb
  have sG := r9_GR1 g hf la lb
  intro h
  refine AC.body Θ_ok Try.func8 rfl rfl (Nat.le_of_ble_eq_true rfl) ?_
  refine AW.seq fun _ k1 => AW.region [] Θ_ok ?_
  simp
  refine k1 _ ?_
  refine AW.seq fun _ k1 => ?_
  by_cases h1 : 0 < heavy18 g la lb
  · refine AW.seq fun _ k2 => AW.regionAt 4 [] Θ_ok fun B hB => ?_
    simp
    refine sH.use (by simp [G.av]) ?_
    refine hB _ ?_
    clear hB B
    simp [h1]
    refine k2 _ ?_
    refine AW.cond true (by simp [Int.natCast_inj]) (fun _ => ?_) (fun h => by cases h)
    refine AW.seq fun _ kr => AW.region [] Θ_ok ?_
    simp
    refine (l18_awake).use (by simp [G.av]) ?_
    try simp
    refine kr _ (AW.ret ?_)
    simp [Try.f8]
    exact Fin.refl ⟨rfl, rfl⟩
  · refine AW.seq fun _ k2 => AW.regionAt 4 [] Θ_ok fun B hB => ?_
    simp
    refine sH.use (by simp [G.av]) ?_
    refine hB _ ?_
    clear hB B
    simp [h1, Int.not_lt.1 h1]
    refine k2 _ ?_
    refine AW.cond false (by simp [Int.natCast_inj]) (fun h => by cases h) (fun _ => ?_)
    refine AW.skip ?_
    simp
    refine k1 _ ?_
    by_cases hall : mayE g = 0 ∧ la.length ≤ 4 ∧ lb.length ≤ 4
    · have hm := hall.1
      have hn3 := (may_ok hm).1
      obtain ⟨s1, s2, s3, _⟩ := solve_spec hm la lb
      have lz := s2.1
      rw [regionA, if_pos hall] at sR
      rw [roundsE, if_pos hall] at sN
      rw [gr1A, if_pos hall] at sG
      generalize (solveL g la lb).1 = Z at *
      generalize (solveL g la lb).2 = k at *
      refine AW.seq fun _ k2 => AW.regionAt 4 [] Θ_ok fun B hB => ?_
      simp
      refine sG.use (by simp [G.av]) ?_
      refine hB _ ?_
      clear hB B
      simp
      refine k2 _ ?_
      refine AW.seq fun _ kr => AW.regionAt 4 [] Θ_ok fun B hB => ?_
      simp
      refine sR.use (by simp [G.av]) ?_
      refine hB _ ?_
      clear hB B
      refine vcOps_split 2 fun B hB => ?_
      simp
      refine (r9_SameRow Z Z (by omega)).use (by simp) ?_
      refine hB _ ?_
      clear hB B
      refine vcOps_split 5 fun B hB => ?_
      simp
      refine sN.use (by simp [G.av]) ?_
      refine hB _ ?_
      clear hB B
      refine vcOps_split 5 fun B hB => ?_
      simp
      refine l18_awake.use (by simp) ?_
      refine hB _ ?_
      clear hB B
      simp
      refine kr _ (AW.ret ?_)
      simp [Try.f8]
      exact Fin.refl ⟨rfl, rfl⟩
    · rw [regionA, if_neg hall] at sR
      rw [roundsE, if_neg hall] at sN
      rw [gr1A, if_neg hall] at sG
      refine AW.seq fun _ k2 => AW.regionAt 4 [] Θ_ok fun B hB => ?_
      simp
      refine sG.use (by simp [G.av]) ?_
      refine hB _ ?_
      clear hB B
      simp
      refine k2 _ ?_
      refine AW.seq fun _ kr => AW.regionAt 4 [] Θ_ok fun B hB => ?_
      simp
      refine sR.use (by simp [G.av]) ?_
      refine hB _ ?_
      clear hB B
      refine vcOps_split 2 fun B hB => ?_
      simp
      refine (r9_SameRow [] [] (by simp)).use (by simp [bools]) ?_
      refine hB _ ?_
      clear hB B
      refine vcOps_split 5 fun B hB => ?_
      simp
      refine sN.use (by simp [G.av]) ?_
      refine hB _ ?_
      clear hB B
      refine vcOps_split 5 fun B hB => ?_
      simp
      refine l18_awake.use (by simp) ?_
      refine hB _ ?_
      clear hB B
      simp
      refine kr _ (AW.ret ?_)
      simp [Try.f8]
      exact Fin.refl ⟨rfl, rfl⟩
end Go.Par
