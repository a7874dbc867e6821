import Derived.Test.YtkpdhglbkmbojaaGrB
set_option linter.unusedSimpArgs false
set_option maxRecDepth 8000
namespace Go.Par
open Go.Proofs

theorem law_GrForced (g : G) (hg : g.wide) (la : List (List Bool)) (hA : (DK.sl (.sl .bool)).fits la) (lb : List (List Bool)) (hB : (DK.sl (.sl .bool)).fits lb) : Pure Try.prog 9 [g.av, .ro false (bools2 la), .ro false (bools2 lb)] (.bool true) := by
  have hf := hg.f
  have sH := l18_Heavy g hf la lb (G.wide.rows2 hA) (G.wide.rows2 hB)
  have sR := gr1_Region g hf la lb
  have sN := gr1_Rounds g hf la lb
  intro h
  refine AC.body Θ_ok Try.func9 rfl rfl (Nat.le_of_ble_eq_true rfl) ?_
  refine AW.seq fun _ k1 => AW.region [] Θ_ok ?_
  simp
  refine k1 _ ?_
  refine AW.seq fun _ k1 => ?_
  by_cases hall : ¬ 0 < heavy18 g la lb ∧ mayE g = 0 ∧ la.length ≤ 4 ∧ lb.length ≤ 4
  · obtain ⟨h1, hm, h3, h4⟩ := hall
    have hn3 := (may_ok hm).1
    refine AW.seq fun _ k2 => AW.regionAt 4 [] Θ_ok fun B hB => ?_
    simp
    refine sH.use (by simp [G.av]) ?_
    refine hB _ ?_
    clear hB B
    refine vcOps_split 4 fun B hB => ?_
    simp [h1, Int.not_lt.1 h1]
    refine (r9_May g hf).use (by simp [G.av]) ?_
    refine hB _ ?_
    clear hB B
    simp [hm, show ¬ 4 < (la.length : Int) by omega, show ¬ 4 < (lb.length : Int) by omega, show (la.length : Int) ≤ 4 by omega, show (lb.length : Int) ≤ 4 by omega, h3, h4]
    refine k2 _ ?_
    refine AW.cond false (by simp [Int.natCast_inj]) (fun h => by cases h) (fun _ => ?_)
    refine AW.skip ?_
    simp
    refine k1 _ ?_
    obtain ⟨s1, s2, s3, _⟩ := solve_spec hm la lb
    have s4 := solve_forced hm la lb
    have lz := s2.1
    have sF := r9_Force g hf 1 (solveL g la lb).1
    rw [forceA1 g hf hm, s4] at sF
    rw [regionA, if_pos ⟨hm, h3, h4⟩] at sR
    rw [roundsE, if_pos ⟨hm, h3, h4⟩] at sN
    generalize (solveL g la lb).1 = Z at *
    generalize (solveL g la lb).2 = k at *
    have m1 : max 1 lb.length ≤ 4 := by omega
    have b1 : g.owner.length * max 1 lb.length ≤ 3000 * 4 := Nat.mul_le_mul hn3 m1
    have b2 : k ≤ g.owner.length * max 1 lb.length := Nat.le_trans s3 (Nat.le_mul_of_pos_right _ (by omega))
    have w1 : IntKind.i64.wrap ((Z.length : Int) * ((max 1 lb.length : Nat) : Int)) = ((g.owner.length * max 1 lb.length : Nat) : Int) := by rw [lz, ← Int.natCast_mul]; exact wrap_nat (by omega)
    obtain ⟨L, hL⟩ : ∃ L, L = g.owner.length * max 1 lb.length := ⟨_, rfl⟩
    rw [← hL] at w1 b2
    have c1 : (k : Int) ≤ (L : Int) := by omega
    have w2 : IntKind.i64.wrap ((g.owner.length : Int) * ((max 1 lb.length : Nat) : Int)) = (L : Int) := by rw [← lz]; exact w1
    refine AW.seq fun _ k1 => AW.region [] Θ_ok ?_
    simp
    refine sR.use (by simp [G.av]) ?_
    refine k1 _ ?_
    refine AW.seq fun _ k1 => ?_
    refine AW.seq fun _ k2 => AW.region [] Θ_ok ?_
    simp [lz]
    refine k2 _ ?_
    refine AW.cond false (by simp [Int.natCast_inj]) (fun h => by cases h) (fun _ => ?_)
    refine AW.skip ?_
    simp
    refine k1 _ ?_
    refine AW.seq fun _ kr => AW.regionAt 3 [] Θ_ok fun B hB => ?_
    simp
    refine sF.use (by simp [G.av]) ?_
    refine hB _ ?_
    clear hB B
    refine vcOps_split 2 fun B hB => ?_
    simp
    refine (r9_SameRow Z Z (by omega)).use (by simp) ?_
    refine hB _ ?_
    clear hB B
    refine vcOps_split 5 fun B hB => ?_
    simp
    refine sN.use (by simp [G.av]) ?_
    refine hB _ ?_
    clear hB B
    refine vcOps_split 10 fun B hB => ?_
    simp [imax1, imax1', w1, w2, c1, b2]
    refine l18_awake.use (by simp) ?_
    refine hB _ ?_
    clear hB B
    simp
    refine kr _ (AW.ret ?_)
    simp [Try.f9]
    exact Fin.refl ⟨rfl, rfl⟩
  · have hb : 0 < heavy18 g la lb ∨ ¬ 0 < heavy18 g la lb ∧ ¬ mayE g = 0 ∨ ¬ 0 < heavy18 g la lb ∧ mayE g = 0 ∧ 4 < (la.length : Int) ∨ ¬ 0 < heavy18 g la lb ∧ mayE g = 0 ∧ ¬ 4 < (la.length : Int) ∧ 4 < (lb.length : Int) := by
      by_cases a1 : 0 < heavy18 g la lb
      · exact .inl a1
      · by_cases a2 : mayE g = 0
        · by_cases a3 : 4 < (la.length : Int)
          · exact .inr (.inr (.inl ⟨a1, a2, a3⟩))
          · exact .inr (.inr (.inr ⟨a1, a2, a3, by
              by_cases a4 : 4 < (lb.length : Int)
              · exact a4
              · exact absurd ⟨a1, a2, by omega, by omega⟩ hall⟩))
        · exact .inr (.inl ⟨a1, a2⟩)
    rcases hb with h1 | ⟨h1, h2⟩ | ⟨h1, h2, h3⟩ | ⟨h1, h2, h3, h4⟩
    · refine AW.seq fun _ k2 => AW.regionAt 4 [] Θ_ok fun B hB => ?_
      simp
      refine sH.use (by simp [G.av]) ?_
      refine hB _ ?_
      clear hB B
      simp [h1]
      refine k2 _ ?_
      refine AW.cond true (by simp [Int.natCast_inj]) (fun _ => ?_) (fun h => by cases h)
      refine AW.seq fun _ kr => AW.region [] Θ_ok ?_
      simp
      refine (l18_awake).use (by simp [G.av]) ?_
      try simp
      refine kr _ (AW.ret ?_)
      simp [Try.f9]
      exact Fin.refl ⟨rfl, rfl⟩
    · refine AW.seq fun _ k2 => AW.regionAt 4 [] Θ_ok fun B hB => ?_
      simp
      refine sH.use (by simp [G.av]) ?_
      refine hB _ ?_
      clear hB B
      refine vcOps_split 4 fun B hB => ?_
      simp [h1, Int.not_lt.1 h1]
      refine (r9_May g hf).use (by simp [G.av]) ?_
      refine hB _ ?_
      clear hB B
      simp [h2]
      refine k2 _ ?_
      refine AW.cond true (by simp [Int.natCast_inj]) (fun _ => ?_) (fun h => by cases h)
      refine AW.seq fun _ kr => AW.region [] Θ_ok ?_
      simp
      refine (l18_awake).use (by simp [G.av]) ?_
      try simp
      refine kr _ (AW.ret ?_)
      simp [Try.f9]
      exact Fin.refl ⟨rfl, rfl⟩
    · refine AW.seq fun _ k2 => AW.regionAt 4 [] Θ_ok fun B hB => ?_
      simp
      refine sH.use (by simp [G.av]) ?_
      refine hB _ ?_
      clear hB B
      refine vcOps_split 4 fun B hB => ?_
      simp [h1, Int.not_lt.1 h1]
      refine (r9_May g hf).use (by simp [G.av]) ?_
      refine hB _ ?_
      clear hB B
      simp [h2, h3]
      refine k2 _ ?_
      refine AW.cond true (by simp [Int.natCast_inj]) (fun _ => ?_) (fun h => by cases h)
      refine AW.seq fun _ kr => AW.region [] Θ_ok ?_
      simp
      refine (l18_awake).use (by simp [G.av]) ?_
      try simp
      refine kr _ (AW.ret ?_)
      simp [Try.f9]
      exact Fin.refl ⟨rfl, rfl⟩
    · refine AW.seq fun _ k2 => AW.regionAt 4 [] Θ_ok fun B hB => ?_
      simp
      refine sH.use (by simp [G.av]) ?_
      refine hB _ ?_
      clear hB B
      refine vcOps_split 4 fun B hB => ?_
      simp [h1, Int.not_lt.1 h1]
      refine (r9_May g hf).use (by simp [G.av]) ?_
      refine hB _ ?_
      clear hB B
      simp [h2, h3, Int.not_lt.1 h3, h4]
      refine k2 _ ?_
      refine AW.cond true (by simp [Int.natCast_inj]) (fun _ => ?_) (fun h => by cases h)
      refine AW.seq fun _ kr => AW.region [] Θ_ok ?_
      simp
      refine (l18_awake).use (by simp [G.av]) ?_
      try simp
      refine kr _ (AW.ret ?_)
      simp [Try.f9]
      exact Fin.refl ⟨rfl, rfl⟩
end Go.Par
