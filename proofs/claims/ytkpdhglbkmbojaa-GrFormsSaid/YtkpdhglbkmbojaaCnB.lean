import Derived.Test.YtkpdhglbkmbojaaCnA
set_option linter.unusedSimpArgs false
set_option maxRecDepth 8000
namespace Go.Par
open Go.Proofs

theorem counter_on (A E : List (List Bool)) (hA : A.length ≤ 4) (hE : E.length ≤ 4) (v mem : Nat) (hm : mem < max 1 A.length * max 1 E.length) :
    Pure Try.prog 32 [.ro false (bools2 A), .ro false (bools2 E), .int .i64 v, .int .i64 mem] (.tup [.int .i64 (onThen A E v mem : Nat), .int .i64 (onPrio A E v mem : Nat)]) := by
  have hi : mem / max 1 E.length < max 1 A.length := Nat.div_lt_of_lt_mul (by rw [Nat.mul_comm]; exact hm)
  have hj : mem % max 1 E.length < max 1 E.length := Nat.mod_lt _ (by omega)
  have hq : max 1 A.length * max 1 E.length ≤ 4 * 4 := Nat.mul_le_mul (by omega) (by omega)
  have hT := onThen_lt A E v mem hm
  have eI : onI A E v mem = if metB A (mem / max 1 E.length) v then (mem / max 1 E.length + 1) % max 1 A.length else mem / max 1 E.length := rfl
  have eJ : onJ E v mem = if metB E (mem % max 1 E.length) v then (mem % max 1 E.length + 1) % max 1 E.length else mem % max 1 E.length := rfl
  have eT : onThen A E v mem = onI A E v mem * max 1 E.length + onJ E v mem := rfl
  have eP : onPrio A E v mem = if metB E (mem % max 1 E.length) v && mem % max 1 E.length == max 1 E.length - 1 then 2 else if metB A (mem / max 1 E.length) v && mem / max 1 E.length == max 1 A.length - 1 then 1 else 0 := rfl
  have sI := counter_met A (mem / max 1 E.length) v (fun h => by have := List.length_pos_iff.2 h; omega)
  have sJ := counter_met E (mem % max 1 E.length) v (fun h => by have := List.length_pos_iff.2 h; omega)
  have hn0 : ¬ max 1 E.length = 0 := by omega
  generalize metB A (mem / max 1 E.length) v = bI at *
  generalize metB E (mem % max 1 E.length) v = bJ at *
  have lA : max 1 A.length ≤ 4 := by omega
  have lE : max 1 E.length ≤ 4 := by omega
  have hM0 : 0 < max 1 A.length := by omega
  intro h
  refine AC.body Θ_ok Try.func32 rfl rfl (Nat.le_of_ble_eq_true rfl) ?_
  refine AW.seq fun _ k1 => AW.region [] Θ_ok ?_
  simp
  refine k1 _ ?_
  refine AW.seq fun _ k1 => AW.region [] Θ_ok ?_
  simp [imax1, imax1']
  refine k1 _ ?_
  generalize max 1 A.length = M at *
  generalize max 1 E.length = N at *
  have d1 : (mem : Int) / (N : Int) = ((mem / N : Nat) : Int) := (Int.natCast_ediv _ _).symm
  have d2 : (mem : Int) % (N : Int) = ((mem % N : Nat) : Int) := (Int.natCast_emod _ _).symm
  have d3 : (mem : Int).tmod (N : Int) = ((mem % N : Nat) : Int) := by rw [Int.tmod_eq_emod_of_nonneg (by omega)]; exact d2
  have d4 : (mem : Int).tdiv (N : Int) = ((mem / N : Nat) : Int) := by rw [Int.tdiv_eq_ediv_of_nonneg (by omega)]; exact d1
  generalize mem / N = i at *
  generalize mem % N = j at *
  have w1 := wrap_nat (show i < 9223372036854775808 by omega)
  refine AW.seq fun _ k1 => AW.draw [] 9 [] Θ_ok mixed (by kernel_rfl) (by kernel_rfl) ?_
  simp [vcDraw, vcPre, vcTail, callA, isAlloc, isLoad, effOp, obl, obA, mkOK, valA, hn0, d1, d2, d3, d4, w1]
  refine k1 _ ?_
  have wi : IntKind.i64.wrap ((i : Int) + 1) = (i : Int) + 1 := wrap_id (by omega) (by omega)
  have wj : IntKind.i64.wrap ((j : Int) + 1) = (j : Int) + 1 := wrap_id (by omega) (by omega)
  have wM := wrap_id (show -9223372036854775808 ≤ (M : Int) - 1 by omega) (by omega)
  have wN := wrap_id (show -9223372036854775808 ≤ (N : Int) - 1 by omega) (by omega)
  obtain ⟨i', hi'⟩ : ∃ i', i' = (i + 1) % M := ⟨_, rfl⟩
  obtain ⟨j', hj'⟩ : ∃ j', j' = (j + 1) % N := ⟨_, rfl⟩
  have mi : ((i : Int) + 1) % (M : Int) = (i' : Int) := by rw [hi']; simp
  have mj : ((j : Int) + 1) % (N : Int) = (j' : Int) := by rw [hj']; simp
  have mi2 : ((i : Int) + 1).tmod (M : Int) = (i' : Int) := by rw [Int.tmod_eq_emod_of_nonneg (by omega)]; exact mi
  have mj2 : ((j : Int) + 1).tmod (N : Int) = (j' : Int) := by rw [Int.tmod_eq_emod_of_nonneg (by omega)]; exact mj
  have hM0' : ¬ M = 0 := by omega
  rw [← hi'] at eI
  rw [← hj'] at eJ
  clear hi' hj' d1 d2 d3 d4
  generalize onI A E v mem = I at *
  generalize onJ E v mem = J at *
  generalize onThen A E v mem = T at *
  generalize onPrio A E v mem = Pr at *
  have wT := wrap_nat (show T < 9223372036854775808 by omega)
  have hIN : I * N ≤ T := by omega
  have wIN := wrap_nat (show I * N < 9223372036854775808 by omega)
  rw [Int.natCast_mul] at wIN
  have wT2 : IntKind.i64.wrap ((I : Int) * N + J) = T := by rw [eT] at wT ⊢; simpa using wT
  have xi : (i : Int) = (M : Int) - 1 ↔ i = M - 1 := by omega
  have xj : (j : Int) = (N : Int) - 1 ↔ j = N - 1 := by omega
  refine AW.seq fun _ k1 => ?_
  refine AW.seq fun _ k2 => AW.region [] Θ_ok ?_
  simp
  refine sI.use (by simp) ?_
  refine k2 _ ?_
  cases bI
  · have eI' : I = i := by rw [eI]; rfl
    subst eI'
    refine AW.cond false (by simp [Int.natCast_inj]) (fun h => by cases h) (fun _ => ?_)
    refine AW.skip ?_
    simp
    refine k1 _ ?_
    refine AW.seq fun _ k8 => ?_
    refine AW.seq fun _ k9 => AW.region [] Θ_ok ?_
    simp
    refine sJ.use (by simp) ?_
    refine k9 _ ?_
    cases bJ
    · have eJ' : J = j := by rw [eJ]; rfl
      have eP' : Pr = 0 := by rw [eP]; simp 
      subst eJ'
      refine AW.cond false (by simp [Int.natCast_inj]) (fun h => by cases h) (fun _ => ?_)
      refine AW.skip ?_
      simp
      refine k8 _ ?_
      refine AW.seq fun _ kr => AW.region [] Θ_ok ?_
      simp [wIN, wT2]
      refine kr _ (AW.ret ?_)
      simp [Try.f32]
      exact Fin.refl ⟨by rw [eP']; rfl, rfl⟩
    · have eJ' : J = j' := by rw [eJ]; rfl
      subst eJ'
      refine AW.cond true (by simp [Int.natCast_inj]) (fun _ => ?_) (fun h => by cases h)
      by_cases hjN : j = N - 1
      · have hjI : (j : Int) = (N : Int) - 1 := by omega
        have eP' : Pr = 2 := by rw [eP]; simp [hjN]
        refine AW.seq fun _ k10 => ?_
        refine AW.seq fun _ k11 => AW.region [] Θ_ok ?_
        simp [wN]
        refine k11 _ ?_
        refine AW.cond true (by simp [Int.natCast_inj, hjI]) (fun _ => ?_) (fun h => by cases h)
        refine AW.region [] Θ_ok ?_
        simp
        refine k10 _ ?_
        refine AW.region [] Θ_ok ?_
        simp [wj, mj, mj2, hn0]
        refine k8 _ ?_
        refine AW.seq fun _ kr => AW.region [] Θ_ok ?_
        simp [wIN, wT2]
        refine kr _ (AW.ret ?_)
        simp [Try.f32]
        exact Fin.refl ⟨by rw [eP']; rfl, rfl⟩
      · have hjI : ¬ (j : Int) = (N : Int) - 1 := by omega
        have eP' : Pr = 0 := by rw [eP]; simp [hjN]
        refine AW.seq fun _ k10 => ?_
        refine AW.seq fun _ k11 => AW.region [] Θ_ok ?_
        simp [wN]
        refine k11 _ ?_
        refine AW.cond false (by simp [Int.natCast_inj, hjI]) (fun h => by cases h) (fun _ => ?_)
        refine AW.skip ?_
        simp
        refine k10 _ ?_
        refine AW.region [] Θ_ok ?_
        simp [wj, mj, mj2, hn0]
        refine k8 _ ?_
        refine AW.seq fun _ kr => AW.region [] Θ_ok ?_
        simp [wIN, wT2]
        refine kr _ (AW.ret ?_)
        simp [Try.f32]
        exact Fin.refl ⟨by rw [eP']; rfl, rfl⟩
  · have eI' : I = i' := by rw [eI]; rfl
    subst eI'
    refine AW.cond true (by simp [Int.natCast_inj]) (fun _ => ?_) (fun h => by cases h)
    by_cases hiM : i = M - 1
    · have hiI : (i : Int) = (M : Int) - 1 := by omega
      refine AW.seq fun _ k3 => ?_
      refine AW.seq fun _ k4 => AW.region [] Θ_ok ?_
      simp [wM]
      refine k4 _ ?_
      refine AW.cond true (by simp [Int.natCast_inj, hiI]) (fun _ => ?_) (fun h => by cases h)
      refine AW.region [] Θ_ok ?_
      simp
      refine k3 _ ?_
      refine AW.region [] Θ_ok ?_
      simp [wi, mi, mi2, hM0']
      refine k1 _ ?_
      refine AW.seq fun _ k8 => ?_
      refine AW.seq fun _ k9 => AW.region [] Θ_ok ?_
      simp
      refine sJ.use (by simp) ?_
      refine k9 _ ?_
      cases bJ
      · have eJ' : J = j := by rw [eJ]; rfl
        have eP' : Pr = 1 := by rw [eP]; simp [hiM]
        subst eJ'
        refine AW.cond false (by simp [Int.natCast_inj]) (fun h => by cases h) (fun _ => ?_)
        refine AW.skip ?_
        simp
        refine k8 _ ?_
        refine AW.seq fun _ kr => AW.region [] Θ_ok ?_
        simp [wIN, wT2]
        refine kr _ (AW.ret ?_)
        simp [Try.f32]
        exact Fin.refl ⟨by rw [eP']; rfl, rfl⟩
      · have eJ' : J = j' := by rw [eJ]; rfl
        subst eJ'
        refine AW.cond true (by simp [Int.natCast_inj]) (fun _ => ?_) (fun h => by cases h)
        by_cases hjN : j = N - 1
        · have hjI : (j : Int) = (N : Int) - 1 := by omega
          have eP' : Pr = 2 := by rw [eP]; simp [hjN]
          refine AW.seq fun _ k10 => ?_
          refine AW.seq fun _ k11 => AW.region [] Θ_ok ?_
          simp [wN]
          refine k11 _ ?_
          refine AW.cond true (by simp [Int.natCast_inj, hjI]) (fun _ => ?_) (fun h => by cases h)
          refine AW.region [] Θ_ok ?_
          simp
          refine k10 _ ?_
          refine AW.region [] Θ_ok ?_
          simp [wj, mj, mj2, hn0]
          refine k8 _ ?_
          refine AW.seq fun _ kr => AW.region [] Θ_ok ?_
          simp [wIN, wT2]
          refine kr _ (AW.ret ?_)
          simp [Try.f32]
          exact Fin.refl ⟨by rw [eP']; rfl, rfl⟩
        · have hjI : ¬ (j : Int) = (N : Int) - 1 := by omega
          have eP' : Pr = 1 := by rw [eP]; simp [hiM, hjN]
          refine AW.seq fun _ k10 => ?_
          refine AW.seq fun _ k11 => AW.region [] Θ_ok ?_
          simp [wN]
          refine k11 _ ?_
          refine AW.cond false (by simp [Int.natCast_inj, hjI]) (fun h => by cases h) (fun _ => ?_)
          refine AW.skip ?_
          simp
          refine k10 _ ?_
          refine AW.region [] Θ_ok ?_
          simp [wj, mj, mj2, hn0]
          refine k8 _ ?_
          refine AW.seq fun _ kr => AW.region [] Θ_ok ?_
          simp [wIN, wT2]
          refine kr _ (AW.ret ?_)
          simp [Try.f32]
          exact Fin.refl ⟨by rw [eP']; rfl, rfl⟩
    · have hiI : ¬ (i : Int) = (M : Int) - 1 := by omega
      refine AW.seq fun _ k3 => ?_
      refine AW.seq fun _ k4 => AW.region [] Θ_ok ?_
      simp [wM]
      refine k4 _ ?_
      refine AW.cond false (by simp [Int.natCast_inj, hiI]) (fun h => by cases h) (fun _ => ?_)
      refine AW.skip ?_
      simp
      refine k3 _ ?_
      refine AW.region [] Θ_ok ?_
      simp [wi, mi, mi2, hM0']
      refine k1 _ ?_
      refine AW.seq fun _ k8 => ?_
      refine AW.seq fun _ k9 => AW.region [] Θ_ok ?_
      simp
      refine sJ.use (by simp) ?_
      refine k9 _ ?_
      cases bJ
      · have eJ' : J = j := by rw [eJ]; rfl
        have eP' : Pr = 0 := by rw [eP]; simp [hiM]
        subst eJ'
        refine AW.cond false (by simp [Int.natCast_inj]) (fun h => by cases h) (fun _ => ?_)
        refine AW.skip ?_
        simp
        refine k8 _ ?_
        refine AW.seq fun _ kr => AW.region [] Θ_ok ?_
        simp [wIN, wT2]
        refine kr _ (AW.ret ?_)
        simp [Try.f32]
        exact Fin.refl ⟨by rw [eP']; rfl, rfl⟩
      · have eJ' : J = j' := by rw [eJ]; rfl
        subst eJ'
        refine AW.cond true (by simp [Int.natCast_inj]) (fun _ => ?_) (fun h => by cases h)
        by_cases hjN : j = N - 1
        · have hjI : (j : Int) = (N : Int) - 1 := by omega
          have eP' : Pr = 2 := by rw [eP]; simp [hjN]
          refine AW.seq fun _ k10 => ?_
          refine AW.seq fun _ k11 => AW.region [] Θ_ok ?_
          simp [wN]
          refine k11 _ ?_
          refine AW.cond true (by simp [Int.natCast_inj, hjI]) (fun _ => ?_) (fun h => by cases h)
          refine AW.region [] Θ_ok ?_
          simp
          refine k10 _ ?_
          refine AW.region [] Θ_ok ?_
          simp [wj, mj, mj2, hn0]
          refine k8 _ ?_
          refine AW.seq fun _ kr => AW.region [] Θ_ok ?_
          simp [wIN, wT2]
          refine kr _ (AW.ret ?_)
          simp [Try.f32]
          exact Fin.refl ⟨by rw [eP']; rfl, rfl⟩
        · have hjI : ¬ (j : Int) = (N : Int) - 1 := by omega
          have eP' : Pr = 0 := by rw [eP]; simp [hiM, hjN]
          refine AW.seq fun _ k10 => ?_
          refine AW.seq fun _ k11 => AW.region [] Θ_ok ?_
          simp [wN]
          refine k11 _ ?_
          refine AW.cond false (by simp [Int.natCast_inj, hjI]) (fun h => by cases h) (fun _ => ?_)
          refine AW.skip ?_
          simp
          refine k10 _ ?_
          refine AW.region [] Θ_ok ?_
          simp [wj, mj, mj2, hn0]
          refine k8 _ ?_
          refine AW.seq fun _ kr => AW.region [] Θ_ok ?_
          simp [wIN, wT2]
          refine kr _ (AW.ret ?_)
          simp [Try.f32]
          exact Fin.refl ⟨by rw [eP']; rfl, rfl⟩
end Go.Par
