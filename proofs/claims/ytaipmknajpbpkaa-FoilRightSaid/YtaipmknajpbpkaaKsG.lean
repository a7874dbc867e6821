/- parryref9: Fair, Unfair. -/
import Derived.Test.YtaipmknajpbpkaaKsF
set_option linter.unusedSimpArgs false
set_option linter.unusedVariables false
set_option maxRecDepth 8000
set_option maxHeartbeats 4000000
namespace Go.Par
open Go.Proofs

noncomputable def metA (next : List (List Int)) (from_ : List Bool) (A E : List (List Bool)) (y : Nat) : Bool := (E.take y).any fun r => meetsB next from_ (wiL next r) A
theorem metA_zero (next : List (List Int)) (from_ : List Bool) (A E : List (List Bool)) : metA next from_ A E 0 = false := rfl
theorem metA_step (next : List (List Int)) (from_ : List Bool) (A E : List (List Bool)) {y : Nat} (hy : y < E.length) : metA next from_ A E (y + 1) = (metA next from_ A E y || meetsB next from_ (wiL next E[y]) A) := by
  simp only [metA]; rw [List.take_succ_eq_append_getElem hy, List.any_append]; simp
theorem metA_mono {next : List (List Int)} {from_ : List Bool} {A E : List (List Bool)} {y : Nat} (hy : y < E.length) (h : meetsB next from_ (wiL next E[y]) A = true) : metA next from_ A E E.length = true := by
  simp only [metA, List.take_length, List.any_eq_true]
  exact ⟨_, List.getElem_mem hy, h⟩
noncomputable def fairB (next : List (List Int)) (from_ : List Bool) (A E : List (List Bool)) : Bool := !metA next from_ A E E.length
noncomputable def unfairB (next : List (List Int)) (from_ : List Bool) (A E : List (List Bool)) : Bool := !meetsB next from_ (fullL next) E && !metA next from_ [] A A.length

theorem r9_Fair (next : List (List Int)) (ok : BigOk next) (from_ : List Bool) (A E : List (List Bool)) (hA : A.length ≤ 17592186044416) (hE : E.length ≤ 17592186044416) : Pure Try.prog 19 [.ro false (rows next), .ro false (bools from_), .ro false (bools2 A), .ro false (bools2 E)] (.bool (fairB next from_ A E)) := by
  have sM := r9_mayNext next ok
  intro h
  refine AC.body Θ_ok Try.func19 rfl rfl (Nat.le_of_ble_eq_true rfl) ?_
  refine AW.seq fun _ k1 => AW.region [] Θ_ok ?_
  simp
  refine k1 _ ?_
  refine AW.seq fun _ k1 => ?_
  refine AW.seq fun _ k2 => AW.region [] Θ_ok ?_
  simp
  refine sM.use (by simp) ?_
  refine k2 _ ?_
  refine AW.cond false (by simp [Int.natCast_inj]) (fun h => by cases h) (fun _ => ?_)
  refine AW.skip ?_
  simp
  refine k1 _ ?_
  refine AW.seq fun _ k1 => ?_
  refine AW.seq fun _ k2 => AW.region [] Θ_ok ?_
  simp
  refine k2 _ ?_
  refine AW.block ?_
  refine AW.loopI (X := Nat) (fun x => x ≤ E.length ∧ metA next from_ A E x = false) (fun x => ⟨28, [(0, .ro false (rows next)), (1, .ro false (bools from_)), (2, .ro false (bools2 A)), (14, .ro false (bools2 E)), (15, .int .i64 E.length), (16, .int .i64 x)], h⟩) (fun x => E.length - x) 0 ⟨Nat.zero_le _, metA_zero _ _ _ _⟩ (GStep.eq (by simp) (subH.refl _)) fun x hx => ?_
  obtain ⟨hx, hno⟩ := hx
  refine AW.seq fun _ k2 => AW.region [] Θ_ok ?_
  simp
  refine k2 _ ?_
  by_cases hlt : x < E.length
  · have inc := wrap_succ (show x < 9223372036854775807 by omega)
    have st := metA_step next from_ A E hlt
    have sW := r9_without next ok E[x]
    have sT := r9_meets next ok from_ (wiL next E[x]) A hA
    have mono := metA_mono (next := next) (from_ := from_) (A := A) hlt
    rw [hno, Bool.false_or] at st
    generalize meetsB next from_ (wiL next E[x]) A = b at st sT mono
    generalize wiL next E[x] = WL at sW sT
    refine AW.seq fun _ k2 => AW.cond true (by simp [Int.natCast_inj, hlt]) (fun _ => ?_) (fun h => by cases h)
    refine AW.skip ?_
    simp
    refine k2 _ ?_
    refine AW.seq fun _ k2 => ?_
    refine AW.block ?_
    refine AW.seq fun _ k3 => AW.region [] Θ_ok ?_
    simp [hlt]
    refine k3 _ ?_
    refine AW.seq fun _ k3 => AW.regionAt 5 [] Θ_ok fun B hB => ?_
    simp
    refine sW.use (by simp) ?_
    refine hB _ ?_
    clear hB B
    refine vcOps_split 2 fun B hB => ?_
    simp
    refine sT.use (by simp) ?_
    refine hB _ ?_
    clear hB B
    simp
    refine k3 _ ?_
    cases b with
    | true =>
      refine AW.cond true (by simp [Int.natCast_inj]) (fun _ => ?_) (fun h => by cases h)
      refine AW.seq fun _ kr => AW.region [] Θ_ok ?_
      simp
      refine kr _ (AW.ret ?_)
      simp [Try.f19]
      exact Fin.refl ⟨by simp [fairB, mono rfl], rfl⟩
    | false =>
      refine AW.cond false (by simp [Int.natCast_inj]) (fun h => by cases h) (fun _ => ?_)
      refine AW.skip ?_
      simp
      refine k2 _ ?_
      refine AW.region [] Θ_ok ?_
      simp
      exact ⟨x + 1, ⟨hlt, st⟩, by omega, GStep.eq (by simp [inc]) (subH.refl _)⟩
  · obtain rfl : x = E.length := by omega
    refine AW.seq fun _ k2 => AW.cond false (by simp [Int.natCast_inj]) (fun h => by cases h) (fun _ => ?_)
    refine AW.exit ?_
    simp
    refine k1 _ ?_
    refine AW.seq fun _ kr => AW.region [] Θ_ok ?_
    simp
    refine kr _ (AW.ret ?_)
    simp [Try.f19]
    exact Fin.refl ⟨by simp [fairB, hno], rfl⟩

theorem r9_Unfair (next : List (List Int)) (ok : BigOk next) (from_ : List Bool) (A E : List (List Bool)) (hA : A.length ≤ 17592186044416) (hE : E.length ≤ 17592186044416) : Pure Try.prog 32 [.ro false (rows next), .ro false (bools from_), .ro false (bools2 A), .ro false (bools2 E)] (.bool (unfairB next from_ A E)) := by
  have sM := r9_mayNext next ok
  have sF := r9_full next ok
  have sE := r9_meets next ok from_ (fullL next) E hE
  obtain ⟨FL, hFL⟩ : ∃ FL, FL = fullL next := ⟨_, rfl⟩
  rw [← hFL] at sF sE
  intro h
  refine AC.body Θ_ok Try.func32 rfl rfl (Nat.le_of_ble_eq_true rfl) ?_
  refine AW.seq fun _ k1 => AW.region [] Θ_ok ?_
  simp
  refine k1 _ ?_
  refine AW.seq fun _ k1 => ?_
  refine AW.seq fun _ k2 => AW.regionAt 2 [] Θ_ok fun B hB => ?_
  simp
  refine sM.use (by simp) ?_
  refine hB _ ?_
  clear hB B
  refine vcOps_split 6 fun B hB => ?_
  simp
  refine sF.use (by simp) ?_
  refine hB _ ?_
  clear hB B
  refine vcOps_split 2 fun B hB => ?_
  simp
  refine sE.use (by simp) ?_
  refine hB _ ?_
  clear hB B
  simp
  refine k2 _ ?_
  cases hb0 : meetsB next from_ FL E with
  | true =>
    refine AW.cond true (by simp [Int.natCast_inj, hb0]) (fun _ => ?_) (fun h => by cases h)
    refine AW.seq fun _ kr => AW.region [] Θ_ok ?_
    simp
    refine kr _ (AW.ret ?_)
    simp [Try.f32]
    exact Fin.refl ⟨by simp [unfairB, ← hFL, hb0], rfl⟩
  | false =>
  refine AW.cond false (by simp [Int.natCast_inj, hb0]) (fun h => by cases h) (fun _ => ?_)
  refine AW.skip ?_
  simp
  refine k1 _ ?_
  refine AW.seq fun _ k1 => ?_
  refine AW.seq fun _ k2 => AW.region [] Θ_ok ?_
  simp
  refine k2 _ ?_
  refine AW.block ?_
  refine AW.loopI (X := Nat) (fun x => x ≤ A.length ∧ metA next from_ [] A x = false) (fun x => ⟨35, [(0, .ro false (rows next)), (1, .ro false (bools from_)), (22, .ro false (bools2 A)), (23, .int .i64 A.length), (24, .int .i64 x)], h⟩) (fun x => A.length - x) 0 ⟨Nat.zero_le _, metA_zero _ _ _ _⟩ (GStep.eq (by simp) (subH.refl _)) fun x hx => ?_
  obtain ⟨hx, hno⟩ := hx
  refine AW.seq fun _ k2 => AW.region [] Θ_ok ?_
  simp
  refine k2 _ ?_
  by_cases hlt : x < A.length
  · have inc := wrap_succ (show x < 9223372036854775807 by omega)
    have st := metA_step next from_ [] A hlt
    have sW := r9_without next ok A[x]
    have sT := r9_meets next ok from_ (wiL next A[x]) [] (by simp)
    have mono := metA_mono (next := next) (from_ := from_) (A := []) hlt
    rw [hno, Bool.false_or] at st
    generalize meetsB next from_ (wiL next A[x]) [] = b at st sT mono
    generalize wiL next A[x] = WL at sW sT
    refine AW.seq fun _ k2 => AW.cond true (by simp [Int.natCast_inj, hlt]) (fun _ => ?_) (fun h => by cases h)
    refine AW.skip ?_
    simp
    refine k2 _ ?_
    refine AW.seq fun _ k2 => ?_
    refine AW.block ?_
    refine AW.seq fun _ k3 => AW.region [] Θ_ok ?_
    simp [hlt]
    refine k3 _ ?_
    refine AW.seq fun _ k3 => AW.regionAt 5 [] Θ_ok fun B hB => ?_
    simp
    refine sW.use (by simp) ?_
    refine hB _ ?_
    clear hB B
    refine vcOps_split 1 fun B hB => ?_
    simp
    refine sT.use (by simp) ?_
    refine hB _ ?_
    clear hB B
    simp
    refine k3 _ ?_
    cases b with
    | true =>
      refine AW.cond true (by simp [Int.natCast_inj]) (fun _ => ?_) (fun h => by cases h)
      refine AW.seq fun _ kr => AW.region [] Θ_ok ?_
      simp
      refine kr _ (AW.ret ?_)
      simp [Try.f32]
      exact Fin.refl ⟨by simp [unfairB, mono rfl], rfl⟩
    | false =>
      refine AW.cond false (by simp [Int.natCast_inj]) (fun h => by cases h) (fun _ => ?_)
      refine AW.skip ?_
      simp
      refine k2 _ ?_
      refine AW.region [] Θ_ok ?_
      simp
      exact ⟨x + 1, ⟨hlt, st⟩, by omega, GStep.eq (by simp [inc]) (subH.refl _)⟩
  · obtain rfl : x = A.length := by omega
    refine AW.seq fun _ k2 => AW.cond false (by simp [Int.natCast_inj]) (fun h => by cases h) (fun _ => ?_)
    refine AW.exit ?_
    simp
    refine k1 _ ?_
    refine AW.seq fun _ kr => AW.region [] Θ_ok ?_
    simp
    refine kr _ (AW.ret ?_)
    simp [Try.f32]
    exact Fin.refl ⟨by simp [unfairB, ← hFL, hb0, hno], rfl⟩
end Go.Par
