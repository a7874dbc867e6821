import Derived.Test.YtkpdhglbkmbojaaCnB
set_option linter.unusedSimpArgs false
set_option maxRecDepth 8000
namespace Go.Par
open Go.Proofs

theorem memsN_le (a e : Nat) : memsN a e ≤ 16 := by
  unfold memsN
  split
  · omega
  · have h3 : max 1 a * max 1 e ≤ 4 * 4 := Nat.mul_le_mul (by omega) (by omega)
    omega

theorem r9_Mems (A E : List (List Bool)) : Pure Try.prog 20 [.ro false (bools2 A), .ro false (bools2 E)] (.int .i64 (memsN A.length E.length)) := by
  intro h
  refine AC.body Θ_ok Try.func20 rfl rfl (Nat.le_of_ble_eq_true rfl) ?_
  refine AW.seq fun _ k1 => AW.region [] Θ_ok ?_
  simp
  refine k1 _ ?_
  refine AW.seq fun _ k1 => ?_
  by_cases hm : 4 < max A.length E.length
  · have hT : Pure Try.prog 20 [.ro false (bools2 A), .ro false (bools2 E)] (.int .i64 (memsN A.length E.length)) → True := fun _ => trivial
    clear hT
    by_cases ha : (4 : Int) < (A.length : Int)
    · refine AW.seq fun _ k2 => AW.region [] Θ_ok ?_
      simp [ha]
      refine k2 _ ?_
      refine AW.cond true (by simp [Int.natCast_inj, ha]) (fun _ => ?_) (fun h => by cases h)
      refine AW.seq fun _ kr => AW.region [] Θ_ok ?_
      simp
      refine kr _ (AW.ret ?_)
      simp [Try.f20]
      exact Fin.refl ⟨by simp [memsN, hm], rfl⟩
    · have he : (4 : Int) < (E.length : Int) := by omega
      refine AW.seq fun _ k2 => AW.region [] Θ_ok ?_
      simp [ha, Int.not_lt.1 ha, he]
      refine k2 _ ?_
      refine AW.cond true (by simp [Int.natCast_inj, he]) (fun _ => ?_) (fun h => by cases h)
      refine AW.seq fun _ kr => AW.region [] Θ_ok ?_
      simp
      refine kr _ (AW.ret ?_)
      simp [Try.f20]
      exact Fin.refl ⟨by simp [memsN, hm], rfl⟩
  · have h1 : max 1 A.length ≤ 4 := by omega
    have h2 : max 1 E.length ≤ 4 := by omega
    have h3 : max 1 A.length * max 1 E.length ≤ 16 := Nat.le_trans (Nat.mul_le_mul h1 h2) (by omega)
    have hw := wrap_nat (show max 1 A.length * max 1 E.length < 9223372036854775808 by omega)
    rw [Int.natCast_mul] at hw
    have ha : ((A.length : Nat) : Int) ≤ 4 := by omega
    have he : ((E.length : Nat) : Int) ≤ 4 := by omega
    refine AW.seq fun _ k2 => AW.region [] Θ_ok ?_
    simp [ha, he, Int.not_lt.2 ha, Int.not_lt.2 he]
    refine k2 _ ?_
    refine AW.cond false (by simp [Int.natCast_inj, he]) (fun h => by cases h) (fun _ => ?_)
    refine AW.skip ?_
    simp
    refine k1 _ ?_
    refine AW.seq fun _ kr => AW.region [] Θ_ok ?_
    simp [imax1, imax1', hw]
    refine kr _ (AW.ret ?_)
    simp [Try.f20]
    exact Fin.refl ⟨by simp [memsN, hm], rfl⟩

def atE (A E : List (List Bool)) (v mem : Int) : Int :=
  if memsN A.length E.length = 0 ∨ v < 0 ∨ 3000 < v ∨ mem < 0 ∨ (memsN A.length E.length : Int) ≤ mem then -1 else v * memsN A.length E.length + mem

theorem counter_At (A E : List (List Bool)) (v mem : Int) : Pure Try.prog 21 [.ro false (bools2 A), .ro false (bools2 E), .int .i64 v, .int .i64 mem] (.int .i64 (atE A E v mem)) := by
  have eA : atE A E v mem = if memsN A.length E.length = 0 ∨ v < 0 ∨ 3000 < v ∨ mem < 0 ∨ (memsN A.length E.length : Int) ≤ mem then -1 else v * memsN A.length E.length + mem := rfl
  have hle := memsN_le A.length E.length
  have sM := counter_Mems A E
  generalize atE A E v mem = r at *
  generalize memsN A.length E.length = n at *
  intro h
  refine AC.body Θ_ok Try.func21 rfl rfl (Nat.le_of_ble_eq_true rfl) ?_
  refine AW.seq fun _ k1 => AW.region [] Θ_ok ?_
  simp
  refine k1 _ ?_
  refine AW.seq fun _ k1 => AW.region [] Θ_ok ?_
  simp
  refine sM.use (by simp) ?_
  refine k1 _ ?_
  refine AW.seq fun _ k1 => ?_
  by_cases c1 : n = 0
  · refine AW.seq fun _ k2 => AW.region [] Θ_ok ?_
    simp [c1]
    refine k2 _ ?_
    refine AW.cond true (by simp [Int.natCast_inj]) (fun _ => ?_) (fun h => by cases h)
    refine AW.seq fun _ kr => AW.region [] Θ_ok ?_
    simp
    refine kr _ (AW.ret ?_)
    simp [Try.f21]
    exact Fin.refl ⟨by rw [eA, if_pos (.inl c1)], rfl⟩
  by_cases c2 : v < 0
  · refine AW.seq fun _ k2 => AW.region [] Θ_ok ?_
    simp [c1, c2]
    refine k2 _ ?_
    refine AW.cond true (by simp [Int.natCast_inj]) (fun _ => ?_) (fun h => by cases h)
    refine AW.seq fun _ kr => AW.region [] Θ_ok ?_
    simp
    refine kr _ (AW.ret ?_)
    simp [Try.f21]
    exact Fin.refl ⟨by rw [eA, if_pos (.inr (.inl c2))], rfl⟩
  by_cases c3 : 3000 < v
  · refine AW.seq fun _ k2 => AW.region [] Θ_ok ?_
    simp [c1, c2, Int.not_lt.1 c2, c3]
    refine k2 _ ?_
    refine AW.cond true (by simp [Int.natCast_inj]) (fun _ => ?_) (fun h => by cases h)
    refine AW.seq fun _ kr => AW.region [] Θ_ok ?_
    simp
    refine kr _ (AW.ret ?_)
    simp [Try.f21]
    exact Fin.refl ⟨by rw [eA, if_pos (.inr (.inr (.inl c3)))], rfl⟩
  by_cases c4 : mem < 0
  · refine AW.seq fun _ k2 => AW.region [] Θ_ok ?_
    simp [c1, c2, Int.not_lt.1 c2, c3, Int.not_lt.1 c3, c4]
    refine k2 _ ?_
    refine AW.cond true (by simp [Int.natCast_inj]) (fun _ => ?_) (fun h => by cases h)
    refine AW.seq fun _ kr => AW.region [] Θ_ok ?_
    simp
    refine kr _ (AW.ret ?_)
    simp [Try.f21]
    exact Fin.refl ⟨by rw [eA, if_pos (.inr (.inr (.inr (.inl c4))))], rfl⟩
  by_cases c5 : (n : Int) ≤ mem
  · refine AW.seq fun _ k2 => AW.region [] Θ_ok ?_
    simp [c1, c2, Int.not_lt.1 c2, c3, Int.not_lt.1 c3, c4, Int.not_lt.1 c4, c5]
    refine k2 _ ?_
    refine AW.cond true (by simp [Int.natCast_inj, c5]) (fun _ => ?_) (fun h => by cases h)
    refine AW.seq fun _ kr => AW.region [] Θ_ok ?_
    simp
    refine kr _ (AW.ret ?_)
    simp [Try.f21]
    exact Fin.refl ⟨by rw [eA, if_pos (.inr (.inr (.inr (.inr c5))))], rfl⟩
  refine AW.seq fun _ k2 => AW.region [] Θ_ok ?_
  simp [c1, c2, Int.not_lt.1 c2, c3, Int.not_lt.1 c3, c4, Int.not_lt.1 c4, c5, Int.not_le.1 c5]
  refine k2 _ ?_
  refine AW.cond false (by simp [Int.natCast_inj, c5]) (fun h => by cases h) (fun _ => ?_)
  refine AW.skip ?_
  simp
  refine k1 _ ?_
  have v0 := Int.not_lt.1 c2
  have v1 := Int.not_lt.1 c3
  have b1 : v * (n : Int) ≤ 3000 * 16 := Int.le_trans (Int.mul_le_mul_of_nonneg_right v1 (by omega)) (Int.mul_le_mul_of_nonneg_left (by omega) (by omega))
  have b0 : 0 ≤ v * (n : Int) := Int.mul_nonneg v0 (by omega)
  have w1 : IntKind.i64.wrap (v * n) = v * n := wrap_id (by omega) (by omega)
  have w2 : IntKind.i64.wrap (v * n + mem) = v * n + mem := wrap_id (by omega) (by omega)
  refine AW.seq fun _ kr => AW.region [] Θ_ok ?_
  simp [w1, w2]
  refine kr _ (AW.ret ?_)
  simp [Try.f21]
  exact Fin.refl ⟨by rw [eA, if_neg]; rintro (h | h | h | h | h) <;> omega, rfl⟩

theorem r9_At (A E : List (List Bool)) (v mem : Int) : Pure Try.prog 22 [.ro false (bools2 A), .ro false (bools2 E), .int .i64 v, .int .i64 mem] (.int .i64 (atE A E v mem)) := by
  have eA : atE A E v mem = if memsN A.length E.length = 0 ∨ v < 0 ∨ 3000 < v ∨ mem < 0 ∨ (memsN A.length E.length : Int) ≤ mem then -1 else v * memsN A.length E.length + mem := rfl
  have hle := memsN_le A.length E.length
  have sM := r9_Mems A E
  generalize atE A E v mem = r at *
  generalize memsN A.length E.length = n at *
  intro h
  refine AC.body Θ_ok Try.func22 rfl rfl (Nat.le_of_ble_eq_true rfl) ?_
  refine AW.seq fun _ k1 => AW.region [] Θ_ok ?_
  simp
  refine k1 _ ?_
  refine AW.seq fun _ k1 => AW.region [] Θ_ok ?_
  simp
  refine sM.use (by simp) ?_
  refine k1 _ ?_
  refine AW.seq fun _ k1 => ?_
  by_cases c1 : n = 0
  · refine AW.seq fun _ k2 => AW.region [] Θ_ok ?_
    simp [c1]
    refine k2 _ ?_
    refine AW.cond true (by simp [Int.natCast_inj]) (fun _ => ?_) (fun h => by cases h)
    refine AW.seq fun _ kr => AW.region [] Θ_ok ?_
    simp
    refine kr _ (AW.ret ?_)
    simp [Try.f22]
    exact Fin.refl ⟨by rw [eA, if_pos (.inl c1)], rfl⟩
  by_cases c2 : v < 0
  · refine AW.seq fun _ k2 => AW.region [] Θ_ok ?_
    simp [c1, c2]
    refine k2 _ ?_
    refine AW.cond true (by simp [Int.natCast_inj]) (fun _ => ?_) (fun h => by cases h)
    refine AW.seq fun _ kr => AW.region [] Θ_ok ?_
    simp
    refine kr _ (AW.ret ?_)
    simp [Try.f22]
    exact Fin.refl ⟨by rw [eA, if_pos (.inr (.inl c2))], rfl⟩
  by_cases c3 : 3000 < v
  · refine AW.seq fun _ k2 => AW.region [] Θ_ok ?_
    simp [c1, c2, Int.not_lt.1 c2, c3]
    refine k2 _ ?_
    refine AW.cond true (by simp [Int.natCast_inj]) (fun _ => ?_) (fun h => by cases h)
    refine AW.seq fun _ kr => AW.region [] Θ_ok ?_
    simp
    refine kr _ (AW.ret ?_)
    simp [Try.f22]
    exact Fin.refl ⟨by rw [eA, if_pos (.inr (.inr (.inl c3)))], rfl⟩
  by_cases c4 : mem < 0
  · refine AW.seq fun _ k2 => AW.region [] Θ_ok ?_
    simp [c1, c2, Int.not_lt.1 c2, c3, Int.not_lt.1 c3, c4]
    refine k2 _ ?_
    refine AW.cond true (by simp [Int.natCast_inj]) (fun _ => ?_) (fun h => by cases h)
    refine AW.seq fun _ kr => AW.region [] Θ_ok ?_
    simp
    refine kr _ (AW.ret ?_)
    simp [Try.f22]
    exact Fin.refl ⟨by rw [eA, if_pos (.inr (.inr (.inr (.inl c4))))], rfl⟩
  by_cases c5 : (n : Int) ≤ mem
  · refine AW.seq fun _ k2 => AW.region [] Θ_ok ?_
    simp [c1, c2, Int.not_lt.1 c2, c3, Int.not_lt.1 c3, c4, Int.not_lt.1 c4, c5]
    refine k2 _ ?_
    refine AW.cond true (by simp [Int.natCast_inj, c5]) (fun _ => ?_) (fun h => by cases h)
    refine AW.seq fun _ kr => AW.region [] Θ_ok ?_
    simp
    refine kr _ (AW.ret ?_)
    simp [Try.f22]
    exact Fin.refl ⟨by rw [eA, if_pos (.inr (.inr (.inr (.inr c5))))], rfl⟩
  refine AW.seq fun _ k2 => AW.region [] Θ_ok ?_
  simp [c1, c2, Int.not_lt.1 c2, c3, Int.not_lt.1 c3, c4, Int.not_lt.1 c4, c5, Int.not_le.1 c5]
  refine k2 _ ?_
  refine AW.cond false (by simp [Int.natCast_inj, c5]) (fun h => by cases h) (fun _ => ?_)
  refine AW.skip ?_
  simp
  refine k1 _ ?_
  have v0 := Int.not_lt.1 c2
  have v1 := Int.not_lt.1 c3
  have b1 : v * (n : Int) ≤ 3000 * 16 := Int.le_trans (Int.mul_le_mul_of_nonneg_right v1 (by omega)) (Int.mul_le_mul_of_nonneg_left (by omega) (by omega))
  have b0 : 0 ≤ v * (n : Int) := Int.mul_nonneg v0 (by omega)
  have w1 : IntKind.i64.wrap (v * n) = v * n := wrap_id (by omega) (by omega)
  have w2 : IntKind.i64.wrap (v * n + mem) = v * n + mem := wrap_id (by omega) (by omega)
  refine AW.seq fun _ kr => AW.region [] Θ_ok ?_
  simp [w1, w2]
  refine kr _ (AW.ret ?_)
  simp [Try.f22]
  exact Fin.refl ⟨by rw [eA, if_neg]; rintro (h | h | h | h | h) <;> omega, rfl⟩

end Go.Par
