import Derived.Test.YtkpdhglbkmbojaaFnE
import Derived.Test.YtkpdhglbkmbojaaFnI
import Derived.Test.YtkpdhglbkmbojaaMaY
set_option linter.unusedSimpArgs false
set_option maxRecDepth 8000
namespace Go.Par
open Go.Proofs

def memsN (a e : Nat) : Nat := if 4 < max a e then 0 else max 1 a * max 1 e
def metB (A : List (List Bool)) (i v : Nat) : Bool := A.isEmpty || hasN (A.getD i []) v
def onI (A E : List (List Bool)) (v mem : Nat) : Nat := if metB A (mem / max 1 E.length) v then (mem / max 1 E.length + 1) % max 1 A.length else mem / max 1 E.length
def onJ (E : List (List Bool)) (v mem : Nat) : Nat := if metB E (mem % max 1 E.length) v then (mem % max 1 E.length + 1) % max 1 E.length else mem % max 1 E.length
def onThen (A E : List (List Bool)) (v mem : Nat) : Nat := onI A E v mem * max 1 E.length + onJ E v mem
def onPrio (A E : List (List Bool)) (v mem : Nat) : Nat :=
  if metB E (mem % max 1 E.length) v && mem % max 1 E.length == max 1 E.length - 1 then 2 else if metB A (mem / max 1 E.length) v && mem / max 1 E.length == max 1 A.length - 1 then 1 else 0

theorem imax (a b : Nat) : (if a < b then (b : Int) else (a : Int)) = ((max a b : Nat) : Int) := by split <;> omega
theorem imax1 (a : Nat) : (if (1 : Int) < (a : Int) then (a : Int) else 1) = ((max 1 a : Nat) : Int) := by split <;> omega
theorem imax1' (a : Nat) : (if 1 < a then (a : Int) else 1) = ((max 1 a : Nat) : Int) := by split <;> omega

theorem counter_Mems (A E : List (List Bool)) : Pure Try.prog 14 [.ro false (bools2 A), .ro false (bools2 E)] (.int .i64 (memsN A.length E.length)) := by
  intro h
  refine AC.body Θ_ok Try.func14 rfl rfl (Nat.le_of_ble_eq_true rfl) ?_
  refine AW.seq fun _ k1 => AW.region [] Θ_ok ?_
  simp
  refine k1 _ ?_
  refine AW.seq fun _ k1 => ?_
  by_cases hm : 4 < max A.length E.length
  · have hm' : (4 : Int) < ((max A.length E.length : Nat) : Int) := by omega
    refine AW.seq fun _ k2 => AW.region [] Θ_ok ?_
    simp [imax]
    refine k2 _ ?_
    refine AW.cond true (by simp [Int.natCast_inj, hm']) (fun _ => ?_) (fun h => by cases h)
    refine AW.seq fun _ kr => AW.region [] Θ_ok ?_
    simp
    refine kr _ (AW.ret ?_)
    simp [Try.f14]
    exact Fin.refl ⟨by simp [memsN, hm], rfl⟩
  · have h1 : max 1 A.length ≤ 4 := by omega
    have h2 : max 1 E.length ≤ 4 := by omega
    have h3 : max 1 A.length * max 1 E.length ≤ 16 := Nat.le_trans (Nat.mul_le_mul h1 h2) (by omega)
    have hw := wrap_nat (show max 1 A.length * max 1 E.length < 9223372036854775808 by omega)
    rw [Int.natCast_mul] at hw
    have hm' : ((max A.length E.length : Nat) : Int) ≤ 4 := by omega
    refine AW.seq fun _ k2 => AW.region [] Θ_ok ?_
    simp [imax]
    refine k2 _ ?_
    refine AW.cond false (by simp [Int.natCast_inj, hm']) (fun h => by cases h) (fun _ => ?_)
    refine AW.skip ?_
    simp
    refine k1 _ ?_
    refine AW.seq fun _ kr => AW.region [] Θ_ok ?_
    simp [imax1, imax1', hw]
    refine kr _ (AW.ret ?_)
    simp [Try.f14]
    exact Fin.refl ⟨by simp [memsN, hm], rfl⟩

theorem counter_met (A : List (List Bool)) (i v : Nat) (hi : A ≠ [] → i < A.length) : Pure Try.prog 52 [.ro false (bools2 A), .int .i64 i, .int .i64 v] (.bool (metB A i v)) := by
  intro h
  refine AC.body Θ_ok Try.func52 rfl rfl (Nat.le_of_ble_eq_true rfl) ?_
  refine AW.seq fun _ k1 => AW.region [] Θ_ok ?_
  simp
  refine k1 _ ?_
  by_cases h0 : A = []
  · have h0' : (A.length : Int) = 0 := by simp [h0]
    refine AW.seq fun _ kr => AW.region [] Θ_ok ?_
    simp [h0]
    refine kr _ (AW.ret ?_)
    simp [Try.f52]
    exact Fin.refl ⟨by simp [metB, h0], rfl⟩
  · have hl := hi h0
    by_cases hv : v < A[i].length
    · refine AW.seq fun _ kr => AW.region [] Θ_ok ?_
      simp [h0, hl, hv]
      refine kr _ (AW.ret ?_)
      simp [Try.f52]
      exact Fin.refl ⟨by simp [metB, h0, hl, hasN, hv], rfl⟩
    · refine AW.seq fun _ kr => AW.region [] Θ_ok ?_
      simp [h0, hl, hv]
      refine kr _ (AW.ret ?_)
      simp [Try.f52]
      exact Fin.refl ⟨by simp [metB, h0, hl, hasN, Nat.le_of_not_lt hv], rfl⟩

theorem onI_lt (A E : List (List Bool)) (v mem : Nat) (hm : mem < max 1 A.length * max 1 E.length) : onI A E v mem < max 1 A.length := by
  have : mem / max 1 E.length < max 1 A.length := Nat.div_lt_of_lt_mul (by rw [Nat.mul_comm]; exact hm)
  unfold onI
  split
  · exact Nat.mod_lt _ (by omega)
  · exact this
theorem onJ_lt (E : List (List Bool)) (v mem : Nat) : onJ E v mem < max 1 E.length := by
  unfold onJ
  split
  · exact Nat.mod_lt _ (by omega)
  · exact Nat.mod_lt _ (by omega)
theorem onThen_lt (A E : List (List Bool)) (v mem : Nat) (hm : mem < max 1 A.length * max 1 E.length) : onThen A E v mem < max 1 A.length * max 1 E.length := by
  have h1 := onI_lt A E v mem hm
  have h2 := onJ_lt E v mem
  have h3 : (onI A E v mem + 1) * max 1 E.length ≤ max 1 A.length * max 1 E.length := Nat.mul_le_mul_right _ h1
  rw [Nat.add_mul, Nat.one_mul] at h3
  unfold onThen
  omega

end Go.Par
