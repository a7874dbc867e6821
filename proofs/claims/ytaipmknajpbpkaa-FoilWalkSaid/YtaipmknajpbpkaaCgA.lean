/- Texts CnA CnB CnC CnD CnE CnF CnH PlI, one behind another. -/
import Derived.Test.YtaipmknajpbpkaaFgA
import Derived.Test.YtaipmknajpbpkaaFgB
import Derived.Test.YtaipmknajpbpkaaMgC
set_option linter.unusedSimpArgs false
set_option maxRecDepth 8000
namespace Go.Par
open Go.Proofs

def memsN (a e : Nat) : Nat := if 4 < max a e then 0 else max 1 a * max 1 e
def metB (A : List (List Bool)) (i v : Nat) : Bool := A.isEmpty || hasN (A.getD i []) v
def onI (A E : List (List Bool)) (v mem : Nat) : Nat := if metB A (mem / max 1 E.length) v then (mem / max 1 E.length + 1) % max 1 A.length else mem / max 1 E.length
def onJ (E : List (List Bool)) (v mem : Nat) : Nat := if metB E (mem % max 1 E.length) v then (mem % max 1 E.length + 1) % max 1 E.length else mem % max 1 E.length
def onThen (A E : List (List Bool)) (v mem : Nat) : Nat := onI A E v mem * max 1 E.length + onJ E v mem
def onPrio (A E : List (List Bool)) (v mem : Nat) : Nat :=
  if metB E (mem % max 1 E.length) v && mem % max 1 E.length == max 1 E.length - 1 then 2 else if metB A (mem / max 1 E.length) v && mem / max 1 E.length == max 1 A.length - 1 then 1 else 0

theorem imax (a b : Nat) : (if a < b then (b : Int) else (a : Int)) = ((max a b : Nat) : Int) := by split <;> omega
theorem imax1 (a : Nat) : (if (1 : Int) < (a : Int) then (a : Int) else 1) = ((max 1 a : Nat) : Int) := by split <;> omega
theorem imax1' (a : Nat) : (if 1 < a then (a : Int) else 1) = ((max 1 a : Nat) : Int) := by split <;> omega

theorem counter_Mems (A E : List (List Bool)) : Pure Try.prog 36 [.ro false (bools2 A), .ro false (bools2 E)] (.int .i64 (memsN A.length E.length)) := by
  intro h
  refine AC.body Θ_ok Try.func36 rfl rfl (Nat.le_of_ble_eq_true rfl) ?_
  refine AW.seq fun _ k1 => AW.region [] Θ_ok ?_
  simp
  refine k1 _ ?_
  refine AW.seq fun _ k1 => ?_
  by_cases hm : 4 < max A.length E.length
  · have hm' : (4 : Int) < ((max A.length E.length : Nat) : Int) := by omega
    refine AW.seq fun _ k2 => AW.region [] Θ_ok ?_
    simp [imax]
    refine k2 _ ?_
    refine AW.cond true (by simp [Int.natCast_inj, hm']) (fun _ => ?_) (fun h => by cases h)
    refine AW.seq fun _ kr => AW.region [] Θ_ok ?_
    simp
    refine kr _ (AW.ret ?_)
    simp [Try.f36]
    exact Fin.refl ⟨by simp [memsN, hm], rfl⟩
  · have h1 : max 1 A.length ≤ 4 := by omega
    have h2 : max 1 E.length ≤ 4 := by omega
    have h3 : max 1 A.length * max 1 E.length ≤ 16 := Nat.le_trans (Nat.mul_le_mul h1 h2) (by omega)
    have hw := wrap_nat (show max 1 A.length * max 1 E.length < 9223372036854775808 by omega)
    rw [Int.natCast_mul] at hw
    have hm' : ((max A.length E.length : Nat) : Int) ≤ 4 := by omega
    refine AW.seq fun _ k2 => AW.region [] Θ_ok ?_
    simp [imax]
    refine k2 _ ?_
    refine AW.cond false (by simp [Int.natCast_inj, hm']) (fun h => by cases h) (fun _ => ?_)
    refine AW.skip ?_
    simp
    refine k1 _ ?_
    refine AW.seq fun _ kr => AW.region [] Θ_ok ?_
    simp [imax1, imax1', hw]
    refine kr _ (AW.ret ?_)
    simp [Try.f36]
    exact Fin.refl ⟨by simp [memsN, hm], rfl⟩

theorem counter_met (A : List (List Bool)) (i v : Nat) (hi : A ≠ [] → i < A.length) : Pure Try.prog 86 [.ro false (bools2 A), .int .i64 i, .int .i64 v] (.bool (metB A i v)) := by
  intro h
  refine AC.body Θ_ok Try.func86 rfl rfl (Nat.le_of_ble_eq_true rfl) ?_
  refine AW.seq fun _ k1 => AW.region [] Θ_ok ?_
  simp
  refine k1 _ ?_
  by_cases h0 : A = []
  · have h0' : (A.length : Int) = 0 := by simp [h0]
    refine AW.seq fun _ kr => AW.region [] Θ_ok ?_
    simp [h0]
    refine kr _ (AW.ret ?_)
    simp [Try.f86]
    exact Fin.refl ⟨by simp [metB, h0], rfl⟩
  · have hl := hi h0
    by_cases hv : v < A[i].length
    · refine AW.seq fun _ kr => AW.region [] Θ_ok ?_
      simp [h0, hl, hv]
      refine kr _ (AW.ret ?_)
      simp [Try.f86]
      exact Fin.refl ⟨by simp [metB, h0, hl, hasN, hv], rfl⟩
    · refine AW.seq fun _ kr => AW.region [] Θ_ok ?_
      simp [h0, hl, hv]
      refine kr _ (AW.ret ?_)
      simp [Try.f86]
      exact Fin.refl ⟨by simp [metB, h0, hl, hasN, Nat.le_of_not_lt hv], rfl⟩

theorem onI_lt (A E : List (List Bool)) (v mem : Nat) (hm : mem < max 1 A.length * max 1 E.length) : onI A E v mem < max 1 A.length := by
  have : mem / max 1 E.length < max 1 A.length := Nat.div_lt_of_lt_mul (by rw [Nat.mul_comm]; exact hm)
  unfold onI
  split
  · exact Nat.mod_lt _ (by omega)
  · exact this
theorem onJ_lt (E : List (List Bool)) (v mem : Nat) : onJ E v mem < max 1 E.length := by
  unfold onJ
  split
  · exact Nat.mod_lt _ (by omega)
  · exact Nat.mod_lt _ (by omega)
theorem onThen_lt (A E : List (List Bool)) (v mem : Nat) (hm : mem < max 1 A.length * max 1 E.length) : onThen A E v mem < max 1 A.length * max 1 E.length := by
  have h1 := onI_lt A E v mem hm
  have h2 := onJ_lt E v mem
  have h3 : (onI A E v mem + 1) * max 1 E.length ≤ max 1 A.length * max 1 E.length := Nat.mul_le_mul_right _ h1
  rw [Nat.add_mul, Nat.one_mul] at h3
  unfold onThen
  omega

end Go.Par

set_option linter.unusedSimpArgs false
set_option maxRecDepth 8000
namespace Go.Par
open Go.Proofs

theorem counter_on (A E : List (List Bool)) (hA : A.length ≤ 4) (hE : E.length ≤ 4) (v mem : Nat) (hm : mem < max 1 A.length * max 1 E.length) :
    Pure Try.prog 62 [.ro false (bools2 A), .ro false (bools2 E), .int .i64 v, .int .i64 mem] (.tup [.int .i64 (onThen A E v mem : Nat), .int .i64 (onPrio A E v mem : Nat)]) := by
  have hi : mem / max 1 E.length < max 1 A.length := Nat.div_lt_of_lt_mul (by rw [Nat.mul_comm]; exact hm)
  have hj : mem % max 1 E.length < max 1 E.length := Nat.mod_lt _ (by omega)
  have hq : max 1 A.length * max 1 E.length ≤ 4 * 4 := Nat.mul_le_mul (by omega) (by omega)
  have hT := onThen_lt A E v mem hm
  have eI : onI A E v mem = if metB A (mem / max 1 E.length) v then (mem / max 1 E.length + 1) % max 1 A.length else mem / max 1 E.length := rfl
  have eJ : onJ E v mem = if metB E (mem % max 1 E.length) v then (mem % max 1 E.length + 1) % max 1 E.length else mem % max 1 E.length := rfl
  have eT : onThen A E v mem = onI A E v mem * max 1 E.length + onJ E v mem := rfl
  have eP : onPrio A E v mem = if metB E (mem % max 1 E.length) v && mem % max 1 E.length == max 1 E.length - 1 then 2 else if metB A (mem / max 1 E.length) v && mem / max 1 E.length == max 1 A.length - 1 then 1 else 0 := rfl
  have sI := counter_met A (mem / max 1 E.length) v (fun h => by have := List.length_pos_iff.2 h; omega)
  have sJ := counter_met E (mem % max 1 E.length) v (fun h => by have := List.length_pos_iff.2 h; omega)
  have hn0 : ¬ max 1 E.length = 0 := by omega
  generalize metB A (mem / max 1 E.length) v = bI at *
  generalize metB E (mem % max 1 E.length) v = bJ at *
  have lA : max 1 A.length ≤ 4 := by omega
  have lE : max 1 E.length ≤ 4 := by omega
  have hM0 : 0 < max 1 A.length := by omega
  intro h
  refine AC.body Θ_ok Try.func62 rfl rfl (Nat.le_of_ble_eq_true rfl) ?_
  refine AW.seq fun _ k1 => AW.region [] Θ_ok ?_
  simp
  refine k1 _ ?_
  refine AW.seq fun _ k1 => AW.region [] Θ_ok ?_
  simp [imax1, imax1']
  refine k1 _ ?_
  generalize max 1 A.length = M at *
  generalize max 1 E.length = N at *
  have d1 : (mem : Int) / (N : Int) = ((mem / N : Nat) : Int) := (Int.natCast_ediv _ _).symm
  have d2 : (mem : Int) % (N : Int) = ((mem % N : Nat) : Int) := (Int.natCast_emod _ _).symm
  have d3 : (mem : Int).tmod (N : Int) = ((mem % N : Nat) : Int) := by rw [Int.tmod_eq_emod_of_nonneg (by omega)]; exact d2
  have d4 : (mem : Int).tdiv (N : Int) = ((mem / N : Nat) : Int) := by rw [Int.tdiv_eq_ediv_of_nonneg (by omega)]; exact d1
  generalize mem / N = i at *
  generalize mem % N = j at *
  have w1 := wrap_nat (show i < 9223372036854775808 by omega)
  refine AW.seq fun _ k1 => AW.draw [] 9 [] Θ_ok mixed (by kernel_rfl) (by kernel_rfl) ?_
  simp [vcDraw, vcPre, vcTail, callA, isAlloc, isLoad, effOp, obl, obA, mkOK, valA, hn0, d1, d2, d3, d4, w1]
  refine k1 _ ?_
  have wi : IntKind.i64.wrap ((i : Int) + 1) = (i : Int) + 1 := wrap_id (by omega) (by omega)
  have wj : IntKind.i64.wrap ((j : Int) + 1) = (j : Int) + 1 := wrap_id (by omega) (by omega)
  have wM := wrap_id (show -9223372036854775808 ≤ (M : Int) - 1 by omega) (by omega)
  have wN := wrap_id (show -9223372036854775808 ≤ (N : Int) - 1 by omega) (by omega)
  obtain ⟨i', hi'⟩ : ∃ i', i' = (i + 1) % M := ⟨_, rfl⟩
  obtain ⟨j', hj'⟩ : ∃ j', j' = (j + 1) % N := ⟨_, rfl⟩
  have mi : ((i : Int) + 1) % (M : Int) = (i' : Int) := by rw [hi']; simp
  have mj : ((j : Int) + 1) % (N : Int) = (j' : Int) := by rw [hj']; simp
  have mi2 : ((i : Int) + 1).tmod (M : Int) = (i' : Int) := by rw [Int.tmod_eq_emod_of_nonneg (by omega)]; exact mi
  have mj2 : ((j : Int) + 1).tmod (N : Int) = (j' : Int) := by rw [Int.tmod_eq_emod_of_nonneg (by omega)]; exact mj
  have hM0' : ¬ M = 0 := by omega
  rw [← hi'] at eI
  rw [← hj'] at eJ
  clear hi' hj' d1 d2 d3 d4
  generalize onI A E v mem = I at *
  generalize onJ E v mem = J at *
  generalize onThen A E v mem = T at *
  generalize onPrio A E v mem = Pr at *
  have wT := wrap_nat (show T < 9223372036854775808 by omega)
  have hIN : I * N ≤ T := by omega
  have wIN := wrap_nat (show I * N < 9223372036854775808 by omega)
  rw [Int.natCast_mul] at wIN
  have wT2 : IntKind.i64.wrap ((I : Int) * N + J) = T := by rw [eT] at wT ⊢; simpa using wT
  have xi : (i : Int) = (M : Int) - 1 ↔ i = M - 1 := by omega
  have xj : (j : Int) = (N : Int) - 1 ↔ j = N - 1 := by omega
  refine AW.seq fun _ k1 => ?_
  refine AW.seq fun _ k2 => AW.region [] Θ_ok ?_
  simp
  refine sI.use (by simp) ?_
  refine k2 _ ?_
  cases bI
  · have eI' : I = i := by rw [eI]; rfl
    subst eI'
    refine AW.cond false (by simp [Int.natCast_inj]) (fun h => by cases h) (fun _ => ?_)
    refine AW.skip ?_
    simp
    refine k1 _ ?_
    refine AW.seq fun _ k8 => ?_
    refine AW.seq fun _ k9 => AW.region [] Θ_ok ?_
    simp
    refine sJ.use (by simp) ?_
    refine k9 _ ?_
    cases bJ
    · have eJ' : J = j := by rw [eJ]; rfl
      have eP' : Pr = 0 := by rw [eP]; simp 
      subst eJ'
      refine AW.cond false (by simp [Int.natCast_inj]) (fun h => by cases h) (fun _ => ?_)
      refine AW.skip ?_
      simp
      refine k8 _ ?_
      refine AW.seq fun _ kr => AW.region [] Θ_ok ?_
      simp [wIN, wT2]
      refine kr _ (AW.ret ?_)
      simp [Try.f62]
      exact Fin.refl ⟨by rw [eP']; rfl, rfl⟩
    · have eJ' : J = j' := by rw [eJ]; rfl
      subst eJ'
      refine AW.cond true (by simp [Int.natCast_inj]) (fun _ => ?_) (fun h => by cases h)
      by_cases hjN : j = N - 1
      · have hjI : (j : Int) = (N : Int) - 1 := by omega
        have eP' : Pr = 2 := by rw [eP]; simp [hjN]
        refine AW.seq fun _ k10 => ?_
        refine AW.seq fun _ k11 => AW.region [] Θ_ok ?_
        simp [wN]
        refine k11 _ ?_
        refine AW.cond true (by simp [Int.natCast_inj, hjI]) (fun _ => ?_) (fun h => by cases h)
        refine AW.region [] Θ_ok ?_
        simp
        refine k10 _ ?_
        refine AW.region [] Θ_ok ?_
        simp [wj, mj, mj2, hn0]
        refine k8 _ ?_
        refine AW.seq fun _ kr => AW.region [] Θ_ok ?_
        simp [wIN, wT2]
        refine kr _ (AW.ret ?_)
        simp [Try.f62]
        exact Fin.refl ⟨by rw [eP']; rfl, rfl⟩
      · have hjI : ¬ (j : Int) = (N : Int) - 1 := by omega
        have eP' : Pr = 0 := by rw [eP]; simp [hjN]
        refine AW.seq fun _ k10 => ?_
        refine AW.seq fun _ k11 => AW.region [] Θ_ok ?_
        simp [wN]
        refine k11 _ ?_
        refine AW.cond false (by simp [Int.natCast_inj, hjI]) (fun h => by cases h) (fun _ => ?_)
        refine AW.skip ?_
        simp
        refine k10 _ ?_
        refine AW.region [] Θ_ok ?_
        simp [wj, mj, mj2, hn0]
        refine k8 _ ?_
        refine AW.seq fun _ kr => AW.region [] Θ_ok ?_
        simp [wIN, wT2]
        refine kr _ (AW.ret ?_)
        simp [Try.f62]
        exact Fin.refl ⟨by rw [eP']; rfl, rfl⟩
  · have eI' : I = i' := by rw [eI]; rfl
    subst eI'
    refine AW.cond true (by simp [Int.natCast_inj]) (fun _ => ?_) (fun h => by cases h)
    by_cases hiM : i = M - 1
    · have hiI : (i : Int) = (M : Int) - 1 := by omega
      refine AW.seq fun _ k3 => ?_
      refine AW.seq fun _ k4 => AW.region [] Θ_ok ?_
      simp [wM]
      refine k4 _ ?_
      refine AW.cond true (by simp [Int.natCast_inj, hiI]) (fun _ => ?_) (fun h => by cases h)
      refine AW.region [] Θ_ok ?_
      simp
      refine k3 _ ?_
      refine AW.region [] Θ_ok ?_
      simp [wi, mi, mi2, hM0']
      refine k1 _ ?_
      refine AW.seq fun _ k8 => ?_
      refine AW.seq fun _ k9 => AW.region [] Θ_ok ?_
      simp
      refine sJ.use (by simp) ?_
      refine k9 _ ?_
      cases bJ
      · have eJ' : J = j := by rw [eJ]; rfl
        have eP' : Pr = 1 := by rw [eP]; simp [hiM]
        subst eJ'
        refine AW.cond false (by simp [Int.natCast_inj]) (fun h => by cases h) (fun _ => ?_)
        refine AW.skip ?_
        simp
        refine k8 _ ?_
        refine AW.seq fun _ kr => AW.region [] Θ_ok ?_
        simp [wIN, wT2]
        refine kr _ (AW.ret ?_)
        simp [Try.f62]
        exact Fin.refl ⟨by rw [eP']; rfl, rfl⟩
      · have eJ' : J = j' := by rw [eJ]; rfl
        subst eJ'
        refine AW.cond true (by simp [Int.natCast_inj]) (fun _ => ?_) (fun h => by cases h)
        by_cases hjN : j = N - 1
        · have hjI : (j : Int) = (N : Int) - 1 := by omega
          have eP' : Pr = 2 := by rw [eP]; simp [hjN]
          refine AW.seq fun _ k10 => ?_
          refine AW.seq fun _ k11 => AW.region [] Θ_ok ?_
          simp [wN]
          refine k11 _ ?_
          refine AW.cond true (by simp [Int.natCast_inj, hjI]) (fun _ => ?_) (fun h => by cases h)
          refine AW.region [] Θ_ok ?_
          simp
          refine k10 _ ?_
          refine AW.region [] Θ_ok ?_
          simp [wj, mj, mj2, hn0]
          refine k8 _ ?_
          refine AW.seq fun _ kr => AW.region [] Θ_ok ?_
          simp [wIN, wT2]
          refine kr _ (AW.ret ?_)
          simp [Try.f62]
          exact Fin.refl ⟨by rw [eP']; rfl, rfl⟩
        · have hjI : ¬ (j : Int) = (N : Int) - 1 := by omega
          have eP' : Pr = 1 := by rw [eP]; simp [hiM, hjN]
          refine AW.seq fun _ k10 => ?_
          refine AW.seq fun _ k11 => AW.region [] Θ_ok ?_
          simp [wN]
          refine k11 _ ?_
          refine AW.cond false (by simp [Int.natCast_inj, hjI]) (fun h => by cases h) (fun _ => ?_)
          refine AW.skip ?_
          simp
          refine k10 _ ?_
          refine AW.region [] Θ_ok ?_
          simp [wj, mj, mj2, hn0]
          refine k8 _ ?_
          refine AW.seq fun _ kr => AW.region [] Θ_ok ?_
          simp [wIN, wT2]
          refine kr _ (AW.ret ?_)
          simp [Try.f62]
          exact Fin.refl ⟨by rw [eP']; rfl, rfl⟩
    · have hiI : ¬ (i : Int) = (M : Int) - 1 := by omega
      refine AW.seq fun _ k3 => ?_
      refine AW.seq fun _ k4 => AW.region [] Θ_ok ?_
      simp [wM]
      refine k4 _ ?_
      refine AW.cond false (by simp [Int.natCast_inj, hiI]) (fun h => by cases h) (fun _ => ?_)
      refine AW.skip ?_
      simp
      refine k3 _ ?_
      refine AW.region [] Θ_ok ?_
      simp [wi, mi, mi2, hM0']
      refine k1 _ ?_
      refine AW.seq fun _ k8 => ?_
      refine AW.seq fun _ k9 => AW.region [] Θ_ok ?_
      simp
      refine sJ.use (by simp) ?_
      refine k9 _ ?_
      cases bJ
      · have eJ' : J = j := by rw [eJ]; rfl
        have eP' : Pr = 0 := by rw [eP]; simp [hiM]
        subst eJ'
        refine AW.cond false (by simp [Int.natCast_inj]) (fun h => by cases h) (fun _ => ?_)
        refine AW.skip ?_
        simp
        refine k8 _ ?_
        refine AW.seq fun _ kr => AW.region [] Θ_ok ?_
        simp [wIN, wT2]
        refine kr _ (AW.ret ?_)
        simp [Try.f62]
        exact Fin.refl ⟨by rw [eP']; rfl, rfl⟩
      · have eJ' : J = j' := by rw [eJ]; rfl
        subst eJ'
        refine AW.cond true (by simp [Int.natCast_inj]) (fun _ => ?_) (fun h => by cases h)
        by_cases hjN : j = N - 1
        · have hjI : (j : Int) = (N : Int) - 1 := by omega
          have eP' : Pr = 2 := by rw [eP]; simp [hjN]
          refine AW.seq fun _ k10 => ?_
          refine AW.seq fun _ k11 => AW.region [] Θ_ok ?_
          simp [wN]
          refine k11 _ ?_
          refine AW.cond true (by simp [Int.natCast_inj, hjI]) (fun _ => ?_) (fun h => by cases h)
          refine AW.region [] Θ_ok ?_
          simp
          refine k10 _ ?_
          refine AW.region [] Θ_ok ?_
          simp [wj, mj, mj2, hn0]
          refine k8 _ ?_
          refine AW.seq fun _ kr => AW.region [] Θ_ok ?_
          simp [wIN, wT2]
          refine kr _ (AW.ret ?_)
          simp [Try.f62]
          exact Fin.refl ⟨by rw [eP']; rfl, rfl⟩
        · have hjI : ¬ (j : Int) = (N : Int) - 1 := by omega
          have eP' : Pr = 0 := by rw [eP]; simp [hiM, hjN]
          refine AW.seq fun _ k10 => ?_
          refine AW.seq fun _ k11 => AW.region [] Θ_ok ?_
          simp [wN]
          refine k11 _ ?_
          refine AW.cond false (by simp [Int.natCast_inj, hjI]) (fun h => by cases h) (fun _ => ?_)
          refine AW.skip ?_
          simp
          refine k10 _ ?_
          refine AW.region [] Θ_ok ?_
          simp [wj, mj, mj2, hn0]
          refine k8 _ ?_
          refine AW.seq fun _ kr => AW.region [] Θ_ok ?_
          simp [wIN, wT2]
          refine kr _ (AW.ret ?_)
          simp [Try.f62]
          exact Fin.refl ⟨by rw [eP']; rfl, rfl⟩
end Go.Par

set_option linter.unusedSimpArgs false
set_option maxRecDepth 8000
namespace Go.Par
open Go.Proofs

theorem memsN_le (a e : Nat) : memsN a e ≤ 16 := by
  unfold memsN
  split
  · omega
  · have h3 : max 1 a * max 1 e ≤ 4 * 4 := Nat.mul_le_mul (by omega) (by omega)
    omega

theorem r9_Mems (A E : List (List Bool)) : Pure Try.prog 27 [.ro false (bools2 A), .ro false (bools2 E)] (.int .i64 (memsN A.length E.length)) := by
  intro h
  refine AC.body Θ_ok Try.func27 rfl rfl (Nat.le_of_ble_eq_true rfl) ?_
  refine AW.seq fun _ k1 => AW.region [] Θ_ok ?_
  simp
  refine k1 _ ?_
  refine AW.seq fun _ k1 => ?_
  by_cases hm : 4 < max A.length E.length
  · have hT : Pure Try.prog 27 [.ro false (bools2 A), .ro false (bools2 E)] (.int .i64 (memsN A.length E.length)) → True := fun _ => trivial
    clear hT
    by_cases ha : (4 : Int) < (A.length : Int)
    · refine AW.seq fun _ k2 => AW.region [] Θ_ok ?_
      simp [ha]
      refine k2 _ ?_
      refine AW.cond true (by simp [Int.natCast_inj, ha]) (fun _ => ?_) (fun h => by cases h)
      refine AW.seq fun _ kr => AW.region [] Θ_ok ?_
      simp
      refine kr _ (AW.ret ?_)
      simp [Try.f27]
      exact Fin.refl ⟨by simp [memsN, hm], rfl⟩
    · have he : (4 : Int) < (E.length : Int) := by omega
      refine AW.seq fun _ k2 => AW.region [] Θ_ok ?_
      simp [ha, Int.not_lt.1 ha, he]
      refine k2 _ ?_
      refine AW.cond true (by simp [Int.natCast_inj, he]) (fun _ => ?_) (fun h => by cases h)
      refine AW.seq fun _ kr => AW.region [] Θ_ok ?_
      simp
      refine kr _ (AW.ret ?_)
      simp [Try.f27]
      exact Fin.refl ⟨by simp [memsN, hm], rfl⟩
  · have h1 : max 1 A.length ≤ 4 := by omega
    have h2 : max 1 E.length ≤ 4 := by omega
    have h3 : max 1 A.length * max 1 E.length ≤ 16 := Nat.le_trans (Nat.mul_le_mul h1 h2) (by omega)
    have hw := wrap_nat (show max 1 A.length * max 1 E.length < 9223372036854775808 by omega)
    rw [Int.natCast_mul] at hw
    have ha : ((A.length : Nat) : Int) ≤ 4 := by omega
    have he : ((E.length : Nat) : Int) ≤ 4 := by omega
    refine AW.seq fun _ k2 => AW.region [] Θ_ok ?_
    simp [ha, he, Int.not_lt.2 ha, Int.not_lt.2 he]
    refine k2 _ ?_
    refine AW.cond false (by simp [Int.natCast_inj, he]) (fun h => by cases h) (fun _ => ?_)
    refine AW.skip ?_
    simp
    refine k1 _ ?_
    refine AW.seq fun _ kr => AW.region [] Θ_ok ?_
    simp [imax1, imax1', hw]
    refine kr _ (AW.ret ?_)
    simp [Try.f27]
    exact Fin.refl ⟨by simp [memsN, hm], rfl⟩

def atE (A E : List (List Bool)) (v mem : Int) : Int :=
  if memsN A.length E.length = 0 ∨ v < 0 ∨ 3000 < v ∨ mem < 0 ∨ (memsN A.length E.length : Int) ≤ mem then -1 else v * memsN A.length E.length + mem

theorem counter_At (A E : List (List Bool)) (v mem : Int) : Pure Try.prog 59 [.ro false (bools2 A), .ro false (bools2 E), .int .i64 v, .int .i64 mem] (.int .i64 (atE A E v mem)) := by
  have eA : atE A E v mem = if memsN A.length E.length = 0 ∨ v < 0 ∨ 3000 < v ∨ mem < 0 ∨ (memsN A.length E.length : Int) ≤ mem then -1 else v * memsN A.length E.length + mem := rfl
  have hle := memsN_le A.length E.length
  have sM := counter_Mems A E
  generalize atE A E v mem = r at *
  generalize memsN A.length E.length = n at *
  intro h
  refine AC.body Θ_ok Try.func59 rfl rfl (Nat.le_of_ble_eq_true rfl) ?_
  refine AW.seq fun _ k1 => AW.region [] Θ_ok ?_
  simp
  refine k1 _ ?_
  refine AW.seq fun _ k1 => AW.region [] Θ_ok ?_
  simp
  refine sM.use (by simp) ?_
  refine k1 _ ?_
  refine AW.seq fun _ k1 => ?_
  by_cases c1 : n = 0
  · refine AW.seq fun _ k2 => AW.region [] Θ_ok ?_
    simp [c1]
    refine k2 _ ?_
    refine AW.cond true (by simp [Int.natCast_inj]) (fun _ => ?_) (fun h => by cases h)
    refine AW.seq fun _ kr => AW.region [] Θ_ok ?_
    simp
    refine kr _ (AW.ret ?_)
    simp [Try.f59]
    exact Fin.refl ⟨by rw [eA, if_pos (.inl c1)], rfl⟩
  by_cases c2 : v < 0
  · refine AW.seq fun _ k2 => AW.region [] Θ_ok ?_
    simp [c1, c2]
    refine k2 _ ?_
    refine AW.cond true (by simp [Int.natCast_inj]) (fun _ => ?_) (fun h => by cases h)
    refine AW.seq fun _ kr => AW.region [] Θ_ok ?_
    simp
    refine kr _ (AW.ret ?_)
    simp [Try.f59]
    exact Fin.refl ⟨by rw [eA, if_pos (.inr (.inl c2))], rfl⟩
  by_cases c3 : 3000 < v
  · refine AW.seq fun _ k2 => AW.region [] Θ_ok ?_
    simp [c1, c2, Int.not_lt.1 c2, c3]
    refine k2 _ ?_
    refine AW.cond true (by simp [Int.natCast_inj]) (fun _ => ?_) (fun h => by cases h)
    refine AW.seq fun _ kr => AW.region [] Θ_ok ?_
    simp
    refine kr _ (AW.ret ?_)
    simp [Try.f59]
    exact Fin.refl ⟨by rw [eA, if_pos (.inr (.inr (.inl c3)))], rfl⟩
  by_cases c4 : mem < 0
  · refine AW.seq fun _ k2 => AW.region [] Θ_ok ?_
    simp [c1, c2, Int.not_lt.1 c2, c3, Int.not_lt.1 c3, c4]
    refine k2 _ ?_
    refine AW.cond true (by simp [Int.natCast_inj]) (fun _ => ?_) (fun h => by cases h)
    refine AW.seq fun _ kr => AW.region [] Θ_ok ?_
    simp
    refine kr _ (AW.ret ?_)
    simp [Try.f59]
    exact Fin.refl ⟨by rw [eA, if_pos (.inr (.inr (.inr (.inl c4))))], rfl⟩
  by_cases c5 : (n : Int) ≤ mem
  · refine AW.seq fun _ k2 => AW.region [] Θ_ok ?_
    simp [c1, c2, Int.not_lt.1 c2, c3, Int.not_lt.1 c3, c4, Int.not_lt.1 c4, c5]
    refine k2 _ ?_
    refine AW.cond true (by simp [Int.natCast_inj, c5]) (fun _ => ?_) (fun h => by cases h)
    refine AW.seq fun _ kr => AW.region [] Θ_ok ?_
    simp
    refine kr _ (AW.ret ?_)
    simp [Try.f59]
    exact Fin.refl ⟨by rw [eA, if_pos (.inr (.inr (.inr (.inr c5))))], rfl⟩
  refine AW.seq fun _ k2 => AW.region [] Θ_ok ?_
  simp [c1, c2, Int.not_lt.1 c2, c3, Int.not_lt.1 c3, c4, Int.not_lt.1 c4, c5, Int.not_le.1 c5]
  refine k2 _ ?_
  refine AW.cond false (by simp [Int.natCast_inj, c5]) (fun h => by cases h) (fun _ => ?_)
  refine AW.skip ?_
  simp
  refine k1 _ ?_
  have v0 := Int.not_lt.1 c2
  have v1 := Int.not_lt.1 c3
  have b1 : v * (n : Int) ≤ 3000 * 16 := Int.le_trans (Int.mul_le_mul_of_nonneg_right v1 (by omega)) (Int.mul_le_mul_of_nonneg_left (by omega) (by omega))
  have b0 : 0 ≤ v * (n : Int) := Int.mul_nonneg v0 (by omega)
  have w1 : IntKind.i64.wrap (v * n) = v * n := wrap_id (by omega) (by omega)
  have w2 : IntKind.i64.wrap (v * n + mem) = v * n + mem := wrap_id (by omega) (by omega)
  refine AW.seq fun _ kr => AW.region [] Θ_ok ?_
  simp [w1, w2]
  refine kr _ (AW.ret ?_)
  simp [Try.f59]
  exact Fin.refl ⟨by rw [eA, if_neg]; rintro (h | h | h | h | h) <;> omega, rfl⟩

theorem r9_At (A E : List (List Bool)) (v mem : Int) : Pure Try.prog 58 [.ro false (bools2 A), .ro false (bools2 E), .int .i64 v, .int .i64 mem] (.int .i64 (atE A E v mem)) := by
  have eA : atE A E v mem = if memsN A.length E.length = 0 ∨ v < 0 ∨ 3000 < v ∨ mem < 0 ∨ (memsN A.length E.length : Int) ≤ mem then -1 else v * memsN A.length E.length + mem := rfl
  have hle := memsN_le A.length E.length
  have sM := r9_Mems A E
  generalize atE A E v mem = r at *
  generalize memsN A.length E.length = n at *
  intro h
  refine AC.body Θ_ok Try.func58 rfl rfl (Nat.le_of_ble_eq_true rfl) ?_
  refine AW.seq fun _ k1 => AW.region [] Θ_ok ?_
  simp
  refine k1 _ ?_
  refine AW.seq fun _ k1 => AW.region [] Θ_ok ?_
  simp
  refine sM.use (by simp) ?_
  refine k1 _ ?_
  refine AW.seq fun _ k1 => ?_
  by_cases c1 : n = 0
  · refine AW.seq fun _ k2 => AW.region [] Θ_ok ?_
    simp [c1]
    refine k2 _ ?_
    refine AW.cond true (by simp [Int.natCast_inj]) (fun _ => ?_) (fun h => by cases h)
    refine AW.seq fun _ kr => AW.region [] Θ_ok ?_
    simp
    refine kr _ (AW.ret ?_)
    simp [Try.f58]
    exact Fin.refl ⟨by rw [eA, if_pos (.inl c1)], rfl⟩
  by_cases c2 : v < 0
  · refine AW.seq fun _ k2 => AW.region [] Θ_ok ?_
    simp [c1, c2]
    refine k2 _ ?_
    refine AW.cond true (by simp [Int.natCast_inj]) (fun _ => ?_) (fun h => by cases h)
    refine AW.seq fun _ kr => AW.region [] Θ_ok ?_
    simp
    refine kr _ (AW.ret ?_)
    simp [Try.f58]
    exact Fin.refl ⟨by rw [eA, if_pos (.inr (.inl c2))], rfl⟩
  by_cases c3 : 3000 < v
  · refine AW.seq fun _ k2 => AW.region [] Θ_ok ?_
    simp [c1, c2, Int.not_lt.1 c2, c3]
    refine k2 _ ?_
    refine AW.cond true (by simp [Int.natCast_inj]) (fun _ => ?_) (fun h => by cases h)
    refine AW.seq fun _ kr => AW.region [] Θ_ok ?_
    simp
    refine kr _ (AW.ret ?_)
    simp [Try.f58]
    exact Fin.refl ⟨by rw [eA, if_pos (.inr (.inr (.inl c3)))], rfl⟩
  by_cases c4 : mem < 0
  · refine AW.seq fun _ k2 => AW.region [] Θ_ok ?_
    simp [c1, c2, Int.not_lt.1 c2, c3, Int.not_lt.1 c3, c4]
    refine k2 _ ?_
    refine AW.cond true (by simp [Int.natCast_inj]) (fun _ => ?_) (fun h => by cases h)
    refine AW.seq fun _ kr => AW.region [] Θ_ok ?_
    simp
    refine kr _ (AW.ret ?_)
    simp [Try.f58]
    exact Fin.refl ⟨by rw [eA, if_pos (.inr (.inr (.inr (.inl c4))))], rfl⟩
  by_cases c5 : (n : Int) ≤ mem
  · refine AW.seq fun _ k2 => AW.region [] Θ_ok ?_
    simp [c1, c2, Int.not_lt.1 c2, c3, Int.not_lt.1 c3, c4, Int.not_lt.1 c4, c5]
    refine k2 _ ?_
    refine AW.cond true (by simp [Int.natCast_inj, c5]) (fun _ => ?_) (fun h => by cases h)
    refine AW.seq fun _ kr => AW.region [] Θ_ok ?_
    simp
    refine kr _ (AW.ret ?_)
    simp [Try.f58]
    exact Fin.refl ⟨by rw [eA, if_pos (.inr (.inr (.inr (.inr c5))))], rfl⟩
  refine AW.seq fun _ k2 => AW.region [] Θ_ok ?_
  simp [c1, c2, Int.not_lt.1 c2, c3, Int.not_lt.1 c3, c4, Int.not_lt.1 c4, c5, Int.not_le.1 c5]
  refine k2 _ ?_
  refine AW.cond false (by simp [Int.natCast_inj, c5]) (fun h => by cases h) (fun _ => ?_)
  refine AW.skip ?_
  simp
  refine k1 _ ?_
  have v0 := Int.not_lt.1 c2
  have v1 := Int.not_lt.1 c3
  have b1 : v * (n : Int) ≤ 3000 * 16 := Int.le_trans (Int.mul_le_mul_of_nonneg_right v1 (by omega)) (Int.mul_le_mul_of_nonneg_left (by omega) (by omega))
  have b0 : 0 ≤ v * (n : Int) := Int.mul_nonneg v0 (by omega)
  have w1 : IntKind.i64.wrap (v * n) = v * n := wrap_id (by omega) (by omega)
  have w2 : IntKind.i64.wrap (v * n + mem) = v * n + mem := wrap_id (by omega) (by omega)
  refine AW.seq fun _ kr => AW.region [] Θ_ok ?_
  simp [w1, w2]
  refine kr _ (AW.ret ?_)
  simp [Try.f58]
  exact Fin.refl ⟨by rw [eA, if_neg]; rintro (h | h | h | h | h) <;> omega, rfl⟩

end Go.Par

set_option linter.unusedSimpArgs false
set_option linter.unusedVariables false
set_option maxRecDepth 8000
set_option maxHeartbeats 1000000
namespace Go.Par
open Go.Proofs

theorem r9_goes (A E : List (List Bool)) (hA : A.length ≤ 4) (hE : E.length ≤ 4) (v mem : Nat) (hm : mem < max 1 A.length * max 1 E.length) :
    Pure Try.prog 57 [.ro false (bools2 A), .ro false (bools2 E), .int .i64 v, .int .i64 mem] (.tup [.int .i64 (onThen A E v mem : Nat), .int .i64 (onPrio A E v mem : Nat)]) := by
  have hi : mem / max 1 E.length < max 1 A.length := Nat.div_lt_of_lt_mul (by rw [Nat.mul_comm]; exact hm)
  have hj : mem % max 1 E.length < max 1 E.length := Nat.mod_lt _ (by omega)
  have hq : max 1 A.length * max 1 E.length ≤ 4 * 4 := Nat.mul_le_mul (by omega) (by omega)
  have hT := onThen_lt A E v mem hm
  have eI : onI A E v mem = if metB A (mem / max 1 E.length) v then (mem / max 1 E.length + 1) % max 1 A.length else mem / max 1 E.length := rfl
  have eJ : onJ E v mem = if metB E (mem % max 1 E.length) v then (mem % max 1 E.length + 1) % max 1 E.length else mem % max 1 E.length := rfl
  have eT : onThen A E v mem = onI A E v mem * max 1 E.length + onJ E v mem := rfl
  have eP : onPrio A E v mem = if metB E (mem % max 1 E.length) v && mem % max 1 E.length == max 1 E.length - 1 then 2 else if metB A (mem / max 1 E.length) v && mem / max 1 E.length == max 1 A.length - 1 then 1 else 0 := rfl
  have xI : A = [] ∨ A ≠ [] ∧ ∃ h : mem / max 1 E.length < A.length, metB A (mem / max 1 E.length) v = (decide ((0 : Int) ≤ (v : Int)) && hasI A[mem / max 1 E.length] (v : Int)) := by
    by_cases h0 : A = []
    · exact .inl h0
    · have := List.length_pos_iff.2 h0
      have hl : mem / max 1 E.length < A.length := by omega
      exact .inr ⟨h0, hl, by simp [metB, h0, hl]⟩
  have xJ : E = [] ∨ E ≠ [] ∧ ∃ h : mem % max 1 E.length < E.length, metB E (mem % max 1 E.length) v = (decide ((0 : Int) ≤ (v : Int)) && hasI E[mem % max 1 E.length] (v : Int)) := by
    by_cases h0 : E = []
    · exact .inl h0
    · have := List.length_pos_iff.2 h0
      have hl : mem % max 1 E.length < E.length := by omega
      exact .inr ⟨h0, hl, by simp [metB, h0, hl]⟩
  have zI : A = [] → metB A (mem / max 1 E.length) v = true := fun h => by simp [metB, h]
  have zJ : E = [] → metB E (mem % max 1 E.length) v = true := fun h => by simp [metB, h]
  have hn0 : ¬ max 1 E.length = 0 := by omega
  generalize metB A (mem / max 1 E.length) v = bI at *
  generalize metB E (mem % max 1 E.length) v = bJ at *
  have lA : max 1 A.length ≤ 4 := by omega
  have lE : max 1 E.length ≤ 4 := by omega
  have hM0 : 0 < max 1 A.length := by omega
  intro h
  refine AC.body Θ_ok Try.func57 rfl rfl (Nat.le_of_ble_eq_true rfl) ?_
  refine AW.seq fun _ k1 => AW.region [] Θ_ok ?_
  simp
  refine k1 _ ?_
  refine AW.seq fun _ k1 => AW.region [] Θ_ok ?_
  simp [imax1, imax1']
  refine k1 _ ?_
  generalize max 1 A.length = M at *
  generalize max 1 E.length = N at *
  have d1 : (mem : Int) / (N : Int) = ((mem / N : Nat) : Int) := (Int.natCast_ediv _ _).symm
  have d2 : (mem : Int) % (N : Int) = ((mem % N : Nat) : Int) := (Int.natCast_emod _ _).symm
  have d3 : (mem : Int).tmod (N : Int) = ((mem % N : Nat) : Int) := by rw [Int.tmod_eq_emod_of_nonneg (by omega)]; exact d2
  have d4 : (mem : Int).tdiv (N : Int) = ((mem / N : Nat) : Int) := by rw [Int.tdiv_eq_ediv_of_nonneg (by omega)]; exact d1
  generalize mem / N = i at *
  generalize mem % N = j at *
  have w1 := wrap_nat (show i < 9223372036854775808 by omega)
  refine AW.seq fun _ k1 => AW.draw [] 9 [] Θ_ok mixed (by kernel_rfl) (by kernel_rfl) ?_
  simp [vcDraw, vcPre, vcTail, callA, isAlloc, isLoad, effOp, obl, obA, mkOK, valA, hn0, d1, d2, d3, d4, w1]
  refine k1 _ ?_
  have wi : IntKind.i64.wrap ((i : Int) + 1) = (i : Int) + 1 := wrap_id (by omega) (by omega)
  have wj : IntKind.i64.wrap ((j : Int) + 1) = (j : Int) + 1 := wrap_id (by omega) (by omega)
  have wM := wrap_id (show -9223372036854775808 ≤ (M : Int) - 1 by omega) (by omega)
  have wN := wrap_id (show -9223372036854775808 ≤ (N : Int) - 1 by omega) (by omega)
  obtain ⟨i', hi'⟩ : ∃ i', i' = (i + 1) % M := ⟨_, rfl⟩
  obtain ⟨j', hj'⟩ : ∃ j', j' = (j + 1) % N := ⟨_, rfl⟩
  have mi : ((i : Int) + 1) % (M : Int) = (i' : Int) := by rw [hi']; simp
  have mj : ((j : Int) + 1) % (N : Int) = (j' : Int) := by rw [hj']; simp
  have mi2 : ((i : Int) + 1).tmod (M : Int) = (i' : Int) := by rw [Int.tmod_eq_emod_of_nonneg (by omega)]; exact mi
  have mj2 : ((j : Int) + 1).tmod (N : Int) = (j' : Int) := by rw [Int.tmod_eq_emod_of_nonneg (by omega)]; exact mj
  have hM0' : ¬ M = 0 := by omega
  rw [← hi'] at eI
  rw [← hj'] at eJ
  clear hi' hj' d1 d2 d3 d4
  generalize onI A E v mem = I at *
  generalize onJ E v mem = J at *
  generalize onThen A E v mem = T at *
  generalize onPrio A E v mem = Pr at *
  have wT := wrap_nat (show T < 9223372036854775808 by omega)
  have hIN : I * N ≤ T := by omega
  have wIN := wrap_nat (show I * N < 9223372036854775808 by omega)
  rw [Int.natCast_mul] at wIN
  have wT2 : IntKind.i64.wrap ((I : Int) * N + J) = T := by rw [eT] at wT ⊢; simpa using wT
  have xi : (i : Int) = (M : Int) - 1 ↔ i = M - 1 := by omega
  have xj : (j : Int) = (N : Int) - 1 ↔ j = N - 1 := by omega
  refine AW.seq fun _ k1 => ?_
  rcases xI with h0 | ⟨h0, hl, hx⟩
  · have hbI := zI h0
    refine AW.seq fun _ k2 => AW.region [] Θ_ok ?_
    simp [h0]
    refine k2 _ ?_
    have eI' : I = i' := by rw [eI, hbI]; rfl
    rw [eI'] at wIN wT2
    refine AW.cond true (by simp [Int.natCast_inj]) (fun _ => ?_) (fun h => by cases h)
    by_cases hiM : i = M - 1
    · have hiI : (i : Int) = (M : Int) - 1 := by omega
      refine AW.seq fun _ k3 => ?_
      refine AW.seq fun _ k4 => AW.region [] Θ_ok ?_
      simp [wM]
      refine k4 _ ?_
      refine AW.cond true (by simp [Int.natCast_inj, hiI]) (fun _ => ?_) (fun h => by cases h)
      refine AW.region [] Θ_ok ?_
      simp
      refine k3 _ ?_
      refine AW.region [] Θ_ok ?_
      simp [wi, mi, mi2, hM0']
      refine k1 _ ?_
      refine AW.seq fun _ k8 => ?_
      rcases xJ with h0 | ⟨h0, hl, hx⟩
      · have hbJ := zJ h0
        refine AW.seq fun _ k9 => AW.region [] Θ_ok ?_
        simp [h0]
        refine k9 _ ?_
        have eJ' : J = j' := by rw [eJ, hbJ]; rfl
        refine AW.cond true (by simp [Int.natCast_inj]) (fun _ => ?_) (fun h => by cases h)
        by_cases hjN : j = N - 1
        · have hjI : (j : Int) = (N : Int) - 1 := by omega
          have eP' : Pr = 2 := by rw [eP, hbJ]; simp [hjN]
          refine AW.seq fun _ k10 => ?_
          refine AW.seq fun _ k11 => AW.region [] Θ_ok ?_
          simp [wN]
          refine k11 _ ?_
          refine AW.cond true (by simp [Int.natCast_inj, hjI]) (fun _ => ?_) (fun h => by cases h)
          refine AW.region [] Θ_ok ?_
          simp
          refine k10 _ ?_
          refine AW.region [] Θ_ok ?_
          simp [wj, mj, mj2, hn0]
          refine k8 _ ?_
          rw [eJ'] at wT2
          refine AW.seq fun _ kr => AW.region [] Θ_ok ?_
          simp [wIN, wT2]
          refine kr _ (AW.ret ?_)
          simp [Try.f57]
          exact Fin.refl ⟨by rw [eP']; rfl, rfl⟩
        · have hjI : ¬ (j : Int) = (N : Int) - 1 := by omega
          have eP' : Pr = 1 := by rw [eP, hbJ, hbI]; simp [hiM, hjN]
          refine AW.seq fun _ k10 => ?_
          refine AW.seq fun _ k11 => AW.region [] Θ_ok ?_
          simp [wN]
          refine k11 _ ?_
          refine AW.cond false (by simp [Int.natCast_inj, hjI]) (fun h => by cases h) (fun _ => ?_)
          refine AW.skip ?_
          simp
          refine k10 _ ?_
          refine AW.region [] Θ_ok ?_
          simp [wj, mj, mj2, hn0]
          refine k8 _ ?_
          rw [eJ'] at wT2
          refine AW.seq fun _ kr => AW.region [] Θ_ok ?_
          simp [wIN, wT2]
          refine kr _ (AW.ret ?_)
          simp [Try.f57]
          exact Fin.refl ⟨by rw [eP']; rfl, rfl⟩
      · refine AW.seq fun _ k9 => AW.regionAt 10 [] Θ_ok fun B hB => ?_
        simp [h0, hl]
        refine (r9_Has E[j] v).use (by simp) ?_
        rw [← hx]
        refine hB _ ?_
        clear hB B
        simp [h0]
        refine k9 _ ?_
        cases hbJ : bJ
        · have eJ' : J = j := by rw [eJ, hbJ]; rfl
          have eP' : Pr = 1 := by rw [eP, hbJ, hbI]; first | rfl | simp [hiM]
          refine AW.cond false (by simp [Int.natCast_inj]) (fun h => by cases h) (fun _ => ?_)
          refine AW.skip ?_
          simp
          refine k8 _ ?_
          rw [eJ'] at wT2
          refine AW.seq fun _ kr => AW.region [] Θ_ok ?_
          simp [wIN, wT2]
          refine kr _ (AW.ret ?_)
          simp [Try.f57]
          exact Fin.refl ⟨by rw [eP']; rfl, rfl⟩
        · skip
          have eJ' : J = j' := by rw [eJ, hbJ]; rfl
          refine AW.cond true (by simp [Int.natCast_inj]) (fun _ => ?_) (fun h => by cases h)
          by_cases hjN : j = N - 1
          · have hjI : (j : Int) = (N : Int) - 1 := by omega
            have eP' : Pr = 2 := by rw [eP, hbJ]; simp [hjN]
            refine AW.seq fun _ k10 => ?_
            refine AW.seq fun _ k11 => AW.region [] Θ_ok ?_
            simp [wN]
            refine k11 _ ?_
            refine AW.cond true (by simp [Int.natCast_inj, hjI]) (fun _ => ?_) (fun h => by cases h)
            refine AW.region [] Θ_ok ?_
            simp
            refine k10 _ ?_
            refine AW.region [] Θ_ok ?_
            simp [wj, mj, mj2, hn0]
            refine k8 _ ?_
            rw [eJ'] at wT2
            refine AW.seq fun _ kr => AW.region [] Θ_ok ?_
            simp [wIN, wT2]
            refine kr _ (AW.ret ?_)
            simp [Try.f57]
            exact Fin.refl ⟨by rw [eP']; rfl, rfl⟩
          · have hjI : ¬ (j : Int) = (N : Int) - 1 := by omega
            have eP' : Pr = 1 := by rw [eP, hbJ, hbI]; simp [hiM, hjN]
            refine AW.seq fun _ k10 => ?_
            refine AW.seq fun _ k11 => AW.region [] Θ_ok ?_
            simp [wN]
            refine k11 _ ?_
            refine AW.cond false (by simp [Int.natCast_inj, hjI]) (fun h => by cases h) (fun _ => ?_)
            refine AW.skip ?_
            simp
            refine k10 _ ?_
            refine AW.region [] Θ_ok ?_
            simp [wj, mj, mj2, hn0]
            refine k8 _ ?_
            rw [eJ'] at wT2
            refine AW.seq fun _ kr => AW.region [] Θ_ok ?_
            simp [wIN, wT2]
            refine kr _ (AW.ret ?_)
            simp [Try.f57]
            exact Fin.refl ⟨by rw [eP']; rfl, rfl⟩
    · have hiI : ¬ (i : Int) = (M : Int) - 1 := by omega
      refine AW.seq fun _ k3 => ?_
      refine AW.seq fun _ k4 => AW.region [] Θ_ok ?_
      simp [wM]
      refine k4 _ ?_
      refine AW.cond false (by simp [Int.natCast_inj, hiI]) (fun h => by cases h) (fun _ => ?_)
      refine AW.skip ?_
      simp
      refine k3 _ ?_
      refine AW.region [] Θ_ok ?_
      simp [wi, mi, mi2, hM0']
      refine k1 _ ?_
      refine AW.seq fun _ k8 => ?_
      rcases xJ with h0 | ⟨h0, hl, hx⟩
      · have hbJ := zJ h0
        refine AW.seq fun _ k9 => AW.region [] Θ_ok ?_
        simp [h0]
        refine k9 _ ?_
        have eJ' : J = j' := by rw [eJ, hbJ]; rfl
        refine AW.cond true (by simp [Int.natCast_inj]) (fun _ => ?_) (fun h => by cases h)
        by_cases hjN : j = N - 1
        · have hjI : (j : Int) = (N : Int) - 1 := by omega
          have eP' : Pr = 2 := by rw [eP, hbJ]; simp [hjN]
          refine AW.seq fun _ k10 => ?_
          refine AW.seq fun _ k11 => AW.region [] Θ_ok ?_
          simp [wN]
          refine k11 _ ?_
          refine AW.cond true (by simp [Int.natCast_inj, hjI]) (fun _ => ?_) (fun h => by cases h)
          refine AW.region [] Θ_ok ?_
          simp
          refine k10 _ ?_
          refine AW.region [] Θ_ok ?_
          simp [wj, mj, mj2, hn0]
          refine k8 _ ?_
          rw [eJ'] at wT2
          refine AW.seq fun _ kr => AW.region [] Θ_ok ?_
          simp [wIN, wT2]
          refine kr _ (AW.ret ?_)
          simp [Try.f57]
          exact Fin.refl ⟨by rw [eP']; rfl, rfl⟩
        · have hjI : ¬ (j : Int) = (N : Int) - 1 := by omega
          have eP' : Pr = 0 := by rw [eP, hbJ, hbI]; simp [hiM, hjN]
          refine AW.seq fun _ k10 => ?_
          refine AW.seq fun _ k11 => AW.region [] Θ_ok ?_
          simp [wN]
          refine k11 _ ?_
          refine AW.cond false (by simp [Int.natCast_inj, hjI]) (fun h => by cases h) (fun _ => ?_)
          refine AW.skip ?_
          simp
          refine k10 _ ?_
          refine AW.region [] Θ_ok ?_
          simp [wj, mj, mj2, hn0]
          refine k8 _ ?_
          rw [eJ'] at wT2
          refine AW.seq fun _ kr => AW.region [] Θ_ok ?_
          simp [wIN, wT2]
          refine kr _ (AW.ret ?_)
          simp [Try.f57]
          exact Fin.refl ⟨by rw [eP']; rfl, rfl⟩
      · refine AW.seq fun _ k9 => AW.regionAt 10 [] Θ_ok fun B hB => ?_
        simp [h0, hl]
        refine (r9_Has E[j] v).use (by simp) ?_
        rw [← hx]
        refine hB _ ?_
        clear hB B
        simp [h0]
        refine k9 _ ?_
        cases hbJ : bJ
        · have eJ' : J = j := by rw [eJ, hbJ]; rfl
          have eP' : Pr = 0 := by rw [eP, hbJ, hbI]; first | rfl | simp [hiM]
          refine AW.cond false (by simp [Int.natCast_inj]) (fun h => by cases h) (fun _ => ?_)
          refine AW.skip ?_
          simp
          refine k8 _ ?_
          rw [eJ'] at wT2
          refine AW.seq fun _ kr => AW.region [] Θ_ok ?_
          simp [wIN, wT2]
          refine kr _ (AW.ret ?_)
          simp [Try.f57]
          exact Fin.refl ⟨by rw [eP']; rfl, rfl⟩
        · skip
          have eJ' : J = j' := by rw [eJ, hbJ]; rfl
          refine AW.cond true (by simp [Int.natCast_inj]) (fun _ => ?_) (fun h => by cases h)
          by_cases hjN : j = N - 1
          · have hjI : (j : Int) = (N : Int) - 1 := by omega
            have eP' : Pr = 2 := by rw [eP, hbJ]; simp [hjN]
            refine AW.seq fun _ k10 => ?_
            refine AW.seq fun _ k11 => AW.region [] Θ_ok ?_
            simp [wN]
            refine k11 _ ?_
            refine AW.cond true (by simp [Int.natCast_inj, hjI]) (fun _ => ?_) (fun h => by cases h)
            refine AW.region [] Θ_ok ?_
            simp
            refine k10 _ ?_
            refine AW.region [] Θ_ok ?_
            simp [wj, mj, mj2, hn0]
            refine k8 _ ?_
            rw [eJ'] at wT2
            refine AW.seq fun _ kr => AW.region [] Θ_ok ?_
            simp [wIN, wT2]
            refine kr _ (AW.ret ?_)
            simp [Try.f57]
            exact Fin.refl ⟨by rw [eP']; rfl, rfl⟩
          · have hjI : ¬ (j : Int) = (N : Int) - 1 := by omega
            have eP' : Pr = 0 := by rw [eP, hbJ, hbI]; simp [hiM, hjN]
            refine AW.seq fun _ k10 => ?_
            refine AW.seq fun _ k11 => AW.region [] Θ_ok ?_
            simp [wN]
            refine k11 _ ?_
            refine AW.cond false (by simp [Int.natCast_inj, hjI]) (fun h => by cases h) (fun _ => ?_)
            refine AW.skip ?_
            simp
            refine k10 _ ?_
            refine AW.region [] Θ_ok ?_
            simp [wj, mj, mj2, hn0]
            refine k8 _ ?_
            rw [eJ'] at wT2
            refine AW.seq fun _ kr => AW.region [] Θ_ok ?_
            simp [wIN, wT2]
            refine kr _ (AW.ret ?_)
            simp [Try.f57]
            exact Fin.refl ⟨by rw [eP']; rfl, rfl⟩
  · refine AW.seq fun _ k2 => AW.regionAt 10 [] Θ_ok fun B hB => ?_
    simp [h0, hl]
    refine (r9_Has A[i] v).use (by simp) ?_
    rw [← hx]
    refine hB _ ?_
    clear hB B
    simp [h0]
    refine k2 _ ?_
    cases hbI : bI
    · have eI' : I = i := by rw [eI, hbI]; rfl
      rw [eI'] at wIN wT2
      refine AW.cond false (by simp [Int.natCast_inj]) (fun h => by cases h) (fun _ => ?_)
      refine AW.skip ?_
      simp
      refine k1 _ ?_
      refine AW.seq fun _ k8 => ?_
      rcases xJ with h0 | ⟨h0, hl, hx⟩
      · have hbJ := zJ h0
        refine AW.seq fun _ k9 => AW.region [] Θ_ok ?_
        simp [h0]
        refine k9 _ ?_
        have eJ' : J = j' := by rw [eJ, hbJ]; rfl
        refine AW.cond true (by simp [Int.natCast_inj]) (fun _ => ?_) (fun h => by cases h)
        by_cases hjN : j = N - 1
        · have hjI : (j : Int) = (N : Int) - 1 := by omega
          have eP' : Pr = 2 := by rw [eP, hbJ]; simp [hjN]
          refine AW.seq fun _ k10 => ?_
          refine AW.seq fun _ k11 => AW.region [] Θ_ok ?_
          simp [wN]
          refine k11 _ ?_
          refine AW.cond true (by simp [Int.natCast_inj, hjI]) (fun _ => ?_) (fun h => by cases h)
          refine AW.region [] Θ_ok ?_
          simp
          refine k10 _ ?_
          refine AW.region [] Θ_ok ?_
          simp [wj, mj, mj2, hn0]
          refine k8 _ ?_
          rw [eJ'] at wT2
          refine AW.seq fun _ kr => AW.region [] Θ_ok ?_
          simp [wIN, wT2]
          refine kr _ (AW.ret ?_)
          simp [Try.f57]
          exact Fin.refl ⟨by rw [eP']; rfl, rfl⟩
        · have hjI : ¬ (j : Int) = (N : Int) - 1 := by omega
          have eP' : Pr = 0 := by rw [eP, hbJ, hbI]; simp [hjN]
          refine AW.seq fun _ k10 => ?_
          refine AW.seq fun _ k11 => AW.region [] Θ_ok ?_
          simp [wN]
          refine k11 _ ?_
          refine AW.cond false (by simp [Int.natCast_inj, hjI]) (fun h => by cases h) (fun _ => ?_)
          refine AW.skip ?_
          simp
          refine k10 _ ?_
          refine AW.region [] Θ_ok ?_
          simp [wj, mj, mj2, hn0]
          refine k8 _ ?_
          rw [eJ'] at wT2
          refine AW.seq fun _ kr => AW.region [] Θ_ok ?_
          simp [wIN, wT2]
          refine kr _ (AW.ret ?_)
          simp [Try.f57]
          exact Fin.refl ⟨by rw [eP']; rfl, rfl⟩
      · refine AW.seq fun _ k9 => AW.regionAt 10 [] Θ_ok fun B hB => ?_
        simp [h0, hl]
        refine (r9_Has E[j] v).use (by simp) ?_
        rw [← hx]
        refine hB _ ?_
        clear hB B
        simp [h0]
        refine k9 _ ?_
        cases hbJ : bJ
        · have eJ' : J = j := by rw [eJ, hbJ]; rfl
          have eP' : Pr = 0 := by rw [eP, hbJ, hbI]; first | rfl | simp 
          refine AW.cond false (by simp [Int.natCast_inj]) (fun h => by cases h) (fun _ => ?_)
          refine AW.skip ?_
          simp
          refine k8 _ ?_
          rw [eJ'] at wT2
          refine AW.seq fun _ kr => AW.region [] Θ_ok ?_
          simp [wIN, wT2]
          refine kr _ (AW.ret ?_)
          simp [Try.f57]
          exact Fin.refl ⟨by rw [eP']; rfl, rfl⟩
        · skip
          have eJ' : J = j' := by rw [eJ, hbJ]; rfl
          refine AW.cond true (by simp [Int.natCast_inj]) (fun _ => ?_) (fun h => by cases h)
          by_cases hjN : j = N - 1
          · have hjI : (j : Int) = (N : Int) - 1 := by omega
            have eP' : Pr = 2 := by rw [eP, hbJ]; simp [hjN]
            refine AW.seq fun _ k10 => ?_
            refine AW.seq fun _ k11 => AW.region [] Θ_ok ?_
            simp [wN]
            refine k11 _ ?_
            refine AW.cond true (by simp [Int.natCast_inj, hjI]) (fun _ => ?_) (fun h => by cases h)
            refine AW.region [] Θ_ok ?_
            simp
            refine k10 _ ?_
            refine AW.region [] Θ_ok ?_
            simp [wj, mj, mj2, hn0]
            refine k8 _ ?_
            rw [eJ'] at wT2
            refine AW.seq fun _ kr => AW.region [] Θ_ok ?_
            simp [wIN, wT2]
            refine kr _ (AW.ret ?_)
            simp [Try.f57]
            exact Fin.refl ⟨by rw [eP']; rfl, rfl⟩
          · have hjI : ¬ (j : Int) = (N : Int) - 1 := by omega
            have eP' : Pr = 0 := by rw [eP, hbJ, hbI]; simp [hjN]
            refine AW.seq fun _ k10 => ?_
            refine AW.seq fun _ k11 => AW.region [] Θ_ok ?_
            simp [wN]
            refine k11 _ ?_
            refine AW.cond false (by simp [Int.natCast_inj, hjI]) (fun h => by cases h) (fun _ => ?_)
            refine AW.skip ?_
            simp
            refine k10 _ ?_
            refine AW.region [] Θ_ok ?_
            simp [wj, mj, mj2, hn0]
            refine k8 _ ?_
            rw [eJ'] at wT2
            refine AW.seq fun _ kr => AW.region [] Θ_ok ?_
            simp [wIN, wT2]
            refine kr _ (AW.ret ?_)
            simp [Try.f57]
            exact Fin.refl ⟨by rw [eP']; rfl, rfl⟩
    · skip
      have eI' : I = i' := by rw [eI, hbI]; rfl
      rw [eI'] at wIN wT2
      refine AW.cond true (by simp [Int.natCast_inj]) (fun _ => ?_) (fun h => by cases h)
      by_cases hiM : i = M - 1
      · have hiI : (i : Int) = (M : Int) - 1 := by omega
        refine AW.seq fun _ k3 => ?_
        refine AW.seq fun _ k4 => AW.region [] Θ_ok ?_
        simp [wM]
        refine k4 _ ?_
        refine AW.cond true (by simp [Int.natCast_inj, hiI]) (fun _ => ?_) (fun h => by cases h)
        refine AW.region [] Θ_ok ?_
        simp
        refine k3 _ ?_
        refine AW.region [] Θ_ok ?_
        simp [wi, mi, mi2, hM0']
        refine k1 _ ?_
        refine AW.seq fun _ k8 => ?_
        rcases xJ with h0 | ⟨h0, hl, hx⟩
        · have hbJ := zJ h0
          refine AW.seq fun _ k9 => AW.region [] Θ_ok ?_
          simp [h0]
          refine k9 _ ?_
          have eJ' : J = j' := by rw [eJ, hbJ]; rfl
          refine AW.cond true (by simp [Int.natCast_inj]) (fun _ => ?_) (fun h => by cases h)
          by_cases hjN : j = N - 1
          · have hjI : (j : Int) = (N : Int) - 1 := by omega
            have eP' : Pr = 2 := by rw [eP, hbJ]; simp [hjN]
            refine AW.seq fun _ k10 => ?_
            refine AW.seq fun _ k11 => AW.region [] Θ_ok ?_
            simp [wN]
            refine k11 _ ?_
            refine AW.cond true (by simp [Int.natCast_inj, hjI]) (fun _ => ?_) (fun h => by cases h)
            refine AW.region [] Θ_ok ?_
            simp
            refine k10 _ ?_
            refine AW.region [] Θ_ok ?_
            simp [wj, mj, mj2, hn0]
            refine k8 _ ?_
            rw [eJ'] at wT2
            refine AW.seq fun _ kr => AW.region [] Θ_ok ?_
            simp [wIN, wT2]
            refine kr _ (AW.ret ?_)
            simp [Try.f57]
            exact Fin.refl ⟨by rw [eP']; rfl, rfl⟩
          · have hjI : ¬ (j : Int) = (N : Int) - 1 := by omega
            have eP' : Pr = 1 := by rw [eP, hbJ, hbI]; simp [hiM, hjN]
            refine AW.seq fun _ k10 => ?_
            refine AW.seq fun _ k11 => AW.region [] Θ_ok ?_
            simp [wN]
            refine k11 _ ?_
            refine AW.cond false (by simp [Int.natCast_inj, hjI]) (fun h => by cases h) (fun _ => ?_)
            refine AW.skip ?_
            simp
            refine k10 _ ?_
            refine AW.region [] Θ_ok ?_
            simp [wj, mj, mj2, hn0]
            refine k8 _ ?_
            rw [eJ'] at wT2
            refine AW.seq fun _ kr => AW.region [] Θ_ok ?_
            simp [wIN, wT2]
            refine kr _ (AW.ret ?_)
            simp [Try.f57]
            exact Fin.refl ⟨by rw [eP']; rfl, rfl⟩
        · refine AW.seq fun _ k9 => AW.regionAt 10 [] Θ_ok fun B hB => ?_
          simp [h0, hl]
          refine (r9_Has E[j] v).use (by simp) ?_
          rw [← hx]
          refine hB _ ?_
          clear hB B
          simp [h0]
          refine k9 _ ?_
          cases hbJ : bJ
          · have eJ' : J = j := by rw [eJ, hbJ]; rfl
            have eP' : Pr = 1 := by rw [eP, hbJ, hbI]; first | rfl | simp [hiM]
            refine AW.cond false (by simp [Int.natCast_inj]) (fun h => by cases h) (fun _ => ?_)
            refine AW.skip ?_
            simp
            refine k8 _ ?_
            rw [eJ'] at wT2
            refine AW.seq fun _ kr => AW.region [] Θ_ok ?_
            simp [wIN, wT2]
            refine kr _ (AW.ret ?_)
            simp [Try.f57]
            exact Fin.refl ⟨by rw [eP']; rfl, rfl⟩
          · skip
            have eJ' : J = j' := by rw [eJ, hbJ]; rfl
            refine AW.cond true (by simp [Int.natCast_inj]) (fun _ => ?_) (fun h => by cases h)
            by_cases hjN : j = N - 1
            · have hjI : (j : Int) = (N : Int) - 1 := by omega
              have eP' : Pr = 2 := by rw [eP, hbJ]; simp [hjN]
              refine AW.seq fun _ k10 => ?_
              refine AW.seq fun _ k11 => AW.region [] Θ_ok ?_
              simp [wN]
              refine k11 _ ?_
              refine AW.cond true (by simp [Int.natCast_inj, hjI]) (fun _ => ?_) (fun h => by cases h)
              refine AW.region [] Θ_ok ?_
              simp
              refine k10 _ ?_
              refine AW.region [] Θ_ok ?_
              simp [wj, mj, mj2, hn0]
              refine k8 _ ?_
              rw [eJ'] at wT2
              refine AW.seq fun _ kr => AW.region [] Θ_ok ?_
              simp [wIN, wT2]
              refine kr _ (AW.ret ?_)
              simp [Try.f57]
              exact Fin.refl ⟨by rw [eP']; rfl, rfl⟩
            · have hjI : ¬ (j : Int) = (N : Int) - 1 := by omega
              have eP' : Pr = 1 := by rw [eP, hbJ, hbI]; simp [hiM, hjN]
              refine AW.seq fun _ k10 => ?_
              refine AW.seq fun _ k11 => AW.region [] Θ_ok ?_
              simp [wN]
              refine k11 _ ?_
              refine AW.cond false (by simp [Int.natCast_inj, hjI]) (fun h => by cases h) (fun _ => ?_)
              refine AW.skip ?_
              simp
              refine k10 _ ?_
              refine AW.region [] Θ_ok ?_
              simp [wj, mj, mj2, hn0]
              refine k8 _ ?_
              rw [eJ'] at wT2
              refine AW.seq fun _ kr => AW.region [] Θ_ok ?_
              simp [wIN, wT2]
              refine kr _ (AW.ret ?_)
              simp [Try.f57]
              exact Fin.refl ⟨by rw [eP']; rfl, rfl⟩
      · have hiI : ¬ (i : Int) = (M : Int) - 1 := by omega
        refine AW.seq fun _ k3 => ?_
        refine AW.seq fun _ k4 => AW.region [] Θ_ok ?_
        simp [wM]
        refine k4 _ ?_
        refine AW.cond false (by simp [Int.natCast_inj, hiI]) (fun h => by cases h) (fun _ => ?_)
        refine AW.skip ?_
        simp
        refine k3 _ ?_
        refine AW.region [] Θ_ok ?_
        simp [wi, mi, mi2, hM0']
        refine k1 _ ?_
        refine AW.seq fun _ k8 => ?_
        rcases xJ with h0 | ⟨h0, hl, hx⟩
        · have hbJ := zJ h0
          refine AW.seq fun _ k9 => AW.region [] Θ_ok ?_
          simp [h0]
          refine k9 _ ?_
          have eJ' : J = j' := by rw [eJ, hbJ]; rfl
          refine AW.cond true (by simp [Int.natCast_inj]) (fun _ => ?_) (fun h => by cases h)
          by_cases hjN : j = N - 1
          · have hjI : (j : Int) = (N : Int) - 1 := by omega
            have eP' : Pr = 2 := by rw [eP, hbJ]; simp [hjN]
            refine AW.seq fun _ k10 => ?_
            refine AW.seq fun _ k11 => AW.region [] Θ_ok ?_
            simp [wN]
            refine k11 _ ?_
            refine AW.cond true (by simp [Int.natCast_inj, hjI]) (fun _ => ?_) (fun h => by cases h)
            refine AW.region [] Θ_ok ?_
            simp
            refine k10 _ ?_
            refine AW.region [] Θ_ok ?_
            simp [wj, mj, mj2, hn0]
            refine k8 _ ?_
            rw [eJ'] at wT2
            refine AW.seq fun _ kr => AW.region [] Θ_ok ?_
            simp [wIN, wT2]
            refine kr _ (AW.ret ?_)
            simp [Try.f57]
            exact Fin.refl ⟨by rw [eP']; rfl, rfl⟩
          · have hjI : ¬ (j : Int) = (N : Int) - 1 := by omega
            have eP' : Pr = 0 := by rw [eP, hbJ, hbI]; simp [hiM, hjN]
            refine AW.seq fun _ k10 => ?_
            refine AW.seq fun _ k11 => AW.region [] Θ_ok ?_
            simp [wN]
            refine k11 _ ?_
            refine AW.cond false (by simp [Int.natCast_inj, hjI]) (fun h => by cases h) (fun _ => ?_)
            refine AW.skip ?_
            simp
            refine k10 _ ?_
            refine AW.region [] Θ_ok ?_
            simp [wj, mj, mj2, hn0]
            refine k8 _ ?_
            rw [eJ'] at wT2
            refine AW.seq fun _ kr => AW.region [] Θ_ok ?_
            simp [wIN, wT2]
            refine kr _ (AW.ret ?_)
            simp [Try.f57]
            exact Fin.refl ⟨by rw [eP']; rfl, rfl⟩
        · refine AW.seq fun _ k9 => AW.regionAt 10 [] Θ_ok fun B hB => ?_
          simp [h0, hl]
          refine (r9_Has E[j] v).use (by simp) ?_
          rw [← hx]
          refine hB _ ?_
          clear hB B
          simp [h0]
          refine k9 _ ?_
          cases hbJ : bJ
          · have eJ' : J = j := by rw [eJ, hbJ]; rfl
            have eP' : Pr = 0 := by rw [eP, hbJ, hbI]; first | rfl | simp [hiM]
            refine AW.cond false (by simp [Int.natCast_inj]) (fun h => by cases h) (fun _ => ?_)
            refine AW.skip ?_
            simp
            refine k8 _ ?_
            rw [eJ'] at wT2
            refine AW.seq fun _ kr => AW.region [] Θ_ok ?_
            simp [wIN, wT2]
            refine kr _ (AW.ret ?_)
            simp [Try.f57]
            exact Fin.refl ⟨by rw [eP']; rfl, rfl⟩
          · skip
            have eJ' : J = j' := by rw [eJ, hbJ]; rfl
            refine AW.cond true (by simp [Int.natCast_inj]) (fun _ => ?_) (fun h => by cases h)
            by_cases hjN : j = N - 1
            · have hjI : (j : Int) = (N : Int) - 1 := by omega
              have eP' : Pr = 2 := by rw [eP, hbJ]; simp [hjN]
              refine AW.seq fun _ k10 => ?_
              refine AW.seq fun _ k11 => AW.region [] Θ_ok ?_
              simp [wN]
              refine k11 _ ?_
              refine AW.cond true (by simp [Int.natCast_inj, hjI]) (fun _ => ?_) (fun h => by cases h)
              refine AW.region [] Θ_ok ?_
              simp
              refine k10 _ ?_
              refine AW.region [] Θ_ok ?_
              simp [wj, mj, mj2, hn0]
              refine k8 _ ?_
              rw [eJ'] at wT2
              refine AW.seq fun _ kr => AW.region [] Θ_ok ?_
              simp [wIN, wT2]
              refine kr _ (AW.ret ?_)
              simp [Try.f57]
              exact Fin.refl ⟨by rw [eP']; rfl, rfl⟩
            · have hjI : ¬ (j : Int) = (N : Int) - 1 := by omega
              have eP' : Pr = 0 := by rw [eP, hbJ, hbI]; simp [hiM, hjN]
              refine AW.seq fun _ k10 => ?_
              refine AW.seq fun _ k11 => AW.region [] Θ_ok ?_
              simp [wN]
              refine k11 _ ?_
              refine AW.cond false (by simp [Int.natCast_inj, hjI]) (fun h => by cases h) (fun _ => ?_)
              refine AW.skip ?_
              simp
              refine k10 _ ?_
              refine AW.region [] Θ_ok ?_
              simp [wj, mj, mj2, hn0]
              refine k8 _ ?_
              rw [eJ'] at wT2
              refine AW.seq fun _ kr => AW.region [] Θ_ok ?_
              simp [wIN, wT2]
              refine kr _ (AW.ret ?_)
              simp [Try.f57]
              exact Fin.refl ⟨by rw [eP']; rfl, rfl⟩
end Go.Par

set_option linter.unusedSimpArgs false
set_option maxRecDepth 8000
namespace Go.Par
open Go.Proofs

def longB (L : List (List Bool)) : Bool := L.any fun r => decide (300 < r.length)
def heavy18 (g : G) (A E : List (List Bool)) : Int :=
  if 0 < heavyE g then heavyE g else if 40 < g.owner.length ∨ 6 < A.length ∨ 6 < E.length then 1 else if longB A || longB E then 1 else 0

theorem l18_Heavy (g : G) (hf : g.fits) (A E : List (List Bool)) (hA : A.length ≤ 17592186044416) (hE : E.length ≤ 17592186044416) : Pure Try.prog 12 [g.av, .ro false (bools2 A), .ro false (bools2 E)] (.int .i64 (heavy18 g A E)) := by
  have eH : heavy18 g A E = if 0 < heavyE g then heavyE g else if 40 < g.owner.length ∨ 6 < A.length ∨ 6 < E.length then 1 else if longB A || longB E then 1 else 0 := rfl
  generalize heavy18 g A E = r at *
  intro h
  refine AC.body Θ_ok Try.func12 rfl rfl (Nat.le_of_ble_eq_true rfl) ?_
  refine AW.seq fun _ k1 => AW.region [] Θ_ok ?_
  simp
  refine k1 _ ?_
  refine AW.seq fun _ k1 => ?_
  refine AW.seq fun _ k2 => AW.region [] Θ_ok ?_
  simp
  refine (l9_Heavy g hf).use (by simp [G.av]) ?_
  refine k2 _ ?_
  refine AW.seq fun _ k2 => AW.region [] Θ_ok ?_
  simp
  refine k2 _ ?_
  by_cases c1 : 0 < heavyE g
  · refine AW.cond true (by simp [Int.natCast_inj, c1]) (fun _ => ?_) (fun h => by cases h)
    refine AW.seq fun _ kr => AW.region [] Θ_ok ?_
    simp
    refine kr _ (AW.ret ?_)
    simp [Try.f12]
    exact Fin.refl ⟨by rw [eH, if_pos c1], rfl⟩
  have c1' := Int.not_lt.1 c1
  refine AW.cond false (by simp [Int.natCast_inj, c1']) (fun h => by cases h) (fun _ => ?_)
  refine AW.skip ?_
  simp
  refine k1 _ ?_
  refine AW.seq fun _ k1 => ?_
  rw [if_neg c1] at eH
  by_cases c2 : (40 : Int) < (g.owner.length : Int)
  · refine AW.seq fun _ k2 => AW.region [] Θ_ok ?_
    simp [c2]
    refine k2 _ ?_
    refine AW.cond true (by simp [Int.natCast_inj]) (fun _ => ?_) (fun h => by cases h)
    refine AW.seq fun _ kr => AW.region [] Θ_ok ?_
    simp
    refine kr _ (AW.ret ?_)
    simp [Try.f12]
    exact Fin.refl ⟨by rw [eH, if_pos (.inl (by omega))], rfl⟩
  by_cases c3 : (6 : Int) < (A.length : Int)
  · refine AW.seq fun _ k2 => AW.region [] Θ_ok ?_
    simp [c2, Int.not_lt.1 c2, c3]
    refine k2 _ ?_
    refine AW.cond true (by simp [Int.natCast_inj]) (fun _ => ?_) (fun h => by cases h)
    refine AW.seq fun _ kr => AW.region [] Θ_ok ?_
    simp
    refine kr _ (AW.ret ?_)
    simp [Try.f12]
    exact Fin.refl ⟨by rw [eH, if_pos (.inr (.inl (by omega)))], rfl⟩
  by_cases c4 : (6 : Int) < (E.length : Int)
  · refine AW.seq fun _ k2 => AW.region [] Θ_ok ?_
    simp [c2, Int.not_lt.1 c2, c3, Int.not_lt.1 c3, c4]
    refine k2 _ ?_
    refine AW.cond true (by simp [Int.natCast_inj, c4]) (fun _ => ?_) (fun h => by cases h)
    refine AW.seq fun _ kr => AW.region [] Θ_ok ?_
    simp
    refine kr _ (AW.ret ?_)
    simp [Try.f12]
    exact Fin.refl ⟨by rw [eH, if_pos (.inr (.inr (by omega)))], rfl⟩
  have c4' := Int.not_lt.1 c4
  refine AW.seq fun _ k2 => AW.region [] Θ_ok ?_
  simp [c2, Int.not_lt.1 c2, c3, Int.not_lt.1 c3, c4, Int.not_lt.1 c4]
  refine k2 _ ?_
  refine AW.cond false (by simp [Int.natCast_inj, c4']) (fun h => by cases h) (fun _ => ?_)
  refine AW.skip ?_
  simp
  refine k1 _ ?_
  rw [if_neg (by omega)] at eH
  refine AW.seq fun _ k1 => ?_
  refine AW.seq fun _ k2 => AW.region [] Θ_ok ?_
  simp
  refine k2 _ ?_
  refine AW.block ?_
  refine AW.loopI (X := Nat) (fun x => x ≤ 2 ∧ (0 < x → longB A = false) ∧ (1 < x → longB E = false)) (fun x => ⟨48, [(34, .int .i64 x), (33, .agg [.ro false (bools2 A), .ro false (bools2 E)])], h⟩) (fun x => 2 - x) 0 ⟨Nat.zero_le _, fun q => by omega, fun q => by omega⟩ (GStep.eq (by simp) (subH.refl _)) ?_
  rintro x ⟨hx, hxA, hxE⟩
  refine AW.seq fun _ k2 => AW.region [] Θ_ok ?_
  simp
  refine k2 _ ?_
  by_cases hlt : x < 2
  · have inc := wrap_succ (show x < 9223372036854775807 by omega)
    have hltI : (x : Int) < 2 := by omega
    obtain ⟨L, hL, hd, hok, hbad⟩ : ∃ L : List (List Bool), L.length ≤ 17592186044416 ∧ (∃ t, List.drop x [AV.ro false (bools2 A), AV.ro false (bools2 E)] = .ro false (bools2 L) :: t) ∧ (longB L = false → (0 < x + 1 → longB A = false) ∧ (1 < x + 1 → longB E = false)) ∧ (longB L = true → (longB A || longB E) = true) := by
      rcases (show x = 0 ∨ x = 1 by omega) with rfl | rfl
      · exact ⟨A, hA, ⟨_, rfl⟩, fun h => ⟨fun _ => h, fun q => by omega⟩, fun h => by rw [h]; rfl⟩
      · exact ⟨E, hE, ⟨_, rfl⟩, fun h => ⟨fun _ => hxA (by omega), fun _ => h⟩, fun h => by rw [h, Bool.or_true]⟩
    obtain ⟨t, hd⟩ := hd
    refine AW.seq fun _ k2 => AW.cond true (by simp [Int.natCast_inj, hltI]) (fun _ => ?_) (fun h => by cases h)
    refine AW.skip ?_
    simp
    refine k2 _ ?_
    refine AW.seq fun _ k2 => ?_
    refine AW.block ?_
    refine AW.seq fun _ k3 => AW.region [] Θ_ok ?_
    simp [hltI, hlt, hd]
    refine k3 _ ?_
    refine AW.seq fun _ k3 => AW.region [] Θ_ok ?_
    simp
    refine k3 _ ?_
    refine AW.block ?_
    refine AW.loopI (X := Nat) (fun y => y ≤ L.length ∧ ∀ (i : Nat) (r : List Bool), i < y → L[i]? = some r → r.length ≤ 300) (fun y => ⟨48, [(39, .int .i64 y), (38, .int .i64 L.length), (37, .ro false (bools2 L)), (34, .int .i64 x), (33, .agg [.ro false (bools2 A), .ro false (bools2 E)])], h⟩) (fun y => L.length - y) 0 ⟨Nat.zero_le _, fun i _ q => by omega⟩ (GStep.eq (by simp) (subH.refl _)) ?_
    rintro y ⟨hy, hyo⟩
    refine AW.seq fun _ k3 => AW.region [] Θ_ok ?_
    simp
    refine k3 _ ?_
    by_cases hly : y < L.length
    · have incy := wrap_succ (show y < 9223372036854775807 by omega)
      refine AW.seq fun _ k3 => AW.cond true (by simp [Int.natCast_inj, hly]) (fun _ => ?_) (fun h => by cases h)
      refine AW.skip ?_
      simp
      refine k3 _ ?_
      refine AW.seq fun _ k3 => ?_
      refine AW.block ?_
      refine AW.seq fun _ k4 => AW.region [] Θ_ok ?_
      simp [hly]
      refine k4 _ ?_
      refine AW.seq fun _ k4 => AW.region [] Θ_ok ?_
      simp
      refine k4 _ ?_
      by_cases hb : (300 : Int) < (L[y].length : Int)
      · refine AW.cond true (by simp [Int.natCast_inj, hb]) (fun _ => ?_) (fun h => by cases h)
        refine AW.seq fun _ kr => AW.region [] Θ_ok ?_
        simp
        refine kr _ (AW.ret ?_)
        simp [Try.f12]
        have : longB L = true := List.any_eq_true.2 ⟨L[y], List.getElem_mem hly, by simp; omega⟩
        exact Fin.refl ⟨by rw [eH, hbad this]; rfl, rfl⟩
      have hb' := Int.not_lt.1 hb
      refine AW.cond false (by simp [Int.natCast_inj, hb']) (fun h => by cases h) (fun _ => ?_)
      refine AW.skip ?_
      simp
      refine k3 _ ?_
      refine AW.region [] Θ_ok ?_
      simp
      refine ⟨y + 1, ⟨by omega, fun i r hi hr => ?_⟩, by omega, GStep.eq (by simp [incy]) (subH.refl _)⟩
      by_cases e : i = y
      · subst e
        rw [List.getElem?_eq_getElem hly] at hr
        cases hr
        omega
      · exact hyo i r (by omega) hr
    · obtain rfl : y = L.length := by omega
      refine AW.seq fun _ k3 => AW.cond false (by simp [Int.natCast_inj]) (fun h => by cases h) (fun _ => ?_)
      refine AW.exit ?_
      simp
      refine k2 _ ?_
      have hl : longB L = false := by
        rw [← Bool.not_eq_true, longB, List.any_eq_true]
        rintro ⟨r, hr, hq⟩
        obtain ⟨i, hi⟩ := List.mem_iff_getElem?.1 hr
        have := hyo i r (List.getElem?_eq_some_iff.1 hi).1 hi
        simp at hq
        omega
      obtain ⟨q1, q2⟩ := hok hl
      refine AW.region [] Θ_ok ?_
      simp
      exact ⟨x + 1, ⟨by omega, q1, q2⟩, by omega, GStep.eq (by simp [inc]) (subH.refl _)⟩
  · obtain rfl : x = 2 := by omega
    refine AW.seq fun _ k2 => AW.cond false (by simp [Int.natCast_inj]) (fun h => by cases h) (fun _ => ?_)
    refine AW.exit ?_
    simp
    refine k1 _ ?_
    refine AW.seq fun _ kr => AW.region [] Θ_ok ?_
    simp
    refine kr _ (AW.ret ?_)
    simp [Try.f12]
    exact Fin.refl ⟨by rw [eH, hxA (by omega), hxE (by omega)]; rfl, rfl⟩
end Go.Par

set_option linter.unusedSimpArgs false
set_option maxRecDepth 8000
namespace Go.Par
open Go.Proofs

def cgOwn (g : G) (K i : Nat) : Int := g.owner.getD (i / K) 0
def cgRow (g : G) (A E : List (List Bool)) (K i : Nat) : List Int := (g.next.getD (i / K) []).map fun w => w * (K : Int) + (onThen A E (i / K) (i % K) : Nat)
def cgPrio (A E : List (List Bool)) (K i : Nat) : Int := (onPrio A E (i / K) (i % K) : Nat)
/-- The game with counters. -/
def cgG (g : G) (A E : List (List Bool)) : G :=
  ⟨tab (g.owner.length * memsN A.length E.length) (cgOwn g (memsN A.length E.length)), tab (g.owner.length * memsN A.length E.length) (cgRow g A E (memsN A.length E.length))⟩
def cgP (g : G) (A E : List (List Bool)) : List Int := tab (g.owner.length * memsN A.length E.length) (cgPrio A E (memsN A.length E.length))
def cgErr (g : G) (A E : List (List Bool)) : Int := if mayE g = 0 then (if memsN A.length E.length = 0 ∨ 3000 < memsN A.length E.length * g.owner.length then 7 else 0) else mayE g
def cgA (g : G) (A E : List (List Bool)) : AV :=
  if cgErr g A E = 0 then .tup [.agg [.ro false (ints (cgG g A E).owner), .ro false (rows (cgG g A E).next)], .ro false (ints (cgP g A E)), .int .i64 0] else .tup [.agg [.nils, .nils], .nils, .int .i64 (cgErr g A E)]

structure CX where
  a : Nat
  b : Nat
  c : Nat
  na : Bool
  nb : Bool
  nc : Bool
  x : Nat
  m : Nat

structure DX where
  d : Nat
  y : Nat
  nd : Bool

section
variable (g : G) (A E : List (List Bool)) (K q : Nat)
def cgO (n : Nat) (nn : Bool) : Ob := ⟨ints (tab n (cgOwn g K)), 3, 1, nn⟩
def cgN (n : Nat) (nn : Bool) : Ob := ⟨rows (tab n (cgRow g A E K)), 22, 1, nn⟩
def cgQ (n : Nat) (nn : Bool) : Ob := ⟨ints (tab n (cgPrio A E K)), 3, 1, nn⟩
def cgS (a b n : Nat) : Ob := ⟨[.mu a n, .mu b n], 25, 2, true⟩
def cgL (a b c n : Nat) (na nb nc : Bool) : List (Nat × Ob) := [(c, cgQ A E K n nc), (b, cgN g A E K n nb), (a, cgO g K n na), (q, cgS a b n)]
end

def cgD (row : List Int) (y K T : Nat) (nd : Bool) : Ob := ⟨ints ((row.take y).map fun w => w * (K : Int) + (T : Int)), 3, 1, nd⟩
theorem cgD_len {row : List Int} {y K T : Nat} {nd : Bool} (h : y ≤ row.length) : (cgD row y K T nd).cells.length = y := by simp [cgD]; omega
theorem cgD_snoc {row : List Int} {y K T : Nat} {nd : Bool} (h : y < row.length) : (⟨List.take y (cgD row y K T nd).cells ++ [.int .i64 (row[y] * (K : Int) + (T : Int))], 3, 1, true⟩ : Ob) = cgD row (y + 1) K T true := by
  have e : List.take y (cgD row y K T nd).cells = (cgD row y K T nd).cells := List.take_of_length_le (by rw [cgD_len (by omega)]; exact Nat.le_refl _)
  rw [e]
  simp only [cgD]
  rw [List.take_succ_eq_append_getElem h]
  simp only [ints, List.map_append, List.map_cons, List.map_nil]
theorem cgO_len {g : G} {K n : Nat} {nn : Bool} : (cgO g K n nn).cells.length = n := by simp [cgO]
theorem cgN_len {g : G} {A E : List (List Bool)} {K n : Nat} {nn : Bool} : (cgN g A E K n nn).cells.length = n := by simp [cgN]
theorem cgQ_len {A E : List (List Bool)} {K n : Nat} {nn : Bool} : (cgQ A E K n nn).cells.length = n := by simp [cgQ]
theorem cgO_snoc {g : G} {K n : Nat} {nn : Bool} {v : Int} (h : cgOwn g K n = v) : (⟨List.take n (cgO g K n nn).cells ++ [.int .i64 v], 3, 1, true⟩ : Ob) = cgO g K (n + 1) true := by
  have e : List.take n (cgO g K n nn).cells = (cgO g K n nn).cells := List.take_of_length_le (by rw [cgO_len]; exact Nat.le_refl _)
  rw [e, ← h]; simp [cgO, tab_succ]
theorem cgN_snoc {g : G} {A E : List (List Bool)} {K n : Nat} {nn : Bool} {v : List Int} (h : cgRow g A E K n = v) : (⟨List.take n (cgN g A E K n nn).cells ++ [.ro false (ints v)], 22, 1, true⟩ : Ob) = cgN g A E K (n + 1) true := by
  have e : List.take n (cgN g A E K n nn).cells = (cgN g A E K n nn).cells := List.take_of_length_le (by rw [cgN_len]; exact Nat.le_refl _)
  rw [e, ← h]; simp [cgN, tab_succ]
theorem cgQ_snoc {A E : List (List Bool)} {K n : Nat} {nn : Bool} {v : Int} (h : cgPrio A E K n = v) : (⟨List.take n (cgQ A E K n nn).cells ++ [.int .i64 v], 3, 1, true⟩ : Ob) = cgQ A E K (n + 1) true := by
  have e : List.take n (cgQ A E K n nn).cells = (cgQ A E K n nn).cells := List.take_of_length_le (by rw [cgQ_len]; exact Nat.le_refl _)
  rw [e, ← h]; simp [cgQ, tab_succ]

def L4 (c : Nat) (C : Ob) (b : Nat) (B : Ob) (a : Nat) (A' : Ob) (q : Nat) (S : Ob) : List (Nat × Ob) := [(c, C), (b, B), (a, A'), (q, S)]
def cgS2 (a n b m : Nat) : Ob := ⟨[.mu a n, .mu b m], 25, 2, true⟩

theorem cgS2_c (a n b m : Nat) : (cgS2 a n b m).cells = [.mu a n, .mu b m] := rfl

theorem ints_snoc (n : Nat) (f : Nat → Int) : ints (tab n f) ++ [.int .i64 (f n)] = ints (tab (n + 1) f) := by simp [tab_succ]
theorem rows_snoc (n : Nat) (f : Nat → List Int) : rows (tab n f) ++ [.ro false (ints (f n))] = rows (tab (n + 1) f) := by simp [tab_succ]

theorem divmod {x m K : Nat} (h : m < K) : (x * K + m) / K = x ∧ (x * K + m) % K = m := by
  constructor
  · rw [Nat.mul_comm, Nat.mul_add_div (by omega), Nat.div_eq_of_lt h, Nat.add_zero]
  · rw [Nat.mul_comm, Nat.mul_add_mod, Nat.mod_eq_of_lt h]

theorem rise_len' {g : G} (hm : mayE g = 0) {v : Nat} (hv : v < g.next.length) : g.next[v].length ≤ 3000 := by
  have h3 := (may_ok hm).1
  have := may_row hm (show v < g.owner.length by have := (may_ok hm).2.1; omega) hv
  have h4 := (may_ok hm).2.2 v (by have := (may_ok hm).2.1; omega)
  simp only [okV, Bool.and_eq_true, List.getD_eq_getElem?_getD, List.getElem?_eq_getElem hv, Option.getD_some] at h4
  have aux : ∀ {l : List Int} {was n : Int}, rise was l n = true → l = [] ∨ was + l.length < n := by
    intro l
    induction l with
    | nil => intro was n _; exact .inl rfl
    | cons v r ih =>
      intro was n h
      simp only [rise] at h
      split at h
      · cases h
      · right
        rcases ih h with rfl | q
        · simp; omega
        · simp only [List.length_cons]; omega
  rcases aux h4.2 with e | e
  · rw [e]; simp
  · omega

theorem counter_Game (g : G) (hf : g.fits) (A E : List (List Bool)) : Pure Try.prog 35 [g.av, .ro false (bools2 A), .ro false (bools2 E)] (cgA g A E) := by
  have hb := hf.owner
  intro h
  refine AC.body Θ_ok Try.func35 rfl rfl (Nat.le_of_ble_eq_true rfl) ?_
  refine AW.seq fun _ k1 => AW.region [6] Θ_ok ?_
  simp [newA]
  refine fun r hr => k1 _ ?_
  refine AW.seq fun _ k1 => ?_
  refine AW.seq fun _ k2 => AW.region [] Θ_ok ?_
  simp
  refine (graph_May g hf).use (by simp [G.av]) ?_
  refine k2 _ ?_
  refine AW.seq fun _ k2 => AW.region [] Θ_ok ?_
  simp
  refine k2 _ ?_
  by_cases hm : mayE g = 0
  · have hn := (may_ok hm).2.1
    have h3 := (may_ok hm).1
    have hle := memsN_le A.length E.length
    refine AW.cond false (by simp [Int.natCast_inj, hm]) (fun h => by cases h) (fun _ => ?_)
    refine AW.skip ?_
    simp
    refine k1 _ ?_
    refine AW.seq fun _ k1 => AW.region [] Θ_ok ?_
    simp
    refine (counter_Mems A E).use (by simp) ?_
    refine k1 _ ?_
    obtain ⟨K, hK⟩ : ∃ K, K = memsN A.length E.length := ⟨_, rfl⟩
    rw [← hK] at hle
    simp only [← hK]
    have hKn : K * g.owner.length ≤ 16 * 3000 := Nat.mul_le_mul hle h3
    have wKn := wrap_nat (show K * g.owner.length < 9223372036854775808 by omega)
    rw [Int.natCast_mul] at wKn
    refine AW.seq fun _ k1 => ?_
    by_cases c1 : K = 0
    · refine AW.seq fun _ k2 => AW.region [] Θ_ok ?_
      simp [c1]
      refine k2 _ ?_
      refine AW.cond true (by simp [Int.natCast_inj]) (fun _ => ?_) (fun h => by cases h)
      have : cgA g A E = .tup [.agg [.nils, .nils], .nils, .int .i64 7] := by
        have e : cgErr g A E = 7 := by simp [cgErr, hm, ← hK, c1]
        simp [cgA, e]
      rw [this]
      refine AW.seq fun _ kr => AW.region [] Θ_ok ?_
      simp [upd_same]
      refine kr _ (AW.ret ?_)
      simp [Try.f35, upd_same]
      exact ⟨_, h, GV.sub (subH_upd hr), rfl, rfl⟩
    by_cases c2 : (3000 : Int) < (K : Int) * (g.owner.length : Int)
    · refine AW.seq fun _ k2 => AW.region [] Θ_ok ?_
      simp [c1, wKn, c2]
      refine k2 _ ?_
      refine AW.cond true (by simp [Int.natCast_inj, c2]) (fun _ => ?_) (fun h => by cases h)
      have : cgA g A E = .tup [.agg [.nils, .nils], .nils, .int .i64 7] := by
        have e : cgErr g A E = 7 := by
          have : 3000 < K * g.owner.length := by rw [← Int.natCast_mul] at c2; omega
          rw [cgErr, if_pos hm, ← hK, if_pos (.inr this)]
        simp [cgA, e]
      rw [this]
      refine AW.seq fun _ kr => AW.region [] Θ_ok ?_
      simp [upd_same]
      refine kr _ (AW.ret ?_)
      simp [Try.f35, upd_same]
      exact ⟨_, h, GV.sub (subH_upd hr), rfl, rfl⟩
    have c2' := Int.not_lt.1 c2
    have hA4 : A.length ≤ 4 ∧ E.length ≤ 4 ∧ K = max 1 A.length * max 1 E.length := by
      rw [hK, memsN] at c1
      split at c1
      · exact absurd rfl c1
      · exact ⟨by omega, by omega, by rw [hK, memsN, if_neg (by assumption)]⟩
    obtain ⟨hA, hE, hKe⟩ := hA4
    have hErr : cgErr g A E = 0 := by
      rw [cgErr, if_pos hm, ← hK, if_neg]
      rintro (e | e)
      · exact c1 e
      · rw [← Int.natCast_mul] at c2'; omega
    have hKN : K * g.owner.length ≤ 3000 := by rw [← Int.natCast_mul] at c2'; omega
    have hfin : cgA g A E = .tup [.agg [.ro false (ints (tab (g.owner.length * K) (cgOwn g K))), .ro false (rows (tab (g.owner.length * K) (cgRow g A E K)))], .ro false (ints (tab (g.owner.length * K) (cgPrio A E K))), .int .i64 0] := by simp only [cgA, if_pos hErr, cgG, cgP, ← hK]
    clear hErr
    refine AW.seq fun _ k2 => AW.region [] Θ_ok ?_
    simp [c1, wKn, c2, c2']
    refine k2 _ ?_
    refine AW.cond false (by simp [Int.natCast_inj, c2']) (fun h => by cases h) (fun _ => ?_)
    refine AW.skip ?_
    simp
    refine k1 _ ?_
    refine AW.seq fun _ k1 => AW.region [11] Θ_ok ?_
    simp [newA]
    refine fun q hq => k1 _ ?_
    obtain ⟨H0, hH0⟩ : ∃ H0, H0 = upd h r (some ⟨[.nils, .nils], 25, 2, true⟩) := ⟨_, rfl⟩
    have hr0 : H0 r = some ⟨[.nils, .nils], 25, 2, true⟩ := by rw [hH0, upd_same]
    rw [← hH0] at hq ⊢
    refine AW.mineCell q 0 ⟨[.nils, .nils], 25, 2, true⟩ 3 1 (upd_same _ _ _) rfl fun a ha => ?_
    simp only [upd_upd, List.set_cons_zero] at ha ⊢
    have N1 : HN H0 [q] := ⟨by simp, fun o ho => by simp at ho; subst ho; exact hq⟩
    have N2 : HN H0 [a, q] := HL.new (l := [(q, _)]) N1 ha
    have haq : a ≠ q := by have := N2.nd; simp at this; exact this
    refine AW.mineCell q 1 ⟨[.mu a 0, .nils], 25, 2, true⟩ 22 1 (by dsimp only; rw [upd_ne _ _ (Ne.symm haq), upd_same]) rfl fun b hb => ?_
    simp only [List.set_cons_succ, List.set_cons_zero] at hb ⊢
    have hcm : ∀ X Y Z, upd (upd (upd H0 q X) a Y) q Z = upd (upd H0 q Z) a Y := fun X Y Z => by rw [upd_comm _ _ _ haq, upd_upd]
    rw [hcm]
    have N3 : HN H0 [b, a, q] := HL.new (l := [(a, _), (q, _)]) N2 hb
    refine AW.seq fun _ k1 => AW.region [] Θ_ok ?_
    simp
    refine k1 _ ?_
    refine AW.mine 12 3 1 rfl fun c hc => ?_
    simp only at hc ⊢
    have N4 : HN H0 [c, b, a, q] := HL.new (l := [(b, _), (a, _), (q, _)]) N3 hc
    have hst : upd (upd (upd (upd H0 q (some ⟨[.mu a 0, .mu b 0], 25, 2, true⟩)) a (some ⟨[], 3, 1, false⟩)) b (some ⟨[], 22, 1, false⟩)) c (some ⟨[], 3, 1, false⟩) = HL H0 (cgL g A E K q a b c 0 false false false) := rfl
    rw [hst]
    clear hst N1 N2 N3 ha hb hc haq
    refine AW.seq fun _ k1 => ?_
    refine AW.seq fun _ k2 => AW.region [] Θ_ok ?_
    simp
    refine k2 _ ?_
    refine AW.block ?_
    refine AW.loopI (X := CX) (fun s => HN H0 [s.c, s.b, s.a, q] ∧ s.x ≤ g.owner.length) (fun s => ⟨100, [(44, .int .i64 s.x), (43, .int .i64 g.owner.length), (42, .ro false (ints g.owner)), (12, .mu s.c (s.x * K)), (1, .ro false (bools2 A)), (2, .ro false (bools2 E)), (3, .rop [.ro false (ints g.owner), .ro false (rows g.next)]), (6, .ptr r 0), (10, .int .i64 K), (11, .ptr q 0)],
      HL H0 (cgL g A E K q s.a s.b s.c (s.x * K) s.na s.nb s.nc)⟩) (fun s => g.owner.length - s.x) ⟨a, b, c, false, false, false, 0, 0⟩ ⟨N4, Nat.zero_le _⟩ (GStep.eq (by simp) (by simp; exact subH.refl _)) ?_
    clear N4
    rintro ⟨a, b, c, na, nb, nc, x, _⟩ ⟨N, hx⟩
    simp only at N hx ⊢
    refine AW.seq fun _ k2 => AW.region [] Θ_ok ?_
    simp
    refine k2 _ ?_
    by_cases hlt : x < g.owner.length
    · have inc := wrap_succ (show x < 9223372036854775807 by omega)
      have hv' : x < g.next.length := by omega
      refine AW.seq fun _ k2 => AW.cond true (by simp [Int.natCast_inj, hlt]) (fun _ => ?_) (fun h => by cases h)
      refine AW.skip ?_
      simp
      refine k2 _ ?_
      refine AW.seq fun _ k2 => ?_
      refine AW.block ?_
      refine AW.seq fun _ k3 => AW.region [] Θ_ok ?_
      simp [hlt]
      refine k3 _ ?_
      refine AW.seq fun _ k3 => AW.region [] Θ_ok ?_
      simp
      refine k3 _ ?_
      refine AW.block ?_
      refine AW.loopI (X := CX) (fun s => HN H0 [s.c, s.b, s.a, q] ∧ s.m ≤ K) (fun s => ⟨100, [(50, .int .i64 s.m), (49, .int .i64 K), (13, .int .i64 x), (14, .int .i64 g.owner[x]), (44, .int .i64 x), (43, .int .i64 g.owner.length), (42, .ro false (ints g.owner)), (12, .mu s.c (x * K + s.m)), (1, .ro false (bools2 A)), (2, .ro false (bools2 E)), (3, .rop [.ro false (ints g.owner), .ro false (rows g.next)]), (6, .ptr r 0), (10, .int .i64 K), (11, .ptr q 0)],
        HL H0 (cgL g A E K q s.a s.b s.c (x * K + s.m) s.na s.nb s.nc)⟩) (fun s => K - s.m) ⟨a, b, c, na, nb, nc, 0, 0⟩ ⟨N, Nat.zero_le _⟩ (GStep.eq (by simp) (by simp; exact subH.refl _)) ?_
      clear N a b c na nb nc
      rintro ⟨a, b, c, na, nb, nc, _, m⟩ ⟨N, hmK⟩
      simp only at N hmK ⊢
      refine AW.seq fun _ k3 => AW.region [] Θ_ok ?_
      simp
      refine k3 _ ?_
      by_cases hlm : m < K
      · have incm := wrap_succ (show m < 9223372036854775807 by omega)
        obtain ⟨d1, d2⟩ := divmod (x := x) hlm
        have hn3 : x * K + m < 3000 := by
          have : (x + 1) * K ≤ g.owner.length * K := Nat.mul_le_mul_right _ hlt
          rw [Nat.add_mul, Nat.one_mul, Nat.mul_comm g.owner.length] at this
          omega
        have son := counter_on A E hA hE x m (by omega)
        have hT := onThen_lt A E x m (by omega)
        refine AW.seq fun _ k3 => AW.cond true (by simp [Int.natCast_inj, hlm]) (fun _ => ?_) (fun h => by cases h)
        refine AW.skip ?_
        simp
        refine k3 _ ?_
        refine AW.seq fun _ k3 => ?_
        refine AW.block ?_
        refine AW.seq fun _ k4 => AW.region [] Θ_ok ?_
        simp
        refine k4 _ ?_
        refine AW.seq fun _ k4 => AW.region [] Θ_ok ?_
        simp
        refine son.use (by simp) ?_
        refine k4 _ ?_
        obtain ⟨T, hTe⟩ : ∃ T, T = onThen A E x m := ⟨_, rfl⟩
        obtain ⟨Pr, hPe⟩ : ∃ Pr, Pr = onPrio A E x m := ⟨_, rfl⟩
        simp only [← hTe, ← hPe] at hT ⊢
        obtain ⟨n, hne⟩ : ∃ n, n = x * K + m := ⟨_, rfl⟩
        simp only [← hne] at hn3 ⊢
        have hT16 : T < 16 := by omega
        have hrow : cgRow g A E K n = g.next[x].map fun w => w * (K : Int) + (T : Int) := by
          simp only [cgRow, hne, d1, d2, hTe, List.getD_eq_getElem?_getD, List.getElem?_eq_getElem hv', Option.getD_some]
        have hown : cgOwn g K n = g.owner[x] := by
          simp only [cgOwn, hne, d1, List.getD_eq_getElem?_getD, List.getElem?_eq_getElem hlt, Option.getD_some]
        have hpri : cgPrio A E K n = (Pr : Int) := by simp only [cgPrio, hne, d1, d2, hPe]
        have hlr := hf.row _ (List.getElem_mem hv')
        have hrl := rise_len' hm hv'
        obtain ⟨_, hrw⟩ := may_row hm hlt hv'
        refine AW.seq fun _ k4 => AW.region [] Θ_ok ?_
        simp
        refine k4 _ ?_
        refine AW.mine 18 3 1 rfl fun d hd => ?_
        simp only at hd ⊢
        have Nd : HN H0 [d, c, b, a, q] := HL.new (l := cgL g A E K q a b c n na nb nc) N hd
        have hst : upd (HL H0 (cgL g A E K q a b c n na nb nc)) d (some ⟨[], 3, 1, false⟩) = HL H0 ((d, cgD g.next[x] 0 K T false) :: cgL g A E K q a b c n na nb nc) := rfl
        rw [hst]
        clear hst hd
        refine AW.seq fun _ k4 => ?_
        refine AW.seq fun _ k5 => AW.region [] Θ_ok ?_
        simp [hv']
        refine k5 _ ?_
        refine AW.block ?_
        refine AW.loopI (X := DX) (fun s => HN H0 [s.d, c, b, a, q] ∧ s.y ≤ g.next[x].length) (fun s => ⟨100, [(67, .int .i64 s.y), (66, .int .i64 g.next[x].length), (65, .ro false (ints g.next[x])), (18, .mu s.d s.y), (16, .int .i64 T), (17, .int .i64 Pr), (50, .int .i64 m), (49, .int .i64 K), (13, .int .i64 x), (14, .int .i64 g.owner[x]), (44, .int .i64 x), (43, .int .i64 g.owner.length), (42, .ro false (ints g.owner)), (12, .mu c n), (1, .ro false (bools2 A)), (2, .ro false (bools2 E)), (3, .rop [.ro false (ints g.owner), .ro false (rows g.next)]), (6, .ptr r 0), (10, .int .i64 K), (11, .ptr q 0)],
          HL H0 ((s.d, cgD g.next[x] s.y K T s.nd) :: cgL g A E K q a b c n na nb nc)⟩) (fun s => g.next[x].length - s.y) ⟨d, 0, false⟩ ⟨Nd, Nat.zero_le _⟩ (GStep.eq (by simp) (subH.refl _)) ?_
        clear Nd d
        rintro ⟨d, y, nd⟩ ⟨Nd, hy⟩
        simp only at Nd hy ⊢
        refine AW.seq fun _ k5 => AW.region [] Θ_ok ?_
        simp
        refine k5 _ ?_
        by_cases hly : y < g.next[x].length
        · have incy := wrap_succ (show y < 9223372036854775807 by omega)
          obtain ⟨w0, w1⟩ := hrw _ (List.getElem_mem hly)
          have b1 : g.next[x][y] * (K : Int) ≤ 3000 * 16 := Int.le_trans (Int.mul_le_mul_of_nonneg_right (show g.next[x][y] ≤ 3000 by omega) (by omega)) (Int.mul_le_mul_of_nonneg_left (by omega) (by omega))
          have b0 : 0 ≤ g.next[x][y] * (K : Int) := Int.mul_nonneg w0 (by omega)
          have ww1 : IntKind.i64.wrap (g.next[x][y] * (K : Int)) = g.next[x][y] * (K : Int) := wrap_id (by omega) (by omega)
          have ww2 : IntKind.i64.wrap (g.next[x][y] * (K : Int) + (T : Int)) = g.next[x][y] * (K : Int) + (T : Int) := wrap_id (by omega) (by omega)
          have hD := HL.at (h0 := H0) (l := (d, cgD g.next[x] y K T nd) :: cgL g A E K q a b c n na nb nc) (k := 0) Nd.nd rfl
          refine AW.seq fun _ k5 => AW.cond true (by simp [Int.natCast_inj, hly]) (fun _ => ?_) (fun h => by cases h)
          refine AW.skip ?_
          simp
          refine k5 _ ?_
          refine AW.seq fun _ k5 => ?_
          refine AW.block ?_
          refine AW.seq fun _ k6 => AW.region [] Θ_ok ?_
          simp [hly]
          refine k6 _ ?_
          refine AW.region [] Θ_ok ?_
          simp [hD, appendA, ww1, ww2]
          refine ⟨rfl, ⟨rfl, rfl, by rw [cgD_len hy]; exact Nat.le_refl _, by omega, by omega⟩, fun d' hd' => k5 _ ?_⟩
          obtain ⟨he, Nd'⟩ := HL.ren (A' := cgD g.next[x] (y + 1) K T true) (k := 0) Nd rfl hd'
          rw [cgD_snoc hly, he]
          refine AW.region [] Θ_ok ?_
          simp
          exact ⟨⟨d', y + 1, true⟩, ⟨Nd', hly⟩, by simp only; omega, GStep.eq (by simp [incy]) (subH.refl _)⟩
        · obtain rfl : y = g.next[x].length := by omega
          refine AW.seq fun _ k5 => AW.cond false (by simp [Int.natCast_inj]) (fun h => by cases h) (fun _ => ?_)
          refine AW.exit ?_
          simp
          refine k4 _ ?_
          have hD := HL.at (h0 := H0) (l := (d, cgD g.next[x] g.next[x].length K T nd) :: cgL g A E K q a b c n na nb nc) (k := 0) Nd.nd rfl
          have hDel := HL.del (l := (d, cgD g.next[x] g.next[x].length K T nd) :: cgL g A E K q a b c n na nb nc) (k := 0) Nd rfl
          refine AW.freeze 18 false rfl hD (fun e => by cases e) rfl (cgD_len (Nat.le_refl _)) (fun u hu => ?_) ?_
          · simp only [cgD, List.mem_map] at hu; obtain ⟨_, _, rfl⟩ := hu; rfl
          simp only [hDel, List.eraseIdx_cons_zero]
          obtain ⟨row, hrow'⟩ : ∃ row, row = g.next[x].map fun w => w * (K : Int) + (T : Int) := ⟨_, rfl⟩
          rw [← hrow'] at hrow
          have hdc : (cgD g.next[x] g.next[x].length K T nd).cells = ints row := by rw [hrow']; simp [cgD]
          rw [hdc]
          clear hD hDel hdc Nd hy hly
          have hL0 : cgL g A E K q a b c n na nb nc = L4 c (cgQ A E K n nc) b (cgN g A E K n nb) a (cgO g K n na) q (cgS2 a n b n) := rfl
          rw [hL0]
          have hQ := HL.at (h0 := H0) (l := L4 c (cgQ A E K n nc) b (cgN g A E K n nb) a (cgO g K n na) q (cgS2 a n b n)) (k := 3) N.nd rfl
          have hO := HL.at (h0 := H0) (l := L4 c (cgQ A E K n nc) b (cgN g A E K n nb) a (cgO g K n na) q (cgS2 a n b n)) (k := 2) N.nd rfl
          refine AW.seq fun _ k4 => AW.region [] Θ_ok ?_
          simp [hQ, hO, cgS2_c, appendA]
          refine ⟨rfl, ⟨⟨rfl, rfl, by rw [cgO_len]; exact Nat.le_refl _, by omega, by omega⟩, fun a' ha' => ?_⟩⟩
          obtain ⟨he, N1⟩ := HL.ren (A' := cgO g K (n + 1) true) (k := 2) N rfl ha'
          rw [cgO_snoc hown, he]
          replace N1 : HN H0 [c, b, a', q] := N1
          have hQ1 := HL.at (h0 := H0) (l := L4 c (cgQ A E K n nc) b (cgN g A E K n nb) a' (cgO g K (n + 1) true) q (cgS2 a n b n)) (k := 3) N1.nd rfl
          have hP1 : upd _ q (some (cgS2 a' (n + 1) b n)) = _ := HL.put (h0 := H0) (l := L4 c (cgQ A E K n nc) b (cgN g A E K n nb) a' (cgO g K (n + 1) true) q (cgS2 a n b n)) (k := 3) N1.nd rfl
          have hs1 : (L4 c (cgQ A E K n nc) b (cgN g A E K n nb) a (cgO g K n na) q (cgS2 a n b n)).set 2 (a', cgO g K (n + 1) true) = L4 c (cgQ A E K n nc) b (cgN g A E K n nb) a' (cgO g K (n + 1) true) q (cgS2 a n b n) := rfl
          rw [hs1, hQ1]
          simp [cgS2_c]
          have ht1 : (⟨[.mu a' (n + 1), .mu b n], (cgS2 a n b n).ty, (cgS2 a n b n).sz, (cgS2 a n b n).nn⟩ : Ob) = cgS2 a' (n + 1) b n := rfl
          rw [ht1, hP1]
          refine k4 _ ?_
          replace N1 : HN H0 [c, b, a', q] := N1
          have hs2 : (L4 c (cgQ A E K n nc) b (cgN g A E K n nb) a' (cgO g K (n + 1) true) q (cgS2 a n b n)).set 3 (q, cgS2 a' (n + 1) b n) = L4 c (cgQ A E K n nc) b (cgN g A E K n nb) a' (cgO g K (n + 1) true) q (cgS2 a' (n + 1) b n) := rfl
          rw [hs2]
          clear hQ hO hQ1 hP1 hs1 hs2 ht1 he ha' N
          have hQ := HL.at (h0 := H0) (l := L4 c (cgQ A E K n nc) b (cgN g A E K n nb) a' (cgO g K (n + 1) true) q (cgS2 a' (n + 1) b n)) (k := 3) N1.nd rfl
          have hB := HL.at (h0 := H0) (l := L4 c (cgQ A E K n nc) b (cgN g A E K n nb) a' (cgO g K (n + 1) true) q (cgS2 a' (n + 1) b n)) (k := 1) N1.nd rfl
          refine AW.seq fun _ k4 => AW.region [] Θ_ok ?_
          simp [hQ, hB, cgS2_c, appendA]
          refine ⟨rfl, ⟨⟨rfl, rfl, by rw [cgN_len]; exact Nat.le_refl _, by omega, by omega⟩, fun b' hb' => ?_⟩⟩
          obtain ⟨he, N2⟩ := HL.ren (A' := cgN g A E K (n + 1) true) (k := 1) N1 rfl hb'
          rw [cgN_snoc hrow, he]
          replace N2 : HN H0 [c, b', a', q] := N2
          have hQ1 := HL.at (h0 := H0) (l := L4 c (cgQ A E K n nc) b' (cgN g A E K (n + 1) true) a' (cgO g K (n + 1) true) q (cgS2 a' (n + 1) b n)) (k := 3) N2.nd rfl
          have hP1 : upd _ q (some (cgS2 a' (n + 1) b' (n + 1))) = _ := HL.put (h0 := H0) (l := L4 c (cgQ A E K n nc) b' (cgN g A E K (n + 1) true) a' (cgO g K (n + 1) true) q (cgS2 a' (n + 1) b n)) (k := 3) N2.nd rfl
          have hs1 : (L4 c (cgQ A E K n nc) b (cgN g A E K n nb) a' (cgO g K (n + 1) true) q (cgS2 a' (n + 1) b n)).set 1 (b', cgN g A E K (n + 1) true) = L4 c (cgQ A E K n nc) b' (cgN g A E K (n + 1) true) a' (cgO g K (n + 1) true) q (cgS2 a' (n + 1) b n) := rfl
          rw [hs1, hQ1]
          simp [cgS2_c]
          have ht1 : (⟨[.mu a' (n + 1), .mu b' (n + 1)], (cgS2 a' (n + 1) b n).ty, (cgS2 a' (n + 1) b n).sz, (cgS2 a' (n + 1) b n).nn⟩ : Ob) = cgS2 a' (n + 1) b' (n + 1) := rfl
          rw [ht1, hP1]
          refine k4 _ ?_
          have hs2 : (L4 c (cgQ A E K n nc) b' (cgN g A E K (n + 1) true) a' (cgO g K (n + 1) true) q (cgS2 a' (n + 1) b n)).set 3 (q, cgS2 a' (n + 1) b' (n + 1)) = L4 c (cgQ A E K n nc) b' (cgN g A E K (n + 1) true) a' (cgO g K (n + 1) true) q (cgS2 a' (n + 1) b' (n + 1)) := rfl
          rw [hs2]
          clear hQ hB hQ1 hP1 hs1 hs2 ht1 he hb' N1
          have hC := HL.at (h0 := H0) (l := L4 c (cgQ A E K n nc) b' (cgN g A E K (n + 1) true) a' (cgO g K (n + 1) true) q (cgS2 a' (n + 1) b' (n + 1))) (k := 0) N2.nd rfl
          refine AW.region [] Θ_ok ?_
          simp [hC, appendA]
          refine ⟨rfl, ⟨⟨rfl, rfl, by rw [cgQ_len]; exact Nat.le_refl _, by omega, by omega⟩, fun c' hc' => ?_⟩⟩
          obtain ⟨he, N3⟩ := HL.ren (A' := cgQ A E K (n + 1) true) (k := 0) N2 rfl hc'
          rw [cgQ_snoc hpri, he]
          refine k3 _ ?_
          refine AW.region [] Θ_ok ?_
          simp
          exact ⟨⟨a', b', c', true, true, true, 0, m + 1⟩, ⟨N3, hlm⟩, by simp only; omega, GStep.eq (by simp [incm, hne, Nat.add_assoc]) (by rw [hne]; exact subH.refl _)⟩
      · obtain rfl : m = K := by omega
        refine AW.seq fun _ k3 => AW.cond false (by simp [Int.natCast_inj]) (fun h => by cases h) (fun _ => ?_)
        refine AW.exit ?_
        simp
        refine k2 _ ?_
        rw [← Nat.succ_mul]
        refine AW.region [] Θ_ok ?_
        simp
        exact ⟨⟨a, b, c, na, nb, nc, x + 1, 0⟩, ⟨N, hlt⟩, by simp only; omega, GStep.eq (by simp [inc]) (subH.refl _)⟩
    obtain rfl : x = g.owner.length := by omega
    refine AW.seq fun _ k2 => AW.cond false (by simp [Int.natCast_inj]) (fun h => by cases h) (fun _ => ?_)
    refine AW.exit ?_
    simp
    refine k1 _ ?_
    obtain ⟨n, hne⟩ : ∃ n, n = g.owner.length * K := ⟨_, rfl⟩
    simp only [← hne]
    have hL0 : cgL g A E K q a b c n na nb nc = L4 c (cgQ A E K n nc) b (cgN g A E K n nb) a (cgO g K n na) q (cgS2 a n b n) := rfl
    rw [hL0]
    have hQ := HL.at (h0 := H0) (l := L4 c (cgQ A E K n nc) b (cgN g A E K n nb) a (cgO g K n na) q (cgS2 a n b n)) (k := 3) N.nd rfl
    have hO := HL.at (h0 := H0) (l := L4 c (cgQ A E K n nc) b (cgN g A E K n nb) a (cgO g K n na) q (cgS2 a n b n)) (k := 2) N.nd rfl
    have o1 : ∀ u ∈ (cgO g K n na).cells, u.flat = [u] := fun u hu => by simp only [cgO, List.mem_map] at hu; obtain ⟨_, _, rfl⟩ := hu; rfl
    have o2 : ∀ u ∈ (cgN g A E K n nb).cells, u.flat = [u] := fun u hu => by simp only [cgN, List.mem_map] at hu; obtain ⟨_, _, rfl⟩ := hu; rfl
    have o3 : ∀ u ∈ (cgQ A E K n nc).cells, u.flat = [u] := fun u hu => by simp only [cgQ, List.mem_map] at hu; obtain ⟨_, _, rfl⟩ := hu; rfl
    have hd1 := HL.del (l := L4 c (cgQ A E K n nc) b (cgN g A E K n nb) a (cgO g K n na) q (cgS2 a n b n)) (k := 2) N rfl
    have N1 : HN H0 [c, b, q] := N.del 2
    have hQ1 := HL.at (h0 := H0) (l := [(c, cgQ A E K n nc), (b, cgN g A E K n nb), (q, cgS2 a n b n)]) (k := 2) N1.nd rfl
    refine AW.ghost (GStep.cell (j := 0) (v := .mu a n) (r := .ro false (ints (tab n (cgOwn g K)))) hQ rfl (GV.freeze (k := false) hO (fun e => by cases e) (by simp) (fun y hy => by rw [o1 y hy]; rfl) (by rw [flat_ints]; simp [cgO, List.take_of_length_le])) (by rw [hd1]; exact hQ1) (by simp [cgS2_c])) ?_
    rw [hd1]
    have hP1 : upd _ q (some (⟨[.ro false (ints (tab n (cgOwn g K))), .mu b n], 25, 2, true⟩)) = _ := HL.put (h0 := H0) (l := [(c, cgQ A E K n nc), (b, cgN g A E K n nb), (q, cgS2 a n b n)]) (k := 2) N1.nd rfl
    have ht1 : (⟨(cgS2 a n b n).cells.set 0 (.ro false (ints (tab n (cgOwn g K)))), (cgS2 a n b n).ty, (cgS2 a n b n).sz, (cgS2 a n b n).nn⟩ : Ob) = ⟨[.ro false (ints (tab n (cgOwn g K))), .mu b n], 25, 2, true⟩ := rfl
    have hs1 : (L4 c (cgQ A E K n nc) b (cgN g A E K n nb) a (cgO g K n na) q (cgS2 a n b n)).eraseIdx 2 = [(c, cgQ A E K n nc), (b, cgN g A E K n nb), (q, cgS2 a n b n)] := rfl
    rw [ht1, hs1, hP1]
    simp only [List.set_cons_succ, List.set_cons_zero]
    clear hQ hO hd1 hQ1 hP1 ht1 hs1 o1 N
    have hQ := HL.at (h0 := H0) (l := [(c, cgQ A E K n nc), (b, cgN g A E K n nb), (q, ⟨[.ro false (ints (tab n (cgOwn g K))), .mu b n], 25, 2, true⟩)]) (k := 2) N1.nd rfl
    have hB := HL.at (h0 := H0) (l := [(c, cgQ A E K n nc), (b, cgN g A E K n nb), (q, ⟨[.ro false (ints (tab n (cgOwn g K))), .mu b n], 25, 2, true⟩)]) (k := 1) N1.nd rfl
    have hd1 := HL.del (l := [(c, cgQ A E K n nc), (b, cgN g A E K n nb), (q, ⟨[.ro false (ints (tab n (cgOwn g K))), .mu b n], 25, 2, true⟩)]) (k := 1) N1 rfl
    have N2 : HN H0 [c, q] := N1.del 1
    have hQ1 := HL.at (h0 := H0) (l := [(c, cgQ A E K n nc), (q, ⟨[.ro false (ints (tab n (cgOwn g K))), .mu b n], 25, 2, true⟩)]) (k := 1) N2.nd rfl
    refine AW.ghost (GStep.cell (j := 1) (v := .mu b n) (r := .ro false (rows (tab n (cgRow g A E K)))) hQ rfl (GV.freeze (k := false) hB (fun e => by cases e) (by simp) (fun y hy => by rw [o2 y hy]; rfl) (by rw [flat_rows]; simp [cgN, List.take_of_length_le])) (by rw [hd1]; exact hQ1) (by simp)) ?_
    rw [hd1]
    have hP1 : upd _ q (some (⟨[.ro false (ints (tab n (cgOwn g K))), .ro false (rows (tab n (cgRow g A E K)))], 25, 2, true⟩)) = _ := HL.put (h0 := H0) (l := [(c, cgQ A E K n nc), (q, ⟨[.ro false (ints (tab n (cgOwn g K))), .mu b n], 25, 2, true⟩)]) (k := 1) N2.nd rfl
    simp only [List.eraseIdx_cons_succ, List.eraseIdx_cons_zero, List.set_cons_succ, List.set_cons_zero]
    rw [hP1]
    simp only [List.set_cons_succ, List.set_cons_zero]
    clear hQ hB hd1 hQ1 hP1 o2 N1
    obtain ⟨OL, hOL⟩ : ∃ OL, OL = ints (tab n (cgOwn g K)) := ⟨_, rfl⟩
    obtain ⟨RL, hRL⟩ : ∃ RL, RL = rows (tab n (cgRow g A E K)) := ⟨_, rfl⟩
    rw [← hOL, ← hRL]
    have hC := HL.at (h0 := H0) (l := [(c, cgQ A E K n nc), (q, ⟨[.ro false OL, .ro false RL], 25, 2, true⟩)]) (k := 0) N2.nd rfl
    have hd1 := HL.del (l := [(c, cgQ A E K n nc), (q, ⟨[.ro false OL, .ro false RL], 25, 2, true⟩)]) (k := 0) N2 rfl
    refine AW.freeze 12 false rfl hC (fun e => by cases e) rfl cgQ_len o3 ?_
    simp only [hd1, List.eraseIdx_cons_zero]
    have hq0 : H0 q = none := N2.free q (by simp)
    have hrq : r ≠ q := by rintro rfl; rw [hr0] at hq0; cases hq0
    have hPL : (cgQ A E K n nc).cells = ints (tab n (cgPrio A E K)) := rfl
    obtain ⟨PL, hPL'⟩ : ∃ PL, PL = ints (tab n (cgPrio A E K)) := ⟨_, rfl⟩
    rw [hPL, ← hPL']
    refine AW.seq fun _ kr => AW.region [] Θ_ok ?_
    simp [HL, upd_at, hrq, hr0]
    refine kr _ (AW.ret ?_)
    simp [Try.f35, upd_at]
    refine ⟨_, h, GV.sub (fun z X hz => ?_), by rw [hOL, hRL, hPL', hne]; exact hfin.symm, rfl⟩
    have z1 : z ≠ r := by rintro rfl; rw [hr] at hz; cases hz
    have z2 : H0 z = some X := by rw [hH0, upd_ne _ _ z1]; exact hz
    have z3 : z ≠ q := by rintro rfl; rw [hq0] at z2; cases z2
    rw [upd_ne _ _ z1, upd_ne _ _ z3]
    exact z2
  · refine AW.cond true (by simp [Int.natCast_inj, hm]) (fun _ => ?_) (fun h => by cases h)
    have : cgA g A E = .tup [.agg [.nils, .nils], .nils, .int .i64 (mayE g)] := by
      have e : cgErr g A E = mayE g := by simp [cgErr, hm]
      simp [cgA, e, hm]
    rw [this]
    refine AW.seq fun _ kr => AW.region [] Θ_ok ?_
    simp [upd_same]
    refine kr _ (AW.ret ?_)
    simp [Try.f35, upd_same]
    exact ⟨_, h, GV.sub (subH_upd hr), rfl, rfl⟩
end Go.Par

set_option linter.unusedSimpArgs false
set_option maxRecDepth 8000
namespace Go.Par
open Go.Proofs

theorem r9_Counter (g : G) (hf : g.fits) (A E : List (List Bool)) : Pure Try.prog 26 [g.av, .ro false (bools2 A), .ro false (bools2 E)] (cgA g A E) := by
  have hb := hf.owner
  intro h
  refine AC.body Θ_ok Try.func26 rfl rfl (Nat.le_of_ble_eq_true rfl) ?_
  refine AW.seq fun _ k1 => AW.region [6] Θ_ok ?_
  simp [newA]
  refine fun r hr => k1 _ ?_
  refine AW.seq fun _ k1 => ?_
  refine AW.seq fun _ k2 => AW.region [] Θ_ok ?_
  simp
  refine (r9_May g hf).use (by simp [G.av]) ?_
  refine k2 _ ?_
  refine AW.seq fun _ k2 => AW.region [] Θ_ok ?_
  simp
  refine k2 _ ?_
  by_cases hm : mayE g = 0
  · have hn := (may_ok hm).2.1
    have h3 := (may_ok hm).1
    have hle := memsN_le A.length E.length
    refine AW.cond false (by simp [Int.natCast_inj, hm]) (fun h => by cases h) (fun _ => ?_)
    refine AW.skip ?_
    simp
    refine k1 _ ?_
    refine AW.seq fun _ k1 => AW.region [] Θ_ok ?_
    simp
    refine (r9_Mems A E).use (by simp) ?_
    refine k1 _ ?_
    obtain ⟨K, hK⟩ : ∃ K, K = memsN A.length E.length := ⟨_, rfl⟩
    rw [← hK] at hle
    simp only [← hK]
    have hKn : K * g.owner.length ≤ 16 * 3000 := Nat.mul_le_mul hle h3
    have wKn := wrap_nat (show K * g.owner.length < 9223372036854775808 by omega)
    rw [Int.natCast_mul] at wKn
    refine AW.seq fun _ k1 => ?_
    by_cases c1 : K = 0
    · refine AW.seq fun _ k2 => AW.region [] Θ_ok ?_
      simp [c1]
      refine k2 _ ?_
      refine AW.cond true (by simp [Int.natCast_inj]) (fun _ => ?_) (fun h => by cases h)
      have : cgA g A E = .tup [.agg [.nils, .nils], .nils, .int .i64 7] := by
        have e : cgErr g A E = 7 := by simp [cgErr, hm, ← hK, c1]
        simp [cgA, e]
      rw [this]
      refine AW.seq fun _ kr => AW.region [] Θ_ok ?_
      simp [upd_same]
      refine kr _ (AW.ret ?_)
      simp [Try.f26, upd_same]
      exact ⟨_, h, GV.sub (subH_upd hr), rfl, rfl⟩
    by_cases c2 : (3000 : Int) < (K : Int) * (g.owner.length : Int)
    · refine AW.seq fun _ k2 => AW.region [] Θ_ok ?_
      simp [c1, wKn, c2]
      refine k2 _ ?_
      refine AW.cond true (by simp [Int.natCast_inj, c2]) (fun _ => ?_) (fun h => by cases h)
      have : cgA g A E = .tup [.agg [.nils, .nils], .nils, .int .i64 7] := by
        have e : cgErr g A E = 7 := by
          have : 3000 < K * g.owner.length := by rw [← Int.natCast_mul] at c2; omega
          rw [cgErr, if_pos hm, ← hK, if_pos (.inr this)]
        simp [cgA, e]
      rw [this]
      refine AW.seq fun _ kr => AW.region [] Θ_ok ?_
      simp [upd_same]
      refine kr _ (AW.ret ?_)
      simp [Try.f26, upd_same]
      exact ⟨_, h, GV.sub (subH_upd hr), rfl, rfl⟩
    have c2' := Int.not_lt.1 c2
    have hA4 : A.length ≤ 4 ∧ E.length ≤ 4 ∧ K = max 1 A.length * max 1 E.length := by
      rw [hK, memsN] at c1
      split at c1
      · exact absurd rfl c1
      · exact ⟨by omega, by omega, by rw [hK, memsN, if_neg (by assumption)]⟩
    obtain ⟨hA, hE, hKe⟩ := hA4
    have hErr : cgErr g A E = 0 := by
      rw [cgErr, if_pos hm, ← hK, if_neg]
      rintro (e | e)
      · exact c1 e
      · rw [← Int.natCast_mul] at c2'; omega
    have hKN : K * g.owner.length ≤ 3000 := by rw [← Int.natCast_mul] at c2'; omega
    have hfin : cgA g A E = .tup [.agg [.ro false (ints (tab (g.owner.length * K) (cgOwn g K))), .ro false (rows (tab (g.owner.length * K) (cgRow g A E K)))], .ro false (ints (tab (g.owner.length * K) (cgPrio A E K))), .int .i64 0] := by simp only [cgA, if_pos hErr, cgG, cgP, ← hK]
    clear hErr
    refine AW.seq fun _ k2 => AW.region [] Θ_ok ?_
    simp [c1, wKn, c2, c2']
    refine k2 _ ?_
    refine AW.cond false (by simp [Int.natCast_inj, c2']) (fun h => by cases h) (fun _ => ?_)
    refine AW.skip ?_
    simp
    refine k1 _ ?_
    refine AW.seq fun _ k1 => AW.region [11] Θ_ok ?_
    simp [newA]
    refine fun q hq => k1 _ ?_
    obtain ⟨H0, hH0⟩ : ∃ H0, H0 = upd h r (some ⟨[.nils, .nils], 25, 2, true⟩) := ⟨_, rfl⟩
    have hr0 : H0 r = some ⟨[.nils, .nils], 25, 2, true⟩ := by rw [hH0, upd_same]
    rw [← hH0] at hq ⊢
    refine AW.mineCell q 0 ⟨[.nils, .nils], 25, 2, true⟩ 3 1 (upd_same _ _ _) rfl fun a ha => ?_
    simp only [upd_upd, List.set_cons_zero] at ha ⊢
    have N1 : HN H0 [q] := ⟨by simp, fun o ho => by simp at ho; subst ho; exact hq⟩
    have N2 : HN H0 [a, q] := HL.new (l := [(q, _)]) N1 ha
    have haq : a ≠ q := by have := N2.nd; simp at this; exact this
    refine AW.mineCell q 1 ⟨[.mu a 0, .nils], 25, 2, true⟩ 22 1 (by dsimp only; rw [upd_ne _ _ (Ne.symm haq), upd_same]) rfl fun b hb => ?_
    simp only [List.set_cons_succ, List.set_cons_zero] at hb ⊢
    have hcm : ∀ X Y Z, upd (upd (upd H0 q X) a Y) q Z = upd (upd H0 q Z) a Y := fun X Y Z => by rw [upd_comm _ _ _ haq, upd_upd]
    rw [hcm]
    have N3 : HN H0 [b, a, q] := HL.new (l := [(a, _), (q, _)]) N2 hb
    refine AW.seq fun _ k1 => AW.region [] Θ_ok ?_
    simp
    refine k1 _ ?_
    refine AW.mine 12 3 1 rfl fun c hc => ?_
    simp only at hc ⊢
    have N4 : HN H0 [c, b, a, q] := HL.new (l := [(b, _), (a, _), (q, _)]) N3 hc
    have hst : upd (upd (upd (upd H0 q (some ⟨[.mu a 0, .mu b 0], 25, 2, true⟩)) a (some ⟨[], 3, 1, false⟩)) b (some ⟨[], 22, 1, false⟩)) c (some ⟨[], 3, 1, false⟩) = HL H0 (cgL g A E K q a b c 0 false false false) := rfl
    rw [hst]
    clear hst N1 N2 N3 ha hb hc haq
    refine AW.seq fun _ k1 => ?_
    refine AW.seq fun _ k2 => AW.region [] Θ_ok ?_
    simp
    refine k2 _ ?_
    refine AW.block ?_
    refine AW.loopI (X := CX) (fun s => HN H0 [s.c, s.b, s.a, q] ∧ s.x ≤ g.owner.length) (fun s => ⟨101, [(43, .int .i64 s.x), (42, .int .i64 g.owner.length), (12, .mu s.c (s.x * K)), (1, .ro false (bools2 A)), (2, .ro false (bools2 E)), (3, .rop [.ro false (ints g.owner), .ro false (rows g.next)]), (6, .ptr r 0), (10, .int .i64 K), (11, .ptr q 0)],
      HL H0 (cgL g A E K q s.a s.b s.c (s.x * K) s.na s.nb s.nc)⟩) (fun s => g.owner.length - s.x) ⟨a, b, c, false, false, false, 0, 0⟩ ⟨N4, Nat.zero_le _⟩ (GStep.eq (by simp) (by simp; exact subH.refl _)) ?_
    clear N4
    rintro ⟨a, b, c, na, nb, nc, x, _⟩ ⟨N, hx⟩
    simp only at N hx ⊢
    refine AW.seq fun _ k2 => AW.region [] Θ_ok ?_
    simp
    refine k2 _ ?_
    by_cases hlt : x < g.owner.length
    · have inc := wrap_succ (show x < 9223372036854775807 by omega)
      have hv' : x < g.next.length := by omega
      refine AW.seq fun _ k2 => AW.cond true (by simp [Int.natCast_inj, hlt]) (fun _ => ?_) (fun h => by cases h)
      refine AW.skip ?_
      simp
      refine k2 _ ?_
      refine AW.seq fun _ k2 => ?_
      refine AW.block ?_
      refine AW.seq fun _ k3 => AW.region [] Θ_ok ?_
      simp
      refine k3 _ ?_
      refine AW.seq fun _ k3 => AW.region [] Θ_ok ?_
      simp
      refine k3 _ ?_
      refine AW.block ?_
      refine AW.loopI (X := CX) (fun s => HN H0 [s.c, s.b, s.a, q] ∧ s.m ≤ K) (fun s => ⟨101, [(47, .int .i64 s.m), (46, .int .i64 K), (13, .int .i64 x), (43, .int .i64 x), (42, .int .i64 g.owner.length), (12, .mu s.c (x * K + s.m)), (1, .ro false (bools2 A)), (2, .ro false (bools2 E)), (3, .rop [.ro false (ints g.owner), .ro false (rows g.next)]), (6, .ptr r 0), (10, .int .i64 K), (11, .ptr q 0)],
        HL H0 (cgL g A E K q s.a s.b s.c (x * K + s.m) s.na s.nb s.nc)⟩) (fun s => K - s.m) ⟨a, b, c, na, nb, nc, 0, 0⟩ ⟨N, Nat.zero_le _⟩ (GStep.eq (by simp) (by simp; exact subH.refl _)) ?_
      clear N a b c na nb nc
      rintro ⟨a, b, c, na, nb, nc, _, m⟩ ⟨N, hmK⟩
      simp only at N hmK ⊢
      refine AW.seq fun _ k3 => AW.region [] Θ_ok ?_
      simp
      refine k3 _ ?_
      by_cases hlm : m < K
      · have incm := wrap_succ (show m < 9223372036854775807 by omega)
        obtain ⟨d1, d2⟩ := divmod (x := x) hlm
        have hn3 : x * K + m < 3000 := by
          have : (x + 1) * K ≤ g.owner.length * K := Nat.mul_le_mul_right _ hlt
          rw [Nat.add_mul, Nat.one_mul, Nat.mul_comm g.owner.length] at this
          omega
        have son := r9_goes A E hA hE x m (by omega)
        have hT := onThen_lt A E x m (by omega)
        refine AW.seq fun _ k3 => AW.cond true (by simp [Int.natCast_inj, hlm]) (fun _ => ?_) (fun h => by cases h)
        refine AW.skip ?_
        simp
        refine k3 _ ?_
        refine AW.seq fun _ k3 => ?_
        refine AW.block ?_
        refine AW.seq fun _ k4 => AW.region [] Θ_ok ?_
        simp
        refine k4 _ ?_
        refine AW.seq fun _ k4 => AW.region [] Θ_ok ?_
        simp
        refine son.use (by simp) ?_
        refine k4 _ ?_
        obtain ⟨T, hTe⟩ : ∃ T, T = onThen A E x m := ⟨_, rfl⟩
        obtain ⟨Pr, hPe⟩ : ∃ Pr, Pr = onPrio A E x m := ⟨_, rfl⟩
        simp only [← hTe, ← hPe] at hT ⊢
        obtain ⟨n, hne⟩ : ∃ n, n = x * K + m := ⟨_, rfl⟩
        simp only [← hne] at hn3 ⊢
        have hT16 : T < 16 := by omega
        have hrow : cgRow g A E K n = g.next[x].map fun w => w * (K : Int) + (T : Int) := by
          simp only [cgRow, hne, d1, d2, hTe, List.getD_eq_getElem?_getD, List.getElem?_eq_getElem hv', Option.getD_some]
        have hown : cgOwn g K n = g.owner[x] := by
          simp only [cgOwn, hne, d1, List.getD_eq_getElem?_getD, List.getElem?_eq_getElem hlt, Option.getD_some]
        have hpri : cgPrio A E K n = (Pr : Int) := by simp only [cgPrio, hne, d1, d2, hPe]
        have hlr := hf.row _ (List.getElem_mem hv')
        have hrl := rise_len' hm hv'
        obtain ⟨_, hrw⟩ := may_row hm hlt hv'
        refine AW.seq fun _ k4 => AW.region [] Θ_ok ?_
        simp
        refine k4 _ ?_
        refine AW.mine 17 3 1 rfl fun d hd => ?_
        simp only at hd ⊢
        have Nd : HN H0 [d, c, b, a, q] := HL.new (l := cgL g A E K q a b c n na nb nc) N hd
        have hst : upd (HL H0 (cgL g A E K q a b c n na nb nc)) d (some ⟨[], 3, 1, false⟩) = HL H0 ((d, cgD g.next[x] 0 K T false) :: cgL g A E K q a b c n na nb nc) := rfl
        rw [hst]
        clear hst hd
        refine AW.seq fun _ k4 => ?_
        refine AW.seq fun _ k5 => AW.region [] Θ_ok ?_
        simp [hv']
        refine k5 _ ?_
        refine AW.block ?_
        refine AW.loopI (X := DX) (fun s => HN H0 [s.d, c, b, a, q] ∧ s.y ≤ g.next[x].length) (fun s => ⟨101, [(64, .int .i64 s.y), (63, .int .i64 g.next[x].length), (62, .ro false (ints g.next[x])), (17, .mu s.d s.y), (15, .int .i64 T), (16, .int .i64 Pr), (47, .int .i64 m), (46, .int .i64 K), (13, .int .i64 x), (43, .int .i64 x), (42, .int .i64 g.owner.length), (12, .mu c n), (1, .ro false (bools2 A)), (2, .ro false (bools2 E)), (3, .rop [.ro false (ints g.owner), .ro false (rows g.next)]), (6, .ptr r 0), (10, .int .i64 K), (11, .ptr q 0)],
          HL H0 ((s.d, cgD g.next[x] s.y K T s.nd) :: cgL g A E K q a b c n na nb nc)⟩) (fun s => g.next[x].length - s.y) ⟨d, 0, false⟩ ⟨Nd, Nat.zero_le _⟩ (GStep.eq (by simp) (subH.refl _)) ?_
        clear Nd d
        rintro ⟨d, y, nd⟩ ⟨Nd, hy⟩
        simp only at Nd hy ⊢
        refine AW.seq fun _ k5 => AW.region [] Θ_ok ?_
        simp
        refine k5 _ ?_
        by_cases hly : y < g.next[x].length
        · have incy := wrap_succ (show y < 9223372036854775807 by omega)
          obtain ⟨w0, w1⟩ := hrw _ (List.getElem_mem hly)
          have b1 : g.next[x][y] * (K : Int) ≤ 3000 * 16 := Int.le_trans (Int.mul_le_mul_of_nonneg_right (show g.next[x][y] ≤ 3000 by omega) (by omega)) (Int.mul_le_mul_of_nonneg_left (by omega) (by omega))
          have b0 : 0 ≤ g.next[x][y] * (K : Int) := Int.mul_nonneg w0 (by omega)
          have ww1 : IntKind.i64.wrap (g.next[x][y] * (K : Int)) = g.next[x][y] * (K : Int) := wrap_id (by omega) (by omega)
          have ww2 : IntKind.i64.wrap (g.next[x][y] * (K : Int) + (T : Int)) = g.next[x][y] * (K : Int) + (T : Int) := wrap_id (by omega) (by omega)
          have hD := HL.at (h0 := H0) (l := (d, cgD g.next[x] y K T nd) :: cgL g A E K q a b c n na nb nc) (k := 0) Nd.nd rfl
          refine AW.seq fun _ k5 => AW.cond true (by simp [Int.natCast_inj, hly]) (fun _ => ?_) (fun h => by cases h)
          refine AW.skip ?_
          simp
          refine k5 _ ?_
          refine AW.seq fun _ k5 => ?_
          refine AW.block ?_
          refine AW.seq fun _ k6 => AW.region [] Θ_ok ?_
          simp [hly]
          refine k6 _ ?_
          refine AW.region [] Θ_ok ?_
          simp [hD, appendA, ww1, ww2]
          refine ⟨rfl, ⟨rfl, rfl, by rw [cgD_len hy]; exact Nat.le_refl _, by omega, by omega⟩, fun d' hd' => k5 _ ?_⟩
          obtain ⟨he, Nd'⟩ := HL.ren (A' := cgD g.next[x] (y + 1) K T true) (k := 0) Nd rfl hd'
          rw [cgD_snoc hly, he]
          refine AW.region [] Θ_ok ?_
          simp
          exact ⟨⟨d', y + 1, true⟩, ⟨Nd', hly⟩, by simp only; omega, GStep.eq (by simp [incy]) (subH.refl _)⟩
        · obtain rfl : y = g.next[x].length := by omega
          refine AW.seq fun _ k5 => AW.cond false (by simp [Int.natCast_inj]) (fun h => by cases h) (fun _ => ?_)
          refine AW.exit ?_
          simp
          refine k4 _ ?_
          have hD := HL.at (h0 := H0) (l := (d, cgD g.next[x] g.next[x].length K T nd) :: cgL g A E K q a b c n na nb nc) (k := 0) Nd.nd rfl
          have hDel := HL.del (l := (d, cgD g.next[x] g.next[x].length K T nd) :: cgL g A E K q a b c n na nb nc) (k := 0) Nd rfl
          refine AW.freeze 17 false rfl hD (fun e => by cases e) rfl (cgD_len (Nat.le_refl _)) (fun u hu => ?_) ?_
          · simp only [cgD, List.mem_map] at hu; obtain ⟨_, _, rfl⟩ := hu; rfl
          simp only [hDel, List.eraseIdx_cons_zero]
          obtain ⟨row, hrow'⟩ : ∃ row, row = g.next[x].map fun w => w * (K : Int) + (T : Int) := ⟨_, rfl⟩
          rw [← hrow'] at hrow
          have hdc : (cgD g.next[x] g.next[x].length K T nd).cells = ints row := by rw [hrow']; simp [cgD]
          rw [hdc]
          clear hD hDel hdc Nd hy hly
          have hL0 : cgL g A E K q a b c n na nb nc = L4 c (cgQ A E K n nc) b (cgN g A E K n nb) a (cgO g K n na) q (cgS2 a n b n) := rfl
          rw [hL0]
          have hQ := HL.at (h0 := H0) (l := L4 c (cgQ A E K n nc) b (cgN g A E K n nb) a (cgO g K n na) q (cgS2 a n b n)) (k := 3) N.nd rfl
          have hO := HL.at (h0 := H0) (l := L4 c (cgQ A E K n nc) b (cgN g A E K n nb) a (cgO g K n na) q (cgS2 a n b n)) (k := 2) N.nd rfl
          refine AW.seq fun _ k4 => AW.draw [] 8 [3, 6] Θ_ok mixed (by kernel_rfl) (by kernel_rfl) ?_
          simp [vcDraw, vcPre, vcTail, callA, isAlloc, isLoad, effOp, obl, obA, mkOK, valA, hQ, hO, cgS2_c, appendA, hlt]
          refine ⟨rfl, ⟨⟨rfl, rfl, by rw [cgO_len]; exact Nat.le_refl _, by omega, by omega⟩, fun a' ha' => ?_⟩⟩
          obtain ⟨he, N1⟩ := HL.ren (A' := cgO g K (n + 1) true) (k := 2) N rfl ha'
          rw [cgO_snoc hown, he]
          replace N1 : HN H0 [c, b, a', q] := N1
          have hQ1 := HL.at (h0 := H0) (l := L4 c (cgQ A E K n nc) b (cgN g A E K n nb) a' (cgO g K (n + 1) true) q (cgS2 a n b n)) (k := 3) N1.nd rfl
          have hP1 : upd _ q (some (cgS2 a' (n + 1) b n)) = _ := HL.put (h0 := H0) (l := L4 c (cgQ A E K n nc) b (cgN g A E K n nb) a' (cgO g K (n + 1) true) q (cgS2 a n b n)) (k := 3) N1.nd rfl
          have hs1 : (L4 c (cgQ A E K n nc) b (cgN g A E K n nb) a (cgO g K n na) q (cgS2 a n b n)).set 2 (a', cgO g K (n + 1) true) = L4 c (cgQ A E K n nc) b (cgN g A E K n nb) a' (cgO g K (n + 1) true) q (cgS2 a n b n) := rfl
          rw [hs1, hQ1]
          simp [cgS2_c]
          have ht1 : (⟨[.mu a' (n + 1), .mu b n], (cgS2 a n b n).ty, (cgS2 a n b n).sz, (cgS2 a n b n).nn⟩ : Ob) = cgS2 a' (n + 1) b n := rfl
          rw [ht1, hP1]
          refine k4 _ ?_
          replace N1 : HN H0 [c, b, a', q] := N1
          have hs2 : (L4 c (cgQ A E K n nc) b (cgN g A E K n nb) a' (cgO g K (n + 1) true) q (cgS2 a n b n)).set 3 (q, cgS2 a' (n + 1) b n) = L4 c (cgQ A E K n nc) b (cgN g A E K n nb) a' (cgO g K (n + 1) true) q (cgS2 a' (n + 1) b n) := rfl
          rw [hs2]
          clear hQ hO hQ1 hP1 hs1 hs2 ht1 he ha' N
          have hQ := HL.at (h0 := H0) (l := L4 c (cgQ A E K n nc) b (cgN g A E K n nb) a' (cgO g K (n + 1) true) q (cgS2 a' (n + 1) b n)) (k := 3) N1.nd rfl
          have hB := HL.at (h0 := H0) (l := L4 c (cgQ A E K n nc) b (cgN g A E K n nb) a' (cgO g K (n + 1) true) q (cgS2 a' (n + 1) b n)) (k := 1) N1.nd rfl
          refine AW.seq fun _ k4 => AW.region [] Θ_ok ?_
          simp [hQ, hB, cgS2_c, appendA]
          refine ⟨rfl, ⟨⟨rfl, rfl, by rw [cgN_len]; exact Nat.le_refl _, by omega, by omega⟩, fun b' hb' => ?_⟩⟩
          obtain ⟨he, N2⟩ := HL.ren (A' := cgN g A E K (n + 1) true) (k := 1) N1 rfl hb'
          rw [cgN_snoc hrow, he]
          replace N2 : HN H0 [c, b', a', q] := N2
          have hQ1 := HL.at (h0 := H0) (l := L4 c (cgQ A E K n nc) b' (cgN g A E K (n + 1) true) a' (cgO g K (n + 1) true) q (cgS2 a' (n + 1) b n)) (k := 3) N2.nd rfl
          have hP1 : upd _ q (some (cgS2 a' (n + 1) b' (n + 1))) = _ := HL.put (h0 := H0) (l := L4 c (cgQ A E K n nc) b' (cgN g A E K (n + 1) true) a' (cgO g K (n + 1) true) q (cgS2 a' (n + 1) b n)) (k := 3) N2.nd rfl
          have hs1 : (L4 c (cgQ A E K n nc) b (cgN g A E K n nb) a' (cgO g K (n + 1) true) q (cgS2 a' (n + 1) b n)).set 1 (b', cgN g A E K (n + 1) true) = L4 c (cgQ A E K n nc) b' (cgN g A E K (n + 1) true) a' (cgO g K (n + 1) true) q (cgS2 a' (n + 1) b n) := rfl
          rw [hs1, hQ1]
          simp [cgS2_c]
          have ht1 : (⟨[.mu a' (n + 1), .mu b' (n + 1)], (cgS2 a' (n + 1) b n).ty, (cgS2 a' (n + 1) b n).sz, (cgS2 a' (n + 1) b n).nn⟩ : Ob) = cgS2 a' (n + 1) b' (n + 1) := rfl
          rw [ht1, hP1]
          refine k4 _ ?_
          have hs2 : (L4 c (cgQ A E K n nc) b' (cgN g A E K (n + 1) true) a' (cgO g K (n + 1) true) q (cgS2 a' (n + 1) b n)).set 3 (q, cgS2 a' (n + 1) b' (n + 1)) = L4 c (cgQ A E K n nc) b' (cgN g A E K (n + 1) true) a' (cgO g K (n + 1) true) q (cgS2 a' (n + 1) b' (n + 1)) := rfl
          rw [hs2]
          clear hQ hB hQ1 hP1 hs1 hs2 ht1 he hb' N1
          have hC := HL.at (h0 := H0) (l := L4 c (cgQ A E K n nc) b' (cgN g A E K (n + 1) true) a' (cgO g K (n + 1) true) q (cgS2 a' (n + 1) b' (n + 1))) (k := 0) N2.nd rfl
          refine AW.region [] Θ_ok ?_
          simp [hC, appendA]
          refine ⟨rfl, ⟨⟨rfl, rfl, by rw [cgQ_len]; exact Nat.le_refl _, by omega, by omega⟩, fun c' hc' => ?_⟩⟩
          obtain ⟨he, N3⟩ := HL.ren (A' := cgQ A E K (n + 1) true) (k := 0) N2 rfl hc'
          rw [cgQ_snoc hpri, he]
          refine k3 _ ?_
          refine AW.region [] Θ_ok ?_
          simp
          exact ⟨⟨a', b', c', true, true, true, 0, m + 1⟩, ⟨N3, hlm⟩, by simp only; omega, GStep.eq (by simp [incm, hne, Nat.add_assoc]) (by rw [hne]; exact subH.refl _)⟩
      · obtain rfl : m = K := by omega
        refine AW.seq fun _ k3 => AW.cond false (by simp [Int.natCast_inj]) (fun h => by cases h) (fun _ => ?_)
        refine AW.exit ?_
        simp
        refine k2 _ ?_
        rw [← Nat.succ_mul]
        refine AW.region [] Θ_ok ?_
        simp
        exact ⟨⟨a, b, c, na, nb, nc, x + 1, 0⟩, ⟨N, hlt⟩, by simp only; omega, GStep.eq (by simp [inc]) (subH.refl _)⟩
    obtain rfl : x = g.owner.length := by omega
    refine AW.seq fun _ k2 => AW.cond false (by simp [Int.natCast_inj]) (fun h => by cases h) (fun _ => ?_)
    refine AW.exit ?_
    simp
    refine k1 _ ?_
    obtain ⟨n, hne⟩ : ∃ n, n = g.owner.length * K := ⟨_, rfl⟩
    simp only [← hne]
    have hL0 : cgL g A E K q a b c n na nb nc = L4 c (cgQ A E K n nc) b (cgN g A E K n nb) a (cgO g K n na) q (cgS2 a n b n) := rfl
    rw [hL0]
    have hQ := HL.at (h0 := H0) (l := L4 c (cgQ A E K n nc) b (cgN g A E K n nb) a (cgO g K n na) q (cgS2 a n b n)) (k := 3) N.nd rfl
    have hO := HL.at (h0 := H0) (l := L4 c (cgQ A E K n nc) b (cgN g A E K n nb) a (cgO g K n na) q (cgS2 a n b n)) (k := 2) N.nd rfl
    have o1 : ∀ u ∈ (cgO g K n na).cells, u.flat = [u] := fun u hu => by simp only [cgO, List.mem_map] at hu; obtain ⟨_, _, rfl⟩ := hu; rfl
    have o2 : ∀ u ∈ (cgN g A E K n nb).cells, u.flat = [u] := fun u hu => by simp only [cgN, List.mem_map] at hu; obtain ⟨_, _, rfl⟩ := hu; rfl
    have o3 : ∀ u ∈ (cgQ A E K n nc).cells, u.flat = [u] := fun u hu => by simp only [cgQ, List.mem_map] at hu; obtain ⟨_, _, rfl⟩ := hu; rfl
    have hd1 := HL.del (l := L4 c (cgQ A E K n nc) b (cgN g A E K n nb) a (cgO g K n na) q (cgS2 a n b n)) (k := 2) N rfl
    have N1 : HN H0 [c, b, q] := N.del 2
    have hQ1 := HL.at (h0 := H0) (l := [(c, cgQ A E K n nc), (b, cgN g A E K n nb), (q, cgS2 a n b n)]) (k := 2) N1.nd rfl
    refine AW.ghost (GStep.cell (j := 0) (v := .mu a n) (r := .ro false (ints (tab n (cgOwn g K)))) hQ rfl (GV.freeze (k := false) hO (fun e => by cases e) (by simp) (fun y hy => by rw [o1 y hy]; rfl) (by rw [flat_ints]; simp [cgO, List.take_of_length_le])) (by rw [hd1]; exact hQ1) (by simp [cgS2_c])) ?_
    rw [hd1]
    have hP1 : upd _ q (some (⟨[.ro false (ints (tab n (cgOwn g K))), .mu b n], 25, 2, true⟩)) = _ := HL.put (h0 := H0) (l := [(c, cgQ A E K n nc), (b, cgN g A E K n nb), (q, cgS2 a n b n)]) (k := 2) N1.nd rfl
    have ht1 : (⟨(cgS2 a n b n).cells.set 0 (.ro false (ints (tab n (cgOwn g K)))), (cgS2 a n b n).ty, (cgS2 a n b n).sz, (cgS2 a n b n).nn⟩ : Ob) = ⟨[.ro false (ints (tab n (cgOwn g K))), .mu b n], 25, 2, true⟩ := rfl
    have hs1 : (L4 c (cgQ A E K n nc) b (cgN g A E K n nb) a (cgO g K n na) q (cgS2 a n b n)).eraseIdx 2 = [(c, cgQ A E K n nc), (b, cgN g A E K n nb), (q, cgS2 a n b n)] := rfl
    rw [ht1, hs1, hP1]
    simp only [List.set_cons_succ, List.set_cons_zero]
    clear hQ hO hd1 hQ1 hP1 ht1 hs1 o1 N
    have hQ := HL.at (h0 := H0) (l := [(c, cgQ A E K n nc), (b, cgN g A E K n nb), (q, ⟨[.ro false (ints (tab n (cgOwn g K))), .mu b n], 25, 2, true⟩)]) (k := 2) N1.nd rfl
    have hB := HL.at (h0 := H0) (l := [(c, cgQ A E K n nc), (b, cgN g A E K n nb), (q, ⟨[.ro false (ints (tab n (cgOwn g K))), .mu b n], 25, 2, true⟩)]) (k := 1) N1.nd rfl
    have hd1 := HL.del (l := [(c, cgQ A E K n nc), (b, cgN g A E K n nb), (q, ⟨[.ro false (ints (tab n (cgOwn g K))), .mu b n], 25, 2, true⟩)]) (k := 1) N1 rfl
    have N2 : HN H0 [c, q] := N1.del 1
    have hQ1 := HL.at (h0 := H0) (l := [(c, cgQ A E K n nc), (q, ⟨[.ro false (ints (tab n (cgOwn g K))), .mu b n], 25, 2, true⟩)]) (k := 1) N2.nd rfl
    refine AW.ghost (GStep.cell (j := 1) (v := .mu b n) (r := .ro false (rows (tab n (cgRow g A E K)))) hQ rfl (GV.freeze (k := false) hB (fun e => by cases e) (by simp) (fun y hy => by rw [o2 y hy]; rfl) (by rw [flat_rows]; simp [cgN, List.take_of_length_le])) (by rw [hd1]; exact hQ1) (by simp)) ?_
    rw [hd1]
    have hP1 : upd _ q (some (⟨[.ro false (ints (tab n (cgOwn g K))), .ro false (rows (tab n (cgRow g A E K)))], 25, 2, true⟩)) = _ := HL.put (h0 := H0) (l := [(c, cgQ A E K n nc), (q, ⟨[.ro false (ints (tab n (cgOwn g K))), .mu b n], 25, 2, true⟩)]) (k := 1) N2.nd rfl
    simp only [List.eraseIdx_cons_succ, List.eraseIdx_cons_zero, List.set_cons_succ, List.set_cons_zero]
    rw [hP1]
    simp only [List.set_cons_succ, List.set_cons_zero]
    clear hQ hB hd1 hQ1 hP1 o2 N1
    obtain ⟨OL, hOL⟩ : ∃ OL, OL = ints (tab n (cgOwn g K)) := ⟨_, rfl⟩
    obtain ⟨RL, hRL⟩ : ∃ RL, RL = rows (tab n (cgRow g A E K)) := ⟨_, rfl⟩
    rw [← hOL, ← hRL]
    have hC := HL.at (h0 := H0) (l := [(c, cgQ A E K n nc), (q, ⟨[.ro false OL, .ro false RL], 25, 2, true⟩)]) (k := 0) N2.nd rfl
    have hd1 := HL.del (l := [(c, cgQ A E K n nc), (q, ⟨[.ro false OL, .ro false RL], 25, 2, true⟩)]) (k := 0) N2 rfl
    refine AW.freeze 12 false rfl hC (fun e => by cases e) rfl cgQ_len o3 ?_
    simp only [hd1, List.eraseIdx_cons_zero]
    have hq0 : H0 q = none := N2.free q (by simp)
    have hrq : r ≠ q := by rintro rfl; rw [hr0] at hq0; cases hq0
    have hPL : (cgQ A E K n nc).cells = ints (tab n (cgPrio A E K)) := rfl
    obtain ⟨PL, hPL'⟩ : ∃ PL, PL = ints (tab n (cgPrio A E K)) := ⟨_, rfl⟩
    rw [hPL, ← hPL']
    refine AW.seq fun _ kr => AW.region [] Θ_ok ?_
    simp [HL, upd_at, hrq, hr0]
    refine kr _ (AW.ret ?_)
    simp [Try.f26, upd_at]
    refine ⟨_, h, GV.sub (fun z X hz => ?_), by rw [hOL, hRL, hPL', hne]; exact hfin.symm, rfl⟩
    have z1 : z ≠ r := by rintro rfl; rw [hr] at hz; cases hz
    have z2 : H0 z = some X := by rw [hH0, upd_ne _ _ z1]; exact hz
    have z3 : z ≠ q := by rintro rfl; rw [hq0] at z2; cases z2
    rw [upd_ne _ _ z1, upd_ne _ _ z3]
    exact z2
  · refine AW.cond true (by simp [Int.natCast_inj, hm]) (fun _ => ?_) (fun h => by cases h)
    have : cgA g A E = .tup [.agg [.nils, .nils], .nils, .int .i64 (mayE g)] := by
      have e : cgErr g A E = mayE g := by simp [cgErr, hm]
      simp [cgA, e, hm]
    rw [this]
    refine AW.seq fun _ kr => AW.region [] Θ_ok ?_
    simp [upd_same]
    refine kr _ (AW.ret ?_)
    simp [Try.f26, upd_same]
    exact ⟨_, h, GV.sub (subH_upd hr), rfl, rfl⟩
end Go.Par

namespace Go.Par

theorem G.wide.rows2 {la : List (List Bool)} (h : (DK.sl (.sl .bool)).fits la) : la.length ≤ 17592186044416 := by
  have h1 : la.length * 24 ≤ reachBytes := h.1
  unfold reachBytes at h1; omega

theorem riseI {l : List Int} {was n : Int} : rise was l n = true ↔ (∀ w ∈ l, was < w ∧ w < n) ∧ l.Pairwise (· < ·) := by
  induction l generalizing was with
  | nil => simp [rise]
  | cons v r ih =>
    simp only [rise]
    split
    · rename_i h
      constructor
      · intro q; cases q
      · rintro ⟨q, _⟩; have := q v (by simp); omega
    · rename_i h
      rw [ih, List.pairwise_cons]
      constructor
      · rintro ⟨q, p⟩
        exact ⟨fun w hw => by
          rcases List.mem_cons.1 hw with rfl | hw
          · omega
          · have := q w hw; omega, fun w hw => (q w hw).1, p⟩
      · rintro ⟨q, p, p'⟩
        exact ⟨fun w hw => ⟨p w hw, (q w (by simp [hw])).2⟩, p'⟩

structure CgOk (g : G) (A E : List (List Bool)) (K : Nat) : Prop where
  m : mayE g = 0
  k : K = memsN A.length E.length
  k0 : 0 < K
  a4 : A.length ≤ 4
  e4 : E.length ≤ 4
  ke : K = max 1 A.length * max 1 E.length
  n : g.owner.length * K ≤ 3000

theorem cg_ok {g : G} {A E : List (List Bool)} (h : cgErr g A E = 0) : CgOk g A E (memsN A.length E.length) := by
  have hm : mayE g = 0 := by
    unfold cgErr at h
    split at h
    · assumption
    · exact h
  have h1 : ¬ (memsN A.length E.length = 0 ∨ 3000 < memsN A.length E.length * g.owner.length) := by
    intro q
    rw [cgErr, if_pos hm, if_pos q] at h
    cases h
  have h2 : ¬ 4 < max A.length E.length := by
    intro q
    exact h1 (.inl (by simp [memsN, q]))
  refine ⟨hm, rfl, by omega, by omega, by omega, by rw [memsN, if_neg h2], ?_⟩
  rw [Nat.mul_comm]
  omega

theorem cg_div {K n x : Nat} (h : x < n * K) : x / K < n := Nat.div_lt_of_lt_mul (by rw [Nat.mul_comm]; exact h)

theorem cg_may {g : G} {A E : List (List Bool)} (h : cgErr g A E = 0) : mayE (cgG g A E) = 0 := by
  obtain ⟨hm, hk, k0, a4, e4, ke, hn⟩ := cg_ok h
  obtain ⟨K, hK⟩ : ∃ K, K = memsN A.length E.length := ⟨_, rfl⟩
  rw [← hK] at k0 ke hn
  obtain ⟨h1, h2, h3⟩ := may_ok hm
  have e1 : (cgG g A E).owner = tab (g.owner.length * K) (cgOwn g K) := by rw [cgG, ← hK]
  have e2 : (cgG g A E).next = tab (g.owner.length * K) (cgRow g A E K) := by rw [cgG, ← hK]
  have : (List.range (g.owner.length * K)).all (okV (cgG g A E)) = true := all_of_range fun i hi => by
    have hv := cg_div hi
    have hq := h3 (i / K) hv
    have hv' : i / K < g.next.length := by omega
    simp only [okV, Bool.and_eq_true, e1, e2] at hq ⊢
    rw [getD_tab, if_pos hi, getD_tab, if_pos hi]
    refine ⟨hq.1, ?_⟩
    have hr := riseI.1 hq.2
    have hT := onThen_lt A E (i / K) (i % K) (by rw [← ke]; exact Nat.mod_lt _ k0)
    rw [← ke] at hT
    rw [cgRow, length_tab]
    generalize onThen A E (i / K) (i % K) = T at hT
    refine riseI.2 ⟨fun w hw => ?_, ?_⟩
    · obtain ⟨u, hu, rfl⟩ := List.mem_map.1 hw
      obtain ⟨q1, q2⟩ := hr.1 u hu
      have b0 : 0 ≤ u * (K : Int) := Int.mul_nonneg (by omega) (by omega)
      have b1 : (u + 1) * (K : Int) ≤ g.owner.length * (K : Int) := Int.mul_le_mul_of_nonneg_right (by omega) (by omega)
      rw [Int.add_mul, Int.one_mul] at b1
      rw [Int.natCast_mul]
      omega
    · rw [List.pairwise_map]
      refine hr.2.imp fun {a b} hab => ?_
      have b1 : (a + 1) * (K : Int) ≤ b * (K : Int) := Int.mul_le_mul_of_nonneg_right (by omega) (by omega)
      rw [Int.add_mul, Int.one_mul] at b1
      omega
  unfold mayE
  rw [e1, e2, length_tab, length_tab, if_neg (by omega), if_pos rfl, if_pos this]

theorem cgPrio_le (A E : List (List Bool)) (K i : Nat) : 0 ≤ cgPrio A E K i ∧ cgPrio A E K i ≤ 2 := by
  unfold cgPrio onPrio
  split
  · omega
  · split <;> omega
end Go.Par
