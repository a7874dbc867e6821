/- proof.mayPrio. -/
import Derived.Test.YtigipgahgkngcaaTgB
set_option linter.unusedSimpArgs false
set_option linter.unusedVariables false
set_option maxRecDepth 8000
set_option maxHeartbeats 2000000
namespace Go.Par
open Go.Proofs

def okPr (p : Int) : Bool := decide (0 ≤ p) && decide (p < 6)
def mayQ (P : List Int) (n : Nat) : Bool := P.all okPr && decide (P.length = n)
theorem mayQ_no {P : List Int} {n x : Nat} (hx : x < P.length) (h : okPr P[x] = false) : mayQ P n = false := by
  cases hm : mayQ P n with
  | false => rfl
  | true =>
    unfold mayQ at hm
    rw [Bool.and_eq_true, List.all_eq_true] at hm
    have := hm.1 _ (List.getElem_mem hx)
    rw [h] at this; cases this
theorem proof_mayPrio (P : List Int) (n : Nat) (hl : P.length ≤ 1152921504606846976) : Pure Try.prog 37 [.ro false (ints P), .int .i64 n] (.bool (mayQ P n)) := by
  intro h
  refine AC.body Θ_ok Try.func37 rfl rfl (Nat.le_of_ble_eq_true rfl) ?_
  refine AW.seq fun _ k1 => AW.region [] Θ_ok ?_
  simp
  refine k1 _ ?_
  refine AW.seq fun _ k2 => ?_
  refine AW.seq fun _ k3 => AW.region [] Θ_ok ?_
  simp
  refine k3 _ ?_
  refine AW.block ?_
  refine AW.loopI (X := Nat) (fun x => x ≤ P.length ∧ ∀ p ∈ P.take x, okPr p = true) (fun x => ⟨24, [(0, .ro false (ints P)), (1, .int .i64 n), (7, .ro false (ints P)), (8, .int .i64 P.length), (9, .int .i64 x)], h⟩) (fun x => P.length - x) 0 ⟨Nat.zero_le _, fun p hp => by simp at hp⟩ (GStep.eq (by simp) (subH.refl _)) fun x hx => ?_
  obtain ⟨hx, hg⟩ := hx
  refine AW.seq fun _ k4 => AW.region [] Θ_ok ?_
  simp
  refine k4 _ ?_
  by_cases hlt : x < P.length
  · have inc := wrap_succ (show x < 9223372036854775807 by omega)
    have hno := mayQ_no (n := n) hlt
    have hst : ∀ w ∈ P.take (x + 1), w ∈ P.take x ∨ w = P[x] := fun w hw => by
      rwa [List.take_succ_eq_append_getElem hlt, List.mem_append, List.mem_singleton] at hw
    obtain ⟨w, hw⟩ : ∃ w, P[x] = w := ⟨_, rfl⟩
    rw [hw] at hno
    simp only [hw] at hst
    have hw0 : okPr w = (decide (0 ≤ w) && decide (w < 6)) := rfl
    have bad : okPr w = false → Fin (.bool false) h fun r h' => r = .bool (mayQ P n) ∧ h' = h := fun q => Fin.refl ⟨by rw [hno q], rfl⟩
    refine AW.seq fun _ k5 => AW.cond true (by simp [Int.natCast_inj, hlt]) (fun _ => ?_) (fun h => by cases h)
    refine AW.skip ?_
    simp
    refine k5 _ ?_
    refine AW.seq fun _ k6 => ?_
    refine AW.block ?_
    refine AW.seq fun _ k7 => AW.region [] Θ_ok ?_
    simp [hlt, hw]
    refine k7 _ ?_
    by_cases h0 : 0 ≤ w
    · by_cases h1 : w < 6
      · refine AW.seq fun _ k8 => AW.region [] Θ_ok ?_
        simp [Int.not_lt.2 h0, h0, Int.not_le.2 h1, h1]
        refine k8 _ ?_
        refine AW.cond false (by simp [Int.natCast_inj]) (fun h => by cases h) (fun _ => ?_)
        refine AW.skip ?_
        simp
        refine k6 _ ?_
        refine AW.region [] Θ_ok ?_
        simp
        refine ⟨x + 1, ⟨hlt, fun u hu => ?_⟩, by omega, GStep.eq (by simp [inc]) (subH.refl _)⟩
        rcases hst u hu with q | q
        · exact hg u q
        · rw [q, hw0]; simp [h0, h1]
      · refine AW.seq fun _ k8 => AW.region [] Θ_ok ?_
        simp [Int.not_lt.2 h0, h0, Int.not_lt.1 h1, h1]
        refine k8 _ ?_
        refine AW.cond true (by simp [Int.natCast_inj]) (fun _ => ?_) (fun h => by cases h)
        refine AW.seq fun _ kr => AW.region [] Θ_ok ?_
        simp
        refine kr _ (AW.ret ?_)
        simp [Try.f37]
        exact bad (by rw [hw0]; simp [h0, h1])
    · refine AW.seq fun _ k8 => AW.region [] Θ_ok ?_
      simp [Int.not_le.1 h0, h0]
      refine k8 _ ?_
      refine AW.cond true (by simp [Int.natCast_inj]) (fun _ => ?_) (fun h => by cases h)
      refine AW.seq fun _ kr => AW.region [] Θ_ok ?_
      simp
      refine kr _ (AW.ret ?_)
      simp [Try.f37]
      exact bad (by rw [hw0]; simp [h0])
  · obtain rfl : x = P.length := by omega
    rw [List.take_length] at hg
    have ha : P.all okPr = true := by rw [List.all_eq_true]; exact hg
    refine AW.seq fun _ k5 => AW.cond false (by simp [Int.natCast_inj]) (fun h => by cases h) (fun _ => ?_)
    refine AW.exit ?_
    simp
    refine k2 _ ?_
    by_cases hc : P.length = n
    · have hc' : (P.length : Int) = n := by omega
      refine AW.seq fun _ kr => AW.region [] Θ_ok ?_
      simp [hc, hc']
      refine kr _ (AW.ret ?_)
      simp [Try.f37]
      exact Fin.refl ⟨by simp [mayQ, ha, hc], rfl⟩
    · have hc' : ¬ (P.length : Int) = n := by omega
      refine AW.seq fun _ kr => AW.region [] Θ_ok ?_
      simp [hc, hc']
      refine kr _ (AW.ret ?_)
      simp [Try.f37]
      exact Fin.refl ⟨by simp [mayQ, ha, hc, hc'], rfl⟩
end Go.Par
