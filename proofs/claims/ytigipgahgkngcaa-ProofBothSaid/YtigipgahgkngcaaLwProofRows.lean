/- P17.2: ProofRows. -/
import Derived.Test.YtigipgahgkngcaaTgB
set_option linter.unusedSimpArgs false
set_option linter.unusedVariables false
set_option maxRecDepth 8000
set_option maxHeartbeats 2000000
namespace Go.Par
open Go.Proofs

theorem fits_ll {next : List (List Int)} (h : (DK.sl (.sl .int)).fits next) : next.length ≤ 17592186044416 ∧ ∀ l ∈ next, l.length ≤ 17592186044416 := by
  have h1 : next.length * 24 ≤ reachBytes := h.1
  refine ⟨by unfold reachBytes at h1; omega, fun l hl => ?_⟩
  have h2 : l.length * 8 ≤ reachBytes := (h.2 l hl).1
  unfold reachBytes at h2; omega
theorem fits_b {f : List Bool} (h : (DK.sl .bool).fits f) : f.length ≤ 140737488355328 := by
  have h1 : f.length * 1 ≤ reachBytes := h.1
  unfold reachBytes at h1; omega
theorem fits_bb {A : List (List Bool)} (h : (DK.sl (.sl .bool)).fits A) : A.length ≤ 17592186044416 ∧ ∀ r ∈ A, r.length ≤ 140737488355328 := by
  have h1 : A.length * 24 ≤ reachBytes := h.1
  exact ⟨by unfold reachBytes at h1; omega, fun r hr => fits_b (h.2 r hr)⟩
theorem light_row {next : List (List Int)} {f : List Bool} {R : List (List (List Bool))} (h : light17 next f R = true) : next.length ≤ 120 ∧ lenS next ≤ 1500 ∧ f.length ≤ 1500 ∧ (∀ l ∈ next, l.length ≤ 1000000000) ∧ ∀ A ∈ R, A.length ≤ 8 := by
  unfold light17 at h
  simp only [Bool.and_eq_true, decide_eq_true_eq, List.all_eq_true] at h
  refine ⟨h.2, by omega, by omega, fun l hl => ?_, h.1.1⟩
  have := lenS_mem hl
  omega

theorem law_ProofRows (next : List (List Int)) (hn : (DK.sl (.sl .int)).fits next) (from_ : List Bool) (hf : (DK.sl .bool).fits from_) (la : List (List Bool)) (hA : (DK.sl (.sl .bool)).fits la) (lb : List (List Bool)) (hB : (DK.sl (.sl .bool)).fits lb) :
    Pure Try.prog 3 [.ro false (rows next), .ro false (bools from_), .ro false (bools2 la), .ro false (bools2 lb)] (.bool true) := by
  obtain ⟨n1, n2⟩ := fits_ll hn
  obtain ⟨a1, a2⟩ := fits_bb hA
  obtain ⟨b1, b2⟩ := fits_bb hB
  have sL := l17_light next n1 n2 from_ (fits_b hf) [la, lb] (by simp) (fun A h => by
    simp at h; rcases h with rfl | rfl
    · exact a2
    · exact b2) (fun A h => by
    simp at h; rcases h with rfl | rfl
    · exact a1
    · exact b1)
  have sA := l17_awake
  intro h
  refine AC.body Θ_ok Try.func3 rfl rfl (Nat.le_of_ble_eq_true rfl) ?_
  refine AW.seq fun _ k1 => AW.region [] Θ_ok ?_
  simp
  refine k1 _ ?_
  refine AW.seq fun _ k1 => ?_
  cases hl : light17 next from_ [la, lb] with
  | false =>
    rw [hl] at sL
    refine AW.seq fun _ k2 => AW.regionAt 6 [] Θ_ok fun B hB => ?_
    simp
    refine ⟨rfl, ?_⟩
    refine sL.use (by simp [bools3]) ?_
    refine hB _ ?_
    clear hB B
    simp
    refine k2 _ ?_
    refine AW.cond true (by simp [Int.natCast_inj]) (fun _ => ?_) (fun h => by cases h)
    refine AW.seq fun _ kr => AW.region [] Θ_ok ?_
    simp
    refine sA.use (by simp) ?_
    try simp
    refine kr _ (AW.ret ?_)
    simp [Try.f3]
    exact Fin.refl ⟨rfl, rfl⟩
  | true =>
    rw [hl] at sL
    obtain ⟨_, _, _, hr, _⟩ := light_row hl
    have p1 := proof_Fair next n1 hr from_ la lb a1 b1
    have p2 := r9_FairN next n1 hr from_ la lb a1 b1
    have p3 := proof_Unfair next n1 hr from_ la lb a1 b1
    have p4 := r9_UnfairN next n1 hr from_ la lb a1 b1
    generalize (mayN next && fairB next from_ la lb) = u at *
    generalize (mayN next && unfairB next from_ la lb) = w at *
    refine AW.seq fun _ k2 => AW.regionAt 6 [] Θ_ok fun B hB => ?_
    simp
    refine ⟨rfl, ?_⟩
    refine sL.use (by simp [bools3]) ?_
    refine hB _ ?_
    clear hB B
    simp
    refine k2 _ ?_
    refine AW.cond false (by simp [Int.natCast_inj]) (fun h => by cases h) (fun _ => ?_)
    refine AW.skip ?_
    simp
    refine k1 _ ?_
    refine AW.seq fun _ kr => AW.regionAt 5 [] Θ_ok fun B hB => ?_
    simp
    refine p1.use (by simp) ?_
    refine hB _ ?_
    clear hB B
    refine vcOps_split 5 fun B hB => ?_
    simp
    refine p2.use (by simp) ?_
    refine hB _ ?_
    clear hB B
    refine vcOps_split 7 fun B hB => ?_
    simp
    refine p3.use (by simp) ?_
    refine hB _ ?_
    clear hB B
    refine vcOps_split 5 fun B hB => ?_
    simp
    refine p4.use (by simp) ?_
    refine hB _ ?_
    clear hB B
    refine vcOps_split 4 fun B hB => ?_
    simp
    refine sA.use (by simp) ?_
    refine hB _ ?_
    clear hB B
    simp
    refine kr _ (AW.ret ?_)
    simp [Try.f3]
    exact Fin.refl ⟨rfl, rfl⟩
end Go.Par
