/- The system's plan: the memory, and the planner. -/
import Derived.Test.YtaipmknajpbpkaaPnB
import Derived.Test.YtaipmknajpbpkaaGcA
import Derived.Test.YtaipmknajpbpkaaFoA
import Derived.Test.YtaipmknajpbpkaaGrC
set_option linter.unusedSimpArgs false
set_option linter.unusedVariables false
set_option maxRecDepth 8000
set_option maxHeartbeats 2000000
namespace Go.Par
open Go.Proofs

theorem r9_PlanThen (g : G) (hf : g.fits) (E : List (List Bool)) (v mem : Int) : Pure Try.prog 17 [g.av, .ro false (bools2 E), .int .i64 v, .int .i64 mem] (.int .i64 (planTh g E v mem)) := by
  have sM := r9_May g hf
  obtain ⟨r, hr⟩ : ∃ r, r = planTh g E v mem := ⟨_, rfl⟩
  rw [← hr]
  unfold planTh at hr
  have rl := rows_len g E
  obtain ⟨N, eN⟩ : ∃ N, N = max 1 E.length := ⟨_, rfl⟩
  have im1 : (if (1 : Int) < (E.length : Int) then (E.length : Int) else 1) = (N : Int) := by rw [imax1, eN]
  have im2 : (if 1 < E.length then (E.length : Int) else 1) = (N : Int) := by rw [imax1', eN]
  rw [rl, ← eN] at hr
  intro h
  refine AC.body Θ_ok Try.func17 rfl rfl (Nat.le_of_ble_eq_true rfl) ?_
  refine AW.seq fun _ k1 => AW.region [] Θ_ok ?_
  simp
  refine k1 _ ?_
  refine AW.seq fun _ k1 => AW.region [] Θ_ok ?_
  simp [im1, im2]
  refine k1 _ ?_
  refine AW.seq fun _ k1 => ?_
  by_cases hm : mayE g = 0
  rotate_left
  · rw [if_neg (by rintro ⟨a1, a2, a3, a4, a5, a6⟩; exact hm a1)] at hr
    refine AW.seq fun _ k2 => AW.regionAt 2 [] Θ_ok fun B hB => ?_
    simp
    refine sM.use (by simp [G.av]) ?_
    refine hB _ ?_
    clear hB B
    simp [hm]
    refine k2 _ ?_
    refine AW.cond true (by simp [Int.natCast_inj, hm]) (fun _ => ?_) (fun h => by cases h)
    refine AW.seq fun _ kr => AW.region [] Θ_ok ?_
    simp
    refine kr _ (AW.ret ?_)
    simp [Try.f17]
    exact Fin.refl ⟨by rw [hr], rfl⟩
  by_cases h4 : E.length ≤ 4
  rotate_left
  · rw [if_neg (by rintro ⟨a1, a2, a3, a4, a5, a6⟩; exact h4 a2)] at hr
    have h4i : (4 : Int) < (E.length : Int) := by omega
    rw [hm] at sM
    refine AW.seq fun _ k2 => AW.regionAt 2 [] Θ_ok fun B hB => ?_
    simp
    refine sM.use (by simp [G.av]) ?_
    refine hB _ ?_
    clear hB B
    simp [h4, h4i]
    refine k2 _ ?_
    refine AW.cond true (by simp [Int.natCast_inj, h4, h4i]) (fun _ => ?_) (fun h => by cases h)
    refine AW.seq fun _ kr => AW.region [] Θ_ok ?_
    simp
    refine kr _ (AW.ret ?_)
    simp [Try.f17]
    exact Fin.refl ⟨by rw [hr], rfl⟩
  have h4j : ¬ (4 : Int) < (E.length : Int) := by omega
  have h4k : ¬ 4 < E.length := by omega
  by_cases h0 : 0 ≤ v
  rotate_left
  · rw [if_neg (by rintro ⟨a1, a2, a3, a4, a5, a6⟩; exact h0 a3)] at hr
    have h0i : v < 0 := by omega
    rw [hm] at sM
    refine AW.seq fun _ k2 => AW.regionAt 2 [] Θ_ok fun B hB => ?_
    simp
    refine sM.use (by simp [G.av]) ?_
    refine hB _ ?_
    clear hB B
    simp [h4j, h4k, h0, h0i]
    refine k2 _ ?_
    refine AW.cond true (by simp [Int.natCast_inj, h4j, h4k, h0, h0i]) (fun _ => ?_) (fun h => by cases h)
    refine AW.seq fun _ kr => AW.region [] Θ_ok ?_
    simp
    refine kr _ (AW.ret ?_)
    simp [Try.f17]
    exact Fin.refl ⟨by rw [hr], rfl⟩
  have h0j : ¬ v < 0 := by omega
  by_cases hn : v < g.owner.length
  rotate_left
  · rw [if_neg (by rintro ⟨a1, a2, a3, a4, a5, a6⟩; exact hn a4)] at hr
    have hni : (g.owner.length : Int) ≤ v := by omega
    rw [hm] at sM
    refine AW.seq fun _ k2 => AW.regionAt 2 [] Θ_ok fun B hB => ?_
    simp
    refine sM.use (by simp [G.av]) ?_
    refine hB _ ?_
    clear hB B
    simp [h4j, h4k, h0j, hn, hni]
    refine k2 _ ?_
    refine AW.cond true (by simp [Int.natCast_inj, h4j, h4k, h0j, hn, hni]) (fun _ => ?_) (fun h => by cases h)
    refine AW.seq fun _ kr => AW.region [] Θ_ok ?_
    simp
    refine kr _ (AW.ret ?_)
    simp [Try.f17]
    exact Fin.refl ⟨by rw [hr], rfl⟩
  have hnj : ¬ (g.owner.length : Int) ≤ v := by omega
  by_cases hb : 0 ≤ mem
  rotate_left
  · rw [if_neg (by rintro ⟨a1, a2, a3, a4, a5, a6⟩; exact hb a5)] at hr
    have hbi : mem < 0 := by omega
    rw [hm] at sM
    refine AW.seq fun _ k2 => AW.regionAt 2 [] Θ_ok fun B hB => ?_
    simp
    refine sM.use (by simp [G.av]) ?_
    refine hB _ ?_
    clear hB B
    simp [h4j, h4k, h0j, hnj, hb, hbi]
    refine k2 _ ?_
    refine AW.cond true (by simp [Int.natCast_inj, h4j, h4k, h0j, hnj, hb, hbi]) (fun _ => ?_) (fun h => by cases h)
    refine AW.seq fun _ kr => AW.region [] Θ_ok ?_
    simp
    refine kr _ (AW.ret ?_)
    simp [Try.f17]
    exact Fin.refl ⟨by rw [hr], rfl⟩
  have hbj : ¬ mem < 0 := by omega
  by_cases hc : mem < N
  rotate_left
  · rw [if_neg (by rintro ⟨a1, a2, a3, a4, a5, a6⟩; exact hc a6)] at hr
    have hci : (N : Int) ≤ mem := by omega
    rw [hm] at sM
    refine AW.seq fun _ k2 => AW.regionAt 2 [] Θ_ok fun B hB => ?_
    simp
    refine sM.use (by simp [G.av]) ?_
    refine hB _ ?_
    clear hB B
    simp [h4j, h4k, h0j, hnj, hbj, hc, hci]
    refine k2 _ ?_
    refine AW.cond true (by simp [Int.natCast_inj, h4j, h4k, h0j, hnj, hbj, hc, hci]) (fun _ => ?_) (fun h => by cases h)
    refine AW.seq fun _ kr => AW.region [] Θ_ok ?_
    simp
    refine kr _ (AW.ret ?_)
    simp [Try.f17]
    exact Fin.refl ⟨by rw [hr], rfl⟩
  have hcj : ¬ (N : Int) ≤ mem := by omega
  rw [hm] at sM
  rw [if_pos ⟨hm, h4, h0, hn, hb, hc⟩] at hr
  obtain ⟨a, rfl⟩ := Int.eq_ofNat_of_zero_le h0
  obtain ⟨b, rfl⟩ := Int.eq_ofNat_of_zero_le hb
  simp only [Int.toNat_natCast] at hr
  refine AW.seq fun _ k2 => AW.regionAt 2 [] Θ_ok fun B hB => ?_
  simp
  refine sM.use (by simp [G.av]) ?_
  refine hB _ ?_
  clear hB B
  simp [h4j, h4k, h0j, hnj, hbj, hcj]
  refine k2 _ ?_
  refine AW.cond false (by simp [Int.natCast_inj, h4j, h4k, h0j, hnj, hbj, hcj]) (fun h => by cases h) (fun _ => ?_)
  refine AW.skip ?_
  simp
  refine k1 _ ?_
  have w := wrap_succ (n := b) (by omega)
  have N0 : ¬ (N : Int) = 0 := by omega
  have N0' : ¬ N = 0 := by omega
  have em : ((b + 1 : Nat) : Int).tmod (N : Int) = ((b + 1) % N : Nat) := by rw [Int.tmod_eq_emod_of_nonneg (by omega)]; rfl
  have em2 : ((b : Int) + 1).tmod (N : Int) = ((b + 1) % N : Nat) := em
  unfold thenN at hr
  rw [rl, ← eN] at hr
  refine AW.seq fun _ k1 => ?_
  by_cases hE : E = []
  · subst hE
    have b0 : b = 0 := by simp at eN; omega
    subst b0
    rw [show ((rowsL g []).getD 0 []) = topL g from rfl, top_has (by omega), if_pos rfl] at hr
    refine AW.seq fun _ k2 => AW.region [] Θ_ok ?_
    simp
    refine k2 _ ?_
    refine AW.cond true (by simp [Int.natCast_inj]) (fun _ => ?_) (fun h => by cases h)
    refine AW.seq fun _ kr => AW.region [] Θ_ok ?_
    simp [w, N0, N0', em, em2, show IntKind.i64.wrap 1 = 1 from rfl]
    refine kr _ (AW.ret ?_)
    simp [Try.f17]
    exact Fin.refl ⟨by rw [hr]; simp [Int.tmod_eq_emod_of_nonneg (show (0 : Int) ≤ 1 by decide)], rfl⟩
  have hE0 : ¬ (E.length : Int) = 0 := by have := List.length_pos_iff.2 hE; omega
  have hbE : b < E.length := by have := List.length_pos_iff.2 hE; omega
  have sH := has_r9 E[b] a
  rw [show (rowsL g E).getD b [] = E[b] by rw [rowsL, if_neg hE]; simp [hbE]] at hr
  refine AW.seq fun _ k2 => AW.regionAt 10 [] Θ_ok fun B hB => ?_
  simp [hE, hE0, hbE]
  refine sH.use (by simp) ?_
  refine hB _ ?_
  clear hB B
  simp
  refine k2 _ ?_
  by_cases c : hasN E[b] a = true
  · rw [if_pos c] at hr
    refine AW.cond true (by simp [Int.natCast_inj, c]) (fun _ => ?_) (fun h => by cases h)
    refine AW.seq fun _ kr => AW.region [] Θ_ok ?_
    simp [w, N0, N0', em, em2]
    refine kr _ (AW.ret ?_)
    simp [Try.f17]
    exact Fin.refl ⟨by rw [hr]; simp, rfl⟩
  · rw [if_neg c] at hr
    have c : hasN E[b] a = false := by simpa using c
    refine AW.cond false (by simp [Int.natCast_inj, c, hE]) (fun h => by cases h) (fun _ => ?_)
    refine AW.skip ?_
    simp
    refine k1 _ ?_
    refine AW.seq fun _ kr => AW.region [] Θ_ok ?_
    simp
    refine kr _ (AW.ret ?_)
    simp [Try.f17]
    exact Fin.refl ⟨by rw [hr], rfl⟩
end Go.Par
