import Derived.Test.YtihlpchiomkinaaRkB
import Derived.Test.YtihlpchiomkinaaAgB
set_option linter.unusedSimpArgs false
set_option linter.unusedVariables false
set_option maxRecDepth 8000
set_option maxHeartbeats 1000000
namespace Go.Par
open Go.Proofs

theorem r9_Region (g : G) (hf : g.fits) (who : Int) (s : List Bool) : Pure Try.prog 38 [g.av, .int .i64 who, .ro false (bools s)] (regA g who s) := by
  have sR := r9_Ranks g hf who s
  rw [ranksA_eq] at sR
  intro h
  refine AC.body Θ_ok Try.func38 rfl rfl (Nat.le_of_ble_eq_true rfl) ?_
  refine AW.seq fun _ k1 => AW.region [] Θ_ok ?_
  simp
  refine k1 _ ?_
  refine AW.seq fun _ k1 => ?_
  by_cases hm : mayE g = 0
  · by_cases hw : who = 0 ∨ who = 1
    · have hok : okP g who := ⟨hm, hw⟩
      rw [if_pos hok] at sR
      have hfin : regA g who s = .ro true (bools (regR (ranksL g who s))) := if_pos hok
      have hn3 := (may_ok hm).1
      have lR := ranksL_len g who s
      have hw' : (who == 0 || who == 1) = true := by rcases hw with h | h <;> simp [h]
      have sP := r9_Player who
      rw [hw'] at sP
      generalize ranksL g who s = R at *
      refine AW.seq fun _ k2 => AW.regionAt 2 [] Θ_ok fun B hB => ?_
      simp
      refine (r9_May g hf).use (by simp [G.av]) ?_
      refine hB _ ?_
      clear hB B
      refine vcOps_split 4 fun B hB => ?_
      simp [hm]
      refine sP.use (by simp) ?_
      refine hB _ ?_
      clear hB B
      simp
      refine k2 _ ?_
      refine AW.cond false (by simp [Int.natCast_inj]) (fun h => by cases h) (fun _ => ?_)
      refine AW.skip ?_
      simp
      refine k1 _ ?_
      refine AW.seq fun _ k1 => AW.regionAt 4 [] Θ_ok fun B hB => ?_
      simp
      refine sR.use (by simp [G.av]) ?_
      refine hB _ ?_
      clear hB B
      simp
      refine k1 _ ?_
      refine AW.seq fun _ k1 => AW.region [25] Θ_ok ?_
      simp
      refine ⟨by omega, fun o ho => k1 _ ?_⟩
      rw [replicate_tab, flat_tab (fun _ _ => rfl)]
      refine AW.seq fun _ k1 => ?_
      refine AW.seq fun _ k2 => AW.region [] Θ_ok ?_
      simp
      refine k2 _ ?_
      refine AW.block ?_
      refine AW.loopI (X := Nat) (fun x => x ≤ R.length) (fun x => ⟨40, [(8, .mu o R.length), (26, .ro true (ints R)), (27, .int .i64 R.length), (28, .int .i64 x)], upd h o (some ⟨tab R.length fun i => .bool (decide (i < x) && decide (0 ≤ R.getD i 0)), 4, 1, true⟩)⟩) (fun x => R.length - x) 0 (Nat.zero_le _) (GStep.eq (by simp) ?_) fun x hx => ?_
      · simp; exact subH.refl _
      refine AW.seq fun _ k2 => AW.region [] Θ_ok ?_
      simp
      refine k2 _ ?_
      by_cases hlt : x < R.length
      · have inc := wrap_succ (show x < 9223372036854775807 by omega)
        have hset : (tab R.length fun i => AV.bool (decide (i < x) && decide (0 ≤ R.getD i 0))).set x (.bool (decide (0 ≤ R[x]))) = tab R.length fun i => .bool (decide (i < x + 1) && decide (0 ≤ R.getD i 0)) := by
          rw [set_tab]
          refine tab_congr fun i hi => ?_
          by_cases e : i = x
          · subst e; simp [hlt]
          · by_cases h1 : i < x
            · simp [e, h1, show i < x + 1 by omega]
            · simp [e, h1, show ¬ i < x + 1 by omega]
        refine AW.seq fun _ k2 => AW.cond true (by simp [Int.natCast_inj, hlt]) (fun _ => ?_) (fun h => by cases h)
        refine AW.skip ?_
        simp
        refine k2 _ ?_
        refine AW.seq fun _ k2 => ?_
        refine AW.block ?_
        refine AW.seq fun _ k3 => AW.region [] Θ_ok ?_
        simp [hlt]
        refine k3 _ ?_
        refine AW.region [] Θ_ok ?_
        simp [hlt]
        refine ⟨by omega, k2 _ ?_⟩
        refine AW.region [] Θ_ok ?_
        simp
        exact ⟨x + 1, by omega, by omega, GStep.eq (by simp [inc]) (subH_of_eq (congrArg (fun c => upd h o (some ⟨c, 4, 1, true⟩)) (by simpa using hset)))⟩
      obtain rfl : x = R.length := by omega
      refine AW.seq fun _ k2 => AW.cond false (by simp [Int.natCast_inj]) (fun h => by cases h) (fun _ => ?_)
      refine AW.exit ?_
      simp
      refine k1 _ ?_
      refine AW.seq fun _ kr => AW.region [] Θ_ok ?_
      simp
      refine kr _ (AW.ret ?_)
      simp [Try.f38]
      refine Fin.freeze (k := true) (upd_same _ _ _) (fun _ => rfl) rfl (by simp) (ones_bools _ _) h (by simp [upd_none_id ho]; exact subH.refl _) ⟨?_, rfl⟩
      rw [hfin]
      congr 1
      simp only [bools, regR, map_tab]
      exact tab_congr fun i hi => by simp [hi]
    · have hfin : regA g who s = .nils := if_neg fun q => hw q.2
      have hw' : (who == 0 || who == 1) = false := by
        cases q : (who == 0 || who == 1) with
        | false => rfl
        | true => exact absurd (by simpa using q) hw
      have sP := r9_Player who
      rw [hw'] at sP
      refine AW.seq fun _ k2 => AW.regionAt 2 [] Θ_ok fun B hB => ?_
      simp
      refine (r9_May g hf).use (by simp [G.av]) ?_
      refine hB _ ?_
      clear hB B
      refine vcOps_split 4 fun B hB => ?_
      simp [hm]
      refine sP.use (by simp) ?_
      refine hB _ ?_
      clear hB B
      simp
      refine k2 _ ?_
      refine AW.cond true (by simp [Int.natCast_inj]) (fun _ => ?_) (fun h => by cases h)
      refine AW.seq fun _ kr => AW.region [] Θ_ok ?_
      simp
      refine kr _ (AW.ret ?_)
      simp [Try.f38]
      exact Fin.refl ⟨hfin.symm, rfl⟩
  · have hfin : regA g who s = .nils := if_neg fun q => hm q.1
    refine AW.seq fun _ k2 => AW.regionAt 2 [] Θ_ok fun B hB => ?_
    simp
    refine (r9_May g hf).use (by simp [G.av]) ?_
    refine hB _ ?_
    clear hB B
    simp [hm]
    refine k2 _ ?_
    refine AW.cond true (by simp [Int.natCast_inj, hm]) (fun _ => ?_) (fun h => by cases h)
    refine AW.seq fun _ kr => AW.region [] Θ_ok ?_
    simp
    refine kr _ (AW.ret ?_)
    simp [Try.f38]
    exact Fin.refl ⟨hfin.symm, rfl⟩
end Go.Par
