import Derived.Test.YtlpfokngocdanaaAtF
import Derived.Test.YtlpfokngocdanaaAtG
set_option linter.unusedSimpArgs false
set_option linter.unusedVariables false
set_option maxRecDepth 8000
set_option maxHeartbeats 1000000
namespace Go.Par
open Go.Proofs

theorem law_AttractEnds (g : G) (hg : g.wide) (p : Int) (hp : DK.fits .int p) : Pure Try.prog 6 [g.av, .int .i64 p] (.bool true) := by
  have hf := hg.f
  have sl := l12_light g hf []
  have hlb : light12 g [] = true → ([] : List Bool).length ≤ 300 := fun h => by
    simp only [light12, Bool.and_eq_true, decide_eq_true_eq] at h; exact h.2
  generalize light12 g [] = lb at *
  intro h
  refine AC.body Θ_ok Try.func6 rfl rfl (Nat.le_of_ble_eq_true rfl) ?_
  refine AW.seq fun _ k1 => AW.region [] Θ_ok ?_
  simp
  refine k1 _ ?_
  by_cases h1 : lb = true
  · subst h1
    have ha3 := hlb rfl
    by_cases hm : mayE g = 0
    · have hn3 := (may_ok hm).1
      have hn2 := (may_ok hm).2.1
      refine AW.seq fun _ k1 => ?_
      refine AW.seq fun _ k2 => AW.regionAt 2 [] Θ_ok fun B hB => ?_
      simp
      refine sl.use (by simp [G.av]) ?_
      refine hB _ ?_
      clear hB B
      refine vcOps_split 4 fun B hB => ?_
      simp
      refine (r9_May g hf).use (by simp [G.av]) ?_
      refine hB _ ?_
      clear hB B
      simp [hm]
      refine k2 _ ?_
      refine AW.cond false (by simp [Int.natCast_inj]) (fun h => by cases h) (fun _ => ?_)
      refine AW.skip ?_
      simp
      refine k1 _ ?_
      refine AW.seq fun _ k1 => AW.region [] Θ_ok ?_
      simp
      refine k1 _ ?_
      have hw := who2_cases p
      change AW _ _ _ ⟨_, (1, .int .i64 (who2 p)) :: _, _⟩
      generalize who2 p = W at hw
      have hok : okP g W := ⟨hm, hw⟩
      have hs : IntKind.i64.wrap (1 - W) = 1 - W := wrap_id (by omega) (by omega)
      have sA := attract_Region g hf W [] (by simp)
      have sD := graph_Dead g hf (1 - W)
      rw [deadA, if_pos hm] at sD
      have sB := attract_Region g hf W (tab g.owner.length (deadP g (1 - W))) (by simp; omega)
      have sR := attract_Ranks g hf W (tab g.owner.length fun _ => true) (by simp; omega)
      rw [ranksA_eq, if_pos hok] at sR
      rw [regA, if_pos hok] at sA sB
      rw [reg_dead hm hw] at sB
      have hlA := regL_len g W []
      have hR : ∀ v (h : v < (ranksL g W (tab g.owner.length fun _ => true)).length), (ranksL g W (tab g.owner.length fun _ => true))[v] = 0 := by
        intro v h
        have hv : v < g.owner.length := by rwa [ranksL_len] at h
        rw [ranksL_get]
        exact rk_all (by simp [hasN, hv]) hv
      have lR := ranksL_len g W (tab g.owner.length fun _ => true)
      generalize ranksL g W (tab g.owner.length fun _ => true) = R at *
      generalize regL g W [] = A at *
      generalize tab g.owner.length (deadP g (1 - W)) = D at *
      refine AW.seq fun _ k1 => AW.draw [] 9 [] Θ_ok mixed (by kernel_rfl) (by kernel_rfl) ?_
      simp [vcDraw, vcPre, vcTail, callA, isAlloc, isLoad, effOp, obl, obA, mkOK, valA]
      refine ⟨_, sA.wk (by simp [G.av]), ?_⟩
      simp [hs]
      refine ⟨_, sD.wk (by simp [G.av]), ?_⟩
      try simp
      refine k1 _ ?_
      refine AW.seq fun _ k1 => AW.region [] Θ_ok ?_
      simp
      refine sB.use (by simp [G.av]) ?_
      refine k1 _ ?_
      refine AW.seq fun _ k1 => AW.region [39] Θ_ok ?_
      simp
      refine ⟨by omega, fun o ho => k1 _ ?_⟩
      rw [replicate_tab, flat_tab (fun _ _ => rfl)]
      refine AW.seq fun _ k1 => ?_
      refine AW.seq fun _ k2 => AW.region [] Θ_ok ?_
      simp
      refine k2 _ ?_
      refine AW.block ?_
      refine AW.loopI (X := Nat) (fun x => x ≤ g.owner.length) (fun x => ⟨67, [(1, .int .i64 W), (2, .rop [.ro false (ints g.owner), .ro false (rows g.next)]), (5, .ro true (bools A)), (7, .ro true (bools A)), (8, .mu o g.owner.length), (41, .int .i64 g.owner.length), (42, .int .i64 x)], upd h o (some ⟨tab g.owner.length fun i => .bool (decide (i < x)), 4, 1, true⟩)⟩) (fun x => g.owner.length - x) 0 (Nat.zero_le _) (GStep.eq (by simp) ?_) fun x hx => ?_
      · simp; exact subH.refl _
      refine AW.seq fun _ k2 => AW.region [] Θ_ok ?_
      simp
      refine k2 _ ?_
      by_cases hlt : x < g.owner.length
      · have inc := wrap_succ (show x < 9223372036854775807 by omega)
        have hset : (tab g.owner.length fun i => AV.bool (decide (i < x))).set x (.bool true) = tab g.owner.length fun i => .bool (decide (i < x + 1)) := by
          rw [set_tab]
          refine tab_congr fun i hi => ?_
          by_cases e : i = x
          · subst e; simp
          · by_cases h1 : i < x
            · simp [e, h1, show i < x + 1 by omega]
            · simp [e, h1, show ¬ i < x + 1 by omega]
        refine AW.seq fun _ k2 => AW.cond true (by simp [Int.natCast_inj, hlt]) (fun _ => ?_) (fun h => by cases h)
        refine AW.skip ?_
        simp
        refine k2 _ ?_
        refine AW.seq fun _ k2 => ?_
        refine AW.block ?_
        refine AW.seq fun _ k3 => AW.region [] Θ_ok ?_
        simp
        refine k3 _ ?_
        refine AW.region [] Θ_ok ?_
        simp [hlt]
        refine ⟨by omega, k2 _ ?_⟩
        refine AW.region [] Θ_ok ?_
        simp
        exact ⟨x + 1, by omega, by omega, GStep.eq (by simp [inc]) (subH_of_eq (congrArg (fun c => upd h o (some ⟨c, 4, 1, true⟩)) hset))⟩
      obtain rfl : x = g.owner.length := by omega
      refine AW.seq fun _ k2 => AW.cond false (by simp [Int.natCast_inj]) (fun h => by cases h) (fun _ => ?_)
      refine AW.exit ?_
      simp
      refine k1 _ ?_
      refine AW.freeze 8 true rfl (upd_same _ _ _) (fun _ => rfl) rfl (by simp) (ones_bools _ _) ?_
      have e2 : (tab g.owner.length fun i => AV.bool (decide (i < g.owner.length))) = bools (tab g.owner.length fun _ => true) := by
        simp only [bools, map_tab]
        exact tab_congr fun i hi => by simp [hi]
      simp only [upd_upd, upd_none_id ho]
      generalize (tab g.owner.length fun _ => true) = U at *
      refine AW.seq fun _ k1 => ?_
      refine AW.seq fun _ k2 => AW.regionAt 4 [] Θ_ok fun B hB => ?_
      simp [e2]
      refine sR.use (by simp [G.av]) ?_
      refine hB _ ?_
      clear hB B
      simp
      refine k2 _ ?_
      refine AW.block ?_
      refine AW.loopI (X := Nat) (fun x => x ≤ R.length) (fun x => ⟨67, [(5, .ro true (bools A)), (7, .ro true (bools A)), (52, .ro true (ints R)), (53, .int .i64 R.length), (54, .int .i64 x)], h⟩) (fun x => R.length - x) 0 (Nat.zero_le _) (GStep.eq (by simp) (subH.refl _)) fun x hx => ?_
      refine AW.seq fun _ k2 => AW.region [] Θ_ok ?_
      simp
      refine k2 _ ?_
      by_cases hlt : x < R.length
      · have inc := wrap_succ (show x < 9223372036854775807 by omega)
        have h0 := hR x hlt
        refine AW.seq fun _ k2 => AW.cond true (by simp [Int.natCast_inj, hlt]) (fun _ => ?_) (fun h => by cases h)
        refine AW.skip ?_
        simp
        refine k2 _ ?_
        refine AW.seq fun _ k2 => ?_
        refine AW.block ?_
        refine AW.seq fun _ k3 => AW.region [] Θ_ok ?_
        simp [hlt, h0]
        refine k3 _ ?_
        refine AW.seq fun _ k3 => AW.region [] Θ_ok ?_
        simp
        refine k3 _ ?_
        refine AW.cond false (by simp [Int.natCast_inj]) (fun h => by cases h) (fun _ => ?_)
        refine AW.skip ?_
        simp
        refine k2 _ ?_
        refine AW.region [] Θ_ok ?_
        simp
        exact ⟨x + 1, by omega, by omega, GStep.eq (by simp [inc]) (subH.refl _)⟩
      obtain rfl : x = R.length := by omega
      refine AW.seq fun _ k2 => AW.cond false (by simp [Int.natCast_inj]) (fun h => by cases h) (fun _ => ?_)
      refine AW.exit ?_
      simp
      refine k1 _ ?_
      refine AW.seq fun _ kr => AW.regionAt 3 [] Θ_ok fun B hB => ?_
      simp
      refine (r9_SameRow A A (by omega)).use (by simp) ?_
      refine hB _ ?_
      clear hB B
      simp
      refine l12_awake.use (by simp) ?_
      refine kr _ (AW.ret ?_)
      simp [Try.f6]
      exact Fin.refl ⟨rfl, rfl⟩
    · refine AW.seq fun _ k1 => ?_
      refine AW.seq fun _ k2 => AW.regionAt 2 [] Θ_ok fun B hB => ?_
      simp
      refine sl.use (by simp [G.av]) ?_
      refine hB _ ?_
      clear hB B
      refine vcOps_split 4 fun B hB => ?_
      simp
      refine (r9_May g hf).use (by simp [G.av]) ?_
      refine hB _ ?_
      clear hB B
      simp [hm]
      refine k2 _ ?_
      refine AW.cond true (by simp [Int.natCast_inj, hm]) (fun _ => ?_) (fun h => by cases h)
      refine AW.seq fun _ kr => AW.region [] Θ_ok ?_
      simp
      refine (l12_awake).use (by simp [G.av]) ?_
      try simp
      refine kr _ (AW.ret ?_)
      simp [Try.f6]
      exact Fin.refl ⟨rfl, rfl⟩
  · have h1 : lb = false := by simpa using h1
    subst h1
    refine AW.seq fun _ k1 => ?_
    refine AW.seq fun _ k2 => AW.regionAt 2 [] Θ_ok fun B hB => ?_
    simp
    refine sl.use (by simp [G.av]) ?_
    refine hB _ ?_
    clear hB B
    simp
    refine k2 _ ?_
    refine AW.cond true (by simp [Int.natCast_inj]) (fun _ => ?_) (fun h => by cases h)
    refine AW.seq fun _ kr => AW.region [] Θ_ok ?_
    simp
    refine (l12_awake).use (by simp [G.av]) ?_
    try simp
    refine kr _ (AW.ret ?_)
    simp [Try.f6]
    exact Fin.refl ⟨rfl, rfl⟩
end Go.Par
