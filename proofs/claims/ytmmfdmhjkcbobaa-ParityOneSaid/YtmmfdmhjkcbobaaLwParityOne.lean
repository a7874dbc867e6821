import Derived.Test.YtmmfdmhjkcbobaaPhA
import Derived.Test.YtmmfdmhjkcbobaaPhB
import Derived.Test.YtmmfdmhjkcbobaaPyD
import Derived.Test.YtmmfdmhjkcbobaaRkC
set_option linter.unusedSimpArgs false
set_option linter.unusedVariables false
set_option maxRecDepth 8000
set_option maxHeartbeats 1000000
namespace Go.Par
open Go.Proofs

def mod6 (p : Int) : Int := IntKind.i64.wrap ((IntKind.u64.wrap p).tmod 6)
theorem mod6_lt (p : Int) : 0 ≤ mod6 p ∧ mod6 p ≤ 5 := by
  have h1 : 0 ≤ IntKind.u64.wrap p := by rw [IntKind.wrap_u64]; omega
  have h2 : (IntKind.u64.wrap p).tmod 6 = (IntKind.u64.wrap p) % 6 := Int.tmod_eq_emod_of_nonneg h1
  rw [mod6, h2, IntKind.wrap_i64]
  omega
theorem par_tmod {c : Int} (h0 : 0 ≤ c) : c.tmod 2 = c % 2 := Int.tmod_eq_emod_of_nonneg h0

theorem law_ParityOne (g : G) (hg : g.wide) (p : Int) (hp : DK.fits .int p) : Pure Try.prog 6 [g.av, .int .i64 p] (.bool true) := by
  have hf := hg.f
  have sH := l15_Heavy g hf []
  intro h
  refine AC.body Θ_ok Try.func6 rfl rfl (Nat.le_of_ble_eq_true rfl) ?_
  refine AW.seq fun _ k1 => AW.region [] Θ_ok ?_
  simp
  refine k1 _ ?_
  refine AW.seq fun _ k1 => ?_
  by_cases h1 : 0 < heavy15 g []
  · refine AW.seq fun _ k2 => AW.regionAt 2 [] Θ_ok fun B hB => ?_
    simp
    refine sH.use (by simp [G.av]) ?_
    refine hB _ ?_
    clear hB B
    simp [h1]
    refine k2 _ ?_
    refine AW.cond true (by simp [Int.natCast_inj]) (fun _ => ?_) (fun h => by cases h)
    refine AW.seq fun _ kr => AW.region [] Θ_ok ?_
    simp
    refine (l15_awake).use (by simp [G.av]) ?_
    try simp
    refine kr _ (AW.ret ?_)
    simp [Try.f6]
    exact Fin.refl ⟨rfl, rfl⟩
  have h1' := Int.not_lt.1 h1
  by_cases hm : mayE g = 0
  · have hn := (may_ok hm).1
    refine AW.seq fun _ k2 => AW.regionAt 2 [] Θ_ok fun B hB => ?_
    simp
    refine sH.use (by simp [G.av]) ?_
    refine hB _ ?_
    clear hB B
    refine vcOps_split 4 fun B hB => ?_
    simp [h1, h1']
    refine (r9_May g hf).use (by simp [G.av]) ?_
    refine hB _ ?_
    clear hB B
    simp [hm]
    refine k2 _ ?_
    refine AW.cond false (by simp [Int.natCast_inj]) (fun h => by cases h) (fun _ => ?_)
    refine AW.skip ?_
    simp
    refine k1 _ ?_
    refine AW.seq fun _ k1 => AW.region [] Θ_ok ?_
    simp
    refine k1 _ ?_
    have hc := mod6_lt p
    change AW _ _ _ ⟨_, (1, .int .i64 (mod6 p)) :: _, _⟩
    generalize mod6 p = c at hc
    obtain ⟨c0, c5⟩ := hc
    refine AW.seq fun _ k1 => AW.region [28] Θ_ok ?_
    simp
    refine ⟨by omega, fun o ho => k1 _ ?_⟩
    have e0 : ((List.replicate g.owner.length (AV.int IntKind.i64 0)).flatMap AV.flat) = (pY g.owner.length 0 fun _ => c).map (AV.int .i64) := by
      rw [replicate_tab, flat_tab (fun _ _ => rfl), pY_zero]; simp
    rw [e0, obI_mk]
    refine AW.seq fun _ k1 => ?_
    refine AW.seq fun _ k2 => AW.region [] Θ_ok ?_
    simp
    refine k2 _ ?_
    refine AW.block ?_
    refine AW.loopI (X := Nat) (fun x => x ≤ g.owner.length) (fun x => ⟨75, [(1, .int .i64 c), (2, .rop [.ro false (ints g.owner), .ro false (rows g.next)]), (5, .mu o g.owner.length), (30, .int .i64 g.owner.length), (31, .int .i64 x)], upd h o (some (obI (pY g.owner.length x fun _ => c)))⟩) (fun x => g.owner.length - x) 0 (Nat.zero_le _) (GStep.eq (by simp) (subH.refl _)) fun x hx => ?_
    refine AW.seq fun _ k2 => AW.region [] Θ_ok ?_
    simp
    refine k2 _ ?_
    by_cases hlt : x < g.owner.length
    · have inc := wrap_succ (show x < 9223372036854775807 by omega)
      have lP := pY_len g.owner.length x fun _ => c
      have mP := map_set_int (pY g.owner.length x fun _ => c) x c
      rw [pY_set g.owner.length x fun _ => c] at mP
      refine AW.seq fun _ k2 => AW.cond true (by simp [Int.natCast_inj, hlt]) (fun _ => ?_) (fun h => by cases h)
      refine AW.skip ?_
      simp
      refine k2 _ ?_
      refine AW.seq fun _ k2 => ?_
      refine AW.block ?_
      refine AW.seq fun _ k3 => AW.region [] Θ_ok ?_
      simp
      refine k3 _ ?_
      refine AW.region [] Θ_ok ?_
      simp [hlt, lP, mP, obI_mk]
      refine ⟨by omega, k2 _ ?_⟩
      refine AW.region [] Θ_ok ?_
      simp
      exact ⟨x + 1, by omega, by omega, GStep.eq (by simp [inc]) (subH.refl _)⟩
    obtain rfl : x = g.owner.length := by omega
    refine AW.seq fun _ k2 => AW.cond false (by simp [Int.natCast_inj]) (fun h => by cases h) (fun _ => ?_)
    refine AW.exit ?_
    simp
    refine k1 _ ?_
    rw [pY_full]
    refine AW.freeze 5 true rfl (x := obI (tab g.owner.length fun _ => c)) (upd_same _ _ _) (fun _ => rfl) rfl (by simp) (fun u hu => by obtain ⟨z, _, rfl⟩ := List.mem_map.1 hu; rfl) ?_
    simp only [upd_upd, upd_none_id ho, obI_cells]
    change AW _ _ _ ⟨_, (5, .ro true (ints (tab g.owner.length fun _ => c))) :: _, _⟩
    obtain ⟨who, hwho⟩ : ∃ who : Int, who = if c % 2 = 1 then 0 else 1 := ⟨_, rfl⟩
    have hw : (who = 0 ∧ c % 2 = 1) ∨ (who = 1 ∧ c % 2 = 0) := by rw [hwho]; split <;> omega
    have hw1 : who = 0 ∨ who = 1 := by omega
    have sol := fun v (hv : v < g.owner.length) => one_sol hm c0 c5 hw hv
    have mP := tab_mayP hm (f := fun _ => c) fun _ _ => ⟨c0, c5⟩
    have ok := mayP_ok mP
    have lW : (winL g (tab g.owner.length fun _ => c)).length = g.owner.length := (zfin_spec ok).2.2.1
    have lL := regL_len g (1 - who) []
    have sS := parity_Solve g hf (tab g.owner.length fun _ => c) (by rw [length_tab]; omega)
    rw [solA, if_pos mP] at sS
    have sR := r9_Region g hf (1 - who) []
    rw [regA, if_pos ⟨hm, by omega⟩] at sR
    have hWL : ∀ v (h1 : v < (winL g (tab g.owner.length fun _ => c)).length) (h2 : v < (regL g (1 - who) []).length), (winL g (tab g.owner.length fun _ => c))[v] = if (regL g (1 - who) [])[v] = true then 1 - who else who := by
      intro v h1 h2
      have := sol v (by omega)
      simpa [fI, hasN, h1, h2] using this
    generalize winL g (tab g.owner.length fun _ => c) = W at *
    generalize toL g (tab g.owner.length fun _ => c) = W' at *
    generalize regL g (1 - who) [] = L at *
    generalize (tab g.owner.length fun _ => c) = P at *
    clear sol ok mP sH
    refine AW.seq fun _ k1 => AW.region [] Θ_ok ?_
    simp
    refine k1 _ ?_
    refine AW.seqTo ⟨75, [(2, .rop [.ro false (ints g.owner), .ro false (rows g.next)]), (5, .ro true (ints P)), (7, .int .i64 who)], h⟩ (fun _ k2 => ?_) ?_
    · have tm := par_tmod c0
      rcases hw with ⟨rfl, q⟩ | ⟨rfl, q⟩
      · rw [q] at tm
        refine AW.seq fun _ k4 => AW.region [] Θ_ok ?_
        simp [tm]
        refine k4 _ ?_
        refine AW.cond true (by simp [Int.natCast_inj]) (fun _ => ?_) (fun h => by cases h)
        refine AW.region [] Θ_ok ?_
        simp
        exact k2 _ (GStep.eq (by simp) (subH.refl _))
      · rw [q] at tm
        refine AW.seq fun _ k4 => AW.region [] Θ_ok ?_
        simp [tm]
        refine k4 _ ?_
        refine AW.cond false (by simp [Int.natCast_inj]) (fun h => by cases h) (fun _ => ?_)
        refine AW.skip ?_
        simp
        exact k2 _ (GStep.eq (by simp) (subH.refl _))
    have w1 : IntKind.i64.wrap (1 - who) = 1 - who := wrap_id (by omega) (by omega)
    refine AW.seq fun _ k1 => AW.regionAt 3 [] Θ_ok fun B hB => ?_
    simp
    refine sS.use (by simp [G.av]) ?_
    refine hB _ ?_
    clear hB B
    simp
    refine k1 _ ?_
    refine AW.seq fun _ k1 => AW.regionAt 4 [] Θ_ok fun B hB => ?_
    simp [w1]
    refine sR.use (by simp [G.av]) ?_
    refine hB _ ?_
    clear hB B
    simp
    refine k1 _ ?_
    refine AW.seq fun _ k1 => ?_
    refine AW.seq fun _ k2 => AW.region [] Θ_ok ?_
    simp [lW, lL]
    refine k2 _ ?_
    refine AW.cond false (by simp [Int.natCast_inj]) (fun h => by cases h) (fun _ => ?_)
    refine AW.skip ?_
    simp
    refine k1 _ ?_
    refine AW.seq fun _ k1 => ?_
    refine AW.seq fun _ k2 => AW.region [] Θ_ok ?_
    simp
    refine k2 _ ?_
    refine AW.block ?_
    refine AW.loopI (X := Nat) (fun x => x ≤ W.length) (fun x => ⟨75, [(7, .int .i64 who), (8, .ro true (ints W)), (10, .ro true (bools L)), (58, .int .i64 W.length), (59, .int .i64 x)], h⟩) (fun x => W.length - x) 0 (Nat.zero_le _) (GStep.eq (by simp) (subH.refl _)) fun x hx => ?_
    refine AW.seq fun _ k2 => AW.region [] Θ_ok ?_
    simp
    refine k2 _ ?_
    by_cases hlt : x < W.length
    · have inc := wrap_succ (show x < 9223372036854775807 by omega)
      have hltL : x < L.length := by omega
      have q1 := hWL x hlt hltL
      clear hWL
      refine AW.seq fun _ k2 => AW.cond true (by simp [Int.natCast_inj, hlt]) (fun _ => ?_) (fun h => by cases h)
      refine AW.skip ?_
      simp
      refine k2 _ ?_
      refine AW.seq fun _ k2 => ?_
      refine AW.block ?_
      refine AW.seq fun _ k3 => AW.region [] Θ_ok ?_
      simp
      refine k3 _ ?_
      cases hb : L[x] with
      | true =>
        rw [hb, if_pos rfl] at q1
        have q2 : ((1 - who) == who) = false := by simp; omega
        have q3 : ¬ (1 - who) = who := by omega
        refine AW.seq fun _ k3 => AW.draw [] 11 [] Θ_ok mixed (by kernel_rfl) (by kernel_rfl) ?_
        simp [vcDraw, vcPre, vcTail, callA, isAlloc, isLoad, effOp, obl, obA, mkOK, valA, hlt, hltL, q1, q2, q3, hb]
        refine k3 _ ?_
        refine AW.cond false (by simp [Int.natCast_inj]) (fun h => by cases h) (fun _ => ?_)
        refine AW.skip ?_
        simp
        refine k2 _ ?_
        refine AW.region [] Θ_ok ?_
        simp
        exact ⟨x + 1, by omega, by omega, GStep.eq (by simp [inc]) (subH.refl _)⟩
      | false =>
        rw [hb, if_neg (by decide)] at q1
        refine AW.seq fun _ k3 => AW.draw [] 11 [] Θ_ok mixed (by kernel_rfl) (by kernel_rfl) ?_
        simp [vcDraw, vcPre, vcTail, callA, isAlloc, isLoad, effOp, obl, obA, mkOK, valA, hlt, hltL, q1, hb]
        refine k3 _ ?_
        refine AW.cond false (by simp [Int.natCast_inj]) (fun h => by cases h) (fun _ => ?_)
        refine AW.skip ?_
        simp
        refine k2 _ ?_
        refine AW.region [] Θ_ok ?_
        simp
        exact ⟨x + 1, by omega, by omega, GStep.eq (by simp [inc]) (subH.refl _)⟩
    obtain rfl : x = W.length := by omega
    refine AW.seq fun _ k2 => AW.cond false (by simp [Int.natCast_inj]) (fun h => by cases h) (fun _ => ?_)
    refine AW.exit ?_
    simp
    refine k1 _ ?_
    refine AW.seq fun _ kr => AW.region [] Θ_ok ?_
    simp
    refine (l15_awake).use (by simp [G.av]) ?_
    try simp
    refine kr _ (AW.ret ?_)
    simp [Try.f6]
    exact Fin.refl ⟨rfl, rfl⟩
  · refine AW.seq fun _ k2 => AW.regionAt 2 [] Θ_ok fun B hB => ?_
    simp
    refine sH.use (by simp [G.av]) ?_
    refine hB _ ?_
    clear hB B
    refine vcOps_split 4 fun B hB => ?_
    simp [h1, h1']
    refine (r9_May g hf).use (by simp [G.av]) ?_
    refine hB _ ?_
    clear hB B
    simp [hm]
    refine k2 _ ?_
    refine AW.cond true (by simp [Int.natCast_inj, hm]) (fun _ => ?_) (fun h => by cases h)
    refine AW.seq fun _ kr => AW.region [] Θ_ok ?_
    simp
    refine (l15_awake).use (by simp [G.av]) ?_
    try simp
    refine kr _ (AW.ret ?_)
    simp [Try.f6]
    exact Fin.refl ⟨rfl, rfl⟩
end Go.Par
