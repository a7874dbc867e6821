import Derived.Test.YtmmfdmhjkcbobaaWgA
import Derived.Test.YtmmfdmhjkcbobaaPrG
set_option linter.unusedSimpArgs false
set_option linter.unusedVariables false
set_option maxRecDepth 8000
set_option maxHeartbeats 1000000
namespace Go.Par
open Go.Proofs

def fwL (W : List Int) (who : Int) (y : Nat) : List Bool := tab W.length fun v => decide (v < y) && decide (fI W v = who)
theorem fwL_len (W : List Int) (who : Int) (y : Nat) : (fwL W who y).length = W.length := length_tab _ _
theorem fwL_zero (W : List Int) (who : Int) : fwL W who 0 = List.replicate W.length false := by
  rw [replicate_tab]; exact tab_congr fun i _ => by simp
theorem fwL_set (W : List Int) (who : Int) (x : Nat) : (fwL W who x).set x (decide (fI W x = who)) = fwL W who (x + 1) := by
  unfold fwL
  rw [set_tab]
  refine tab_congr fun i _ => ?_
  by_cases e : i = x
  · subst e; simp
  · by_cases h : i < x
    · simp [e, h, show i < x + 1 by omega]
    · simp [e, h, show ¬ i < x + 1 by omega]
theorem fwL_has {W : List Int} {who : Int} {v : Nat} (h : hasN (fwL W who W.length) v = true) : fI W v = who := by
  have hv := hasN_lt h
  rw [fwL_len] at hv
  rw [hasN, fwL, getD_tab, if_pos hv] at h
  simp [hv] at h
  simp [fI, hv]
  exact h

theorem law_ParityRight (g : G) (hg : g.wide) (P : List Int) (hP : (DK.sl .int).fits P) : Pure Try.prog 4 [g.av, .ro false (ints P)] (.bool true) := by
  have hf := hg.f
  have hPl : P.length ≤ 1152921504606846976 := by
    have : P.length * 8 ≤ reachBytes := hP.1
    unfold reachBytes at this
    omega
  have sH := l15_Heavy g hf P
  have sM := r9_MayPrio g hf P hPl
  have sS := parity_Solve g hf P hPl
  intro h
  refine AC.body Θ_ok Try.func4 rfl rfl (Nat.le_of_ble_eq_true rfl) ?_
  refine AW.seq fun _ k1 => AW.region [] Θ_ok ?_
  simp
  refine k1 _ ?_
  refine AW.seq fun _ k1 => ?_
  by_cases h1 : 0 < heavy15 g P
  · refine AW.seq fun _ k2 => AW.regionAt 3 [] Θ_ok fun B hB => ?_
    simp
    refine sH.use (by simp [G.av]) ?_
    refine hB _ ?_
    clear hB B
    simp [h1]
    refine k2 _ ?_
    refine AW.cond true (by simp [Int.natCast_inj]) (fun _ => ?_) (fun h => by cases h)
    refine AW.seq fun _ kr => AW.region [] Θ_ok ?_
    simp
    refine (l15_awake).use (by simp [G.av]) ?_
    try simp
    refine kr _ (AW.ret ?_)
    simp [Try.f4]
    exact Fin.refl ⟨rfl, rfl⟩
  have h1' := Int.not_lt.1 h1
  by_cases hm : mayP g P = true
  · rw [hm] at sM
    rw [solA, if_pos hm] at sS
    have ok := mayP_ok hm
    have hn := (may_ok ok.m).1
    have hlP := ok.len
    have lW : (winL g P).length = g.owner.length := (zfin_spec ok).2.2.1
    have lT : (toL g P).length = g.owner.length := length_tab _ _
    have hwin : ∀ v (h1 : v < (winL g P).length), (winL g P)[v] = 0 ∨ (winL g P)[v] = 1 := fun v h1 => by
      have := solve_win ok (v := v) (by omega)
      simpa [fI, h1] using this
    have hW : ∀ who : Int, who = 0 ∨ who = 1 → winsB g P who (toL g P) (fwL (winL g P) who (winL g P).length) = true := fun who hw =>
      wins_of hm hw ((solve_wn ok hw).congrT fun v hv => by simp [toT, fI, show v < (toL g P).length by omega]) fun v hv hv2 => ⟨hv, fwL_has hv2⟩
    have sW := fun who from_ => r9_Wins g hf P hPl who (toL g P) from_
    generalize toL g P = T at *
    generalize winL g P = W at *
    refine AW.seq fun _ k2 => AW.regionAt 3 [] Θ_ok fun B hB => ?_
    simp
    refine sH.use (by simp [G.av]) ?_
    refine hB _ ?_
    clear hB B
    refine vcOps_split 5 fun B hB => ?_
    simp [h1, h1']
    refine sM.use (by simp [G.av]) ?_
    refine hB _ ?_
    clear hB B
    simp
    refine k2 _ ?_
    refine AW.cond false (by simp [Int.natCast_inj]) (fun h => by cases h) (fun _ => ?_)
    refine AW.skip ?_
    simp
    refine k1 _ ?_
    refine AW.seq fun _ k1 => AW.regionAt 3 [] Θ_ok fun B hB => ?_
    simp
    refine sS.use (by simp [G.av]) ?_
    refine hB _ ?_
    clear hB B
    simp
    refine k1 _ ?_
    refine AW.seq fun _ k1 => ?_
    refine AW.seq fun _ k2 => AW.region [] Θ_ok ?_
    simp [lW, lT, hlP]
    refine k2 _ ?_
    refine AW.cond false (by simp [Int.natCast_inj]) (fun h => by cases h) (fun _ => ?_)
    refine AW.skip ?_
    simp
    refine k1 _ ?_
    refine AW.seq fun _ k1 => ?_
    refine AW.seq fun _ k2 => AW.region [] Θ_ok ?_
    simp
    refine k2 _ ?_
    refine AW.block ?_
    refine AW.loopI (X := Nat) (fun x => x ≤ 2) (fun x => ⟨81, [(1, .ro false (ints P)), (2, .rop [.ro false (ints g.owner), .ro false (rows g.next)]), (5, .ro true (ints W)), (6, .ro true (ints T)), (39, .int .i64 x)], h⟩) (fun x => 2 - x) 0 (Nat.zero_le _) (GStep.eq (by simp) (subH.refl _)) fun x hx => ?_
    refine AW.seq fun _ k2 => AW.region [] Θ_ok ?_
    simp
    refine k2 _ ?_
    by_cases hlt : x < 2
    · have inc := wrap_succ (show x < 9223372036854775807 by omega)
      have hlt' : (x : Int) < 2 := by omega
      have sWx := sW x (fwL W x W.length)
      rw [hW x (by omega)] at sWx
      refine AW.seq fun _ k2 => AW.cond true (by simp [Int.natCast_inj, hlt, hlt']) (fun _ => ?_) (fun h => by cases h)
      refine AW.skip ?_
      simp
      refine k2 _ ?_
      refine AW.seq fun _ k2 => ?_
      refine AW.block ?_
      refine AW.seq fun _ k3 => AW.region [] Θ_ok ?_
      simp
      refine k3 _ ?_
      refine AW.seq fun _ k3 => AW.region [44] Θ_ok ?_
      simp
      refine ⟨by omega, fun q hq => k3 _ ?_⟩
      rw [replicate_tab, flat_tab (fun _ _ => rfl), ← replicate_tab]
      have hb0 : (⟨List.replicate W.length (.bool false), 4, 1, true⟩ : Ob) = obBk (fwL W x 0) := by
        rw [fwL_zero]; simp [obBk]
      rw [hb0]
      obtain ⟨BL, hBL⟩ : ∃ BL, BL = fwL W x W.length := ⟨_, rfl⟩
      have lBL : BL.length = W.length := by rw [hBL]; exact fwL_len _ _ _
      refine AW.seqTo ⟨81, [(1, .ro false (ints P)), (2, .rop [.ro false (ints g.owner), .ro false (rows g.next)]), (5, .ro true (ints W)), (6, .ro true (ints T)), (7, .int .i64 x), (8, .ro true (bools BL)), (39, .int .i64 x)], h⟩ (fun _ k3 => ?_) ?_
      · refine AW.seq fun _ k4 => AW.region [] Θ_ok ?_
        simp
        refine k4 _ ?_
        refine AW.block ?_
        refine AW.loopI (X := Nat) (fun y => y ≤ W.length) (fun y => ⟨81, [(1, .ro false (ints P)), (2, .rop [.ro false (ints g.owner), .ro false (rows g.next)]), (5, .ro true (ints W)), (6, .ro true (ints T)), (7, .int .i64 x), (8, .mu q W.length), (39, .int .i64 x), (46, .int .i64 W.length), (47, .int .i64 y)], upd h q (some (obBk (fwL W x y)))⟩) (fun y => W.length - y) 0 (Nat.zero_le _) (GStep.eq (by simp) (subH.refl _)) fun y hy => ?_
        have hqq : upd h q (some (obBk (fwL W x y))) q = some (obBk (fwL W x y)) := upd_same _ _ _
        refine AW.seq fun _ k5 => AW.region [] Θ_ok ?_
        simp
        refine k5 _ ?_
        by_cases hly : y < W.length
        · have incy := wrap_succ (show y < 9223372036854775807 by omega)
          have q3 := hwin y hly
          have st := fwL_set W x y
          have hset := mapk_set (fwL W x y) y (decide (fI W y = x))
          rw [st] at hset
          have eW : fI W y = W[y] := by simp [fI, hly]
          rw [eW] at hset
          obtain ⟨w, hw⟩ : ∃ w, W[y] = w := ⟨_, rfl⟩
          rw [hw] at q3 hset
          rw [show decide (w = (x : Int)) = (w == (x : Int)) from rfl] at hset
          refine AW.seq fun _ k5 => AW.cond true (by simp [Int.natCast_inj, hly]) (fun _ => ?_) (fun h => by cases h)
          refine AW.skip ?_
          simp
          refine k5 _ ?_
          refine AW.seq fun _ k5 => ?_
          refine AW.block ?_
          refine AW.seq fun _ k6 => AW.region [] Θ_ok ?_
          simp
          refine k6 _ ?_
          refine AW.seq fun _ k8 => ?_
          by_cases h0 : w = 0
          · refine AW.seq fun _ k7 => AW.region [] Θ_ok ?_
            simp [hly, hw, h0]
            refine k7 _ ?_
            refine AW.cond false (by simp [Int.natCast_inj]) (fun h => by cases h) (fun _ => ?_)
            refine AW.skip ?_
            simp
            refine k8 _ ?_
            refine AW.region [] Θ_ok ?_
            simp [hly, hw, hqq, fwL_len, hset, obBk_mk]
            refine ⟨hly, k5 _ ?_⟩
            refine AW.region [] Θ_ok ?_
            simp
            exact ⟨y + 1, by omega, by omega, GStep.eq (by simp [incy]) (subH.refl _)⟩
          · have h0' : w = 1 := by omega
            refine AW.seq fun _ k7 => AW.region [] Θ_ok ?_
            simp [hly, hw, h0']
            refine k7 _ ?_
            refine AW.cond false (by simp [Int.natCast_inj]) (fun h => by cases h) (fun _ => ?_)
            refine AW.skip ?_
            simp
            refine k8 _ ?_
            refine AW.region [] Θ_ok ?_
            simp [hly, hw, hqq, fwL_len, hset, obBk_mk]
            refine ⟨hly, k5 _ ?_⟩
            refine AW.region [] Θ_ok ?_
            simp
            exact ⟨y + 1, by omega, by omega, GStep.eq (by simp [incy]) (subH.refl _)⟩
        · obtain rfl : y = W.length := by omega
          refine AW.seq fun _ k5 => AW.cond false (by simp [Int.natCast_inj]) (fun h => by cases h) (fun _ => ?_)
          refine AW.exit ?_
          simp
          rw [← hBL] at hqq ⊢
          refine k3 _ (GStep.trans (GStep.freeze (t := 8) (n := W.length) (k := true) (by simp) hqq (fun _ => rfl) rfl (by simp [lBL]) (fun u hu => by obtain ⟨z, _, rfl⟩ := List.mem_map.1 hu; rfl)) (GStep.eq (by simp [bools]) ?_))
          simp only
          rw [upd_upd, upd_none_id hq]; exact subH.refl _
      rw [← hBL] at sWx
      refine AW.seq fun _ k3 => AW.regionAt 6 [] Θ_ok fun B hB => ?_
      simp
      refine sWx.use (by simp [G.av]) ?_
      refine hB _ ?_
      clear hB B
      simp
      refine k3 _ ?_
      refine AW.cond false (by simp [Int.natCast_inj]) (fun h => by cases h) (fun _ => ?_)
      refine AW.skip ?_
      simp
      refine k2 _ ?_
      refine AW.region [] Θ_ok ?_
      simp
      exact ⟨x + 1, by omega, by omega, GStep.eq (by simp [inc]) (subH.refl _)⟩
    · obtain rfl : x = 2 := by omega
      refine AW.seq fun _ k2 => AW.cond false (by simp [Int.natCast_inj]) (fun h => by cases h) (fun _ => ?_)
      refine AW.exit ?_
      simp
      refine k1 _ ?_
      refine AW.seq fun _ kr => AW.region [] Θ_ok ?_
      simp
      refine (l15_awake).use (by simp [G.av]) ?_
      try simp
      refine kr _ (AW.ret ?_)
      simp [Try.f4]
      exact Fin.refl ⟨rfl, rfl⟩
  · rw [show mayP g P = false by simpa using hm] at sM
    refine AW.seq fun _ k2 => AW.regionAt 3 [] Θ_ok fun B hB => ?_
    simp
    refine sH.use (by simp [G.av]) ?_
    refine hB _ ?_
    clear hB B
    refine vcOps_split 5 fun B hB => ?_
    simp [h1, h1']
    refine sM.use (by simp [G.av]) ?_
    refine hB _ ?_
    clear hB B
    simp
    refine k2 _ ?_
    refine AW.cond true (by simp [Int.natCast_inj]) (fun _ => ?_) (fun h => by cases h)
    refine AW.seq fun _ kr => AW.region [] Θ_ok ?_
    simp
    refine (l15_awake).use (by simp [G.av]) ?_
    try simp
    refine kr _ (AW.ret ?_)
    simp [Try.f4]
    exact Fin.refl ⟨rfl, rfl⟩
end Go.Par
