import Derived.Test.YtlpfokngocdanaaAtF
import Derived.Test.YtlpfokngocdanaaAtG
set_option linter.unusedSimpArgs false
set_option linter.unusedVariables false
set_option maxRecDepth 8000
set_option maxHeartbeats 1000000
namespace Go.Par
open Go.Proofs

theorem law_AttractLayers (g : G) (hg : g.wide) (p : Int) (hp : DK.fits .int p) (a : List Bool) (ha : (DK.sl .bool).fits a) (q : Int) (hq : DK.fits .int q) : Pure Try.prog 8 [g.av, .int .i64 p, .ro false (bools a), .int .i64 q] (.bool true) := by
  have hf := hg.f
  have sl := l12_light g hf a
  have hlb : light12 g a = true → (a : List Bool).length ≤ 300 := fun h => by
    simp only [light12, Bool.and_eq_true, decide_eq_true_eq] at h; exact h.2
  generalize light12 g a = lb at *
  intro h
  refine AC.body Θ_ok Try.func8 rfl rfl (Nat.le_of_ble_eq_true rfl) ?_
  refine AW.seq fun _ k1 => AW.region [] Θ_ok ?_
  simp
  refine k1 _ ?_
  by_cases h1 : lb = true
  · subst h1
    have ha3 := hlb rfl
    by_cases hm : mayE g = 0
    · have hn3 := (may_ok hm).1
      have hn2 := (may_ok hm).2.1
      refine AW.seq fun _ k1 => ?_
      refine AW.seq fun _ k2 => AW.regionAt 3 [] Θ_ok fun B hB => ?_
      simp
      refine sl.use (by simp [G.av]) ?_
      refine hB _ ?_
      clear hB B
      refine vcOps_split 4 fun B hB => ?_
      simp
      refine (r9_May g hf).use (by simp [G.av]) ?_
      refine hB _ ?_
      clear hB B
      simp [hm]
      refine k2 _ ?_
      refine AW.cond false (by simp [Int.natCast_inj]) (fun h => by cases h) (fun _ => ?_)
      refine AW.skip ?_
      simp
      refine k1 _ ?_
      refine AW.seq fun _ k1 => AW.region [] Θ_ok ?_
      simp
      refine k1 _ ?_
      have hw := who2_cases p
      change AW _ _ _ ⟨_, (1, .int .i64 (who2 p)) :: _, _⟩
      generalize who2 p = W at hw
      have hok : okP g W := ⟨hm, hw⟩
      have hokF : okForce g W := ⟨hm, hw⟩
      have hs : IntKind.i64.wrap (1 - W) = 1 - W := wrap_id (by omega) (by omega)
      obtain ⟨u, hun, hu1⟩ := mod_nat q (show 0 < g.owner.length + 2 by omega) (by omega)
      rw [show ((g.owner.length + 2 : Nat) : Int) = (g.owner.length : Int) + 2 by omega] at hu1
      have w1 : IntKind.i64.wrap ((g.owner.length : Int) + 2) = (g.owner.length : Int) + 2 := wrap_id (by omega) (by omega)
      have w2 : IntKind.u64.wrap ((g.owner.length : Int) + 2) = (g.owner.length : Int) + 2 := by rw [IntKind.wrap_u64]; omega
      have w0 : ¬ (g.owner.length : Int) + 2 = 0 := by omega
      obtain ⟨K, hK⟩ : ∃ K, K = u + 1 := ⟨_, rfl⟩
      have w3 : IntKind.i64.wrap (1 + (u : Int)) = (K : Int) := by rw [hK, wrap_id (by omega) (by omega)]; omega
      refine AW.seq fun _ k1 => AW.region [] Θ_ok ?_
      simp [w1, w2, w0, hu1, w3]
      refine k1 _ ?_
      have sR := attract_Ranks g hf W a (by omega)
      rw [ranksA_eq, if_pos hok] at sR
      have lR := ranksL_len g W a
      obtain ⟨P, hP⟩ : ∃ P : Nat → Bool, P = fun i => decide (0 ≤ (ranksL g W a).getD i 0) && decide ((ranksL g W a).getD i 0 < K) := ⟨_, rfl⟩
      obtain ⟨Q, hQ⟩ : ∃ Q : Nat → Bool, Q = fun i => decide (0 ≤ (ranksL g W a).getD i 0) && decide ((ranksL g W a).getD i 0 ≤ K) := ⟨_, rfl⟩
      have eP : tab g.owner.length P = lev g W a u := by
        rw [lev_tab, hP]
        refine tab_congr fun v hv => ?_
        rw [ranksL_getD hv]
        congr 1
        by_cases c : rkN g W a v ≤ u
        · simp [c, show rkN g W a v < K by omega]
        · simp [c, show ¬ rkN g W a v < K by omega]
      have eQ : tab g.owner.length Q = lev g W a (u + 1) := by
        rw [lev_tab, hQ, ← hK]
        exact tab_congr fun v hv => by rw [ranksL_getD hv]
      have hPx : ∀ x (h : x < (ranksL g W a).length), P x = (decide (0 ≤ (ranksL g W a)[x]) && decide ((ranksL g W a)[x] < K)) := fun x h => by simp [hP, h]
      have hQx : ∀ x (h : x < (ranksL g W a).length), Q x = (decide (0 ≤ (ranksL g W a)[x]) && decide ((ranksL g W a)[x] ≤ K)) := fun x h => by simp [hQ, h]
      clear hP hQ
      generalize ranksL g W a = R at *
      refine AW.seq fun _ k1 => AW.regionAt 4 [] Θ_ok fun B hB => ?_
      simp
      refine sR.use (by simp [G.av]) ?_
      refine hB _ ?_
      clear hB B
      simp
      refine k1 _ ?_
      refine AW.seq fun _ k1 => ?_
      refine AW.seq fun _ k2 => AW.region [] Θ_ok ?_
      simp [lR]
      refine k2 _ ?_
      refine AW.cond false (by simp [Int.natCast_inj]) (fun h => by cases h) (fun _ => ?_)
      refine AW.skip ?_
      simp
      refine k1 _ ?_
      refine AW.seq fun _ k1 => AW.draw [50, 53] 8 [] Θ_ok mixed (by kernel_rfl) (by kernel_rfl) ?_
      simp [vcDraw, vcPre, vcTail, callA, isAlloc, isLoad, effOp, obl, obA, mkOK, valA]
      have b2 : (R.length : Int) ≤ 140737488355328 := by omega
      refine ⟨b2, fun o1 h1 => ⟨b2, fun o2 h2 => k1 _ ?_⟩⟩
      have hne : o1 ≠ o2 := by rintro rfl; rw [upd_same] at h2; cases h2
      rw [upd_ne _ _ (Ne.symm hne)] at h2
      obtain ⟨u1, u2⟩ := upd_two (h := h) hne
      rw [replicate_tab, flat_tab (fun _ _ => rfl)]
      refine AW.seq fun _ k1 => ?_
      refine AW.seq fun _ k2 => AW.region [] Θ_ok ?_
      simp
      refine k2 _ ?_
      refine AW.block ?_
      refine AW.loopI (X := Nat) (fun x => x ≤ R.length) (fun x => ⟨94, [(1, .int .i64 W), (3, .int .i64 K), (4, .rop [.ro false (ints g.owner), .ro false (rows g.next)]), (10, .mu o1 R.length), (11, .mu o2 R.length), (54, .ro true (ints R)), (55, .int .i64 R.length), (56, .int .i64 x)], upd (upd h o1 (some ⟨stB R.length x P, 4, 1, true⟩)) o2 (some ⟨stB R.length x Q, 4, 1, true⟩)⟩) (fun x => R.length - x) 0 (Nat.zero_le _) (GStep.eq (by simp) (subH_of_eq (by rw [← stB_zero, ← stB_zero]))) fun x hx => ?_
      refine AW.seq fun _ k2 => AW.region [] Θ_ok ?_
      simp
      refine k2 _ ?_
      by_cases hlt : x < R.length
      · have inc := wrap_succ (show x < 9223372036854775807 by omega)
        have sP := stB_set R.length x P
        have sQ := stB_set R.length x Q
        have px := hPx x hlt
        have qx := hQx x hlt
        rw [px] at sP
        rw [qx] at sQ
        refine AW.seq fun _ k2 => AW.cond true (by simp [Int.natCast_inj, hlt]) (fun _ => ?_) (fun h => by cases h)
        refine AW.skip ?_
        simp
        refine k2 _ ?_
        refine AW.seq fun _ k2 => ?_
        refine AW.block ?_
        refine AW.seq fun _ k3 => AW.region [] Θ_ok ?_
        simp [hlt]
        refine k3 _ ?_
        by_cases c1 : 0 ≤ R[x]
        · have c1' : ¬ R[x] < 0 := by omega
          have t1 : (decide (0 ≤ R[x]) && decide (R[x] < (K : Int))) = decide (R[x] < (K : Int)) := by simp [c1]
          have t2 : (decide (0 ≤ R[x]) && decide (R[x] ≤ (K : Int))) = decide (R[x] ≤ (K : Int)) := by simp [c1]
          rw [t1] at sP
          rw [t2] at sQ
          refine AW.region [] Θ_ok ?_
          simp [hlt, c1, u1, u2, sP, sQ, upd_upd]
          refine ⟨by omega, k2 _ ?_⟩
          refine AW.region [] Θ_ok ?_
          simp
          exact ⟨x + 1, by omega, by omega, GStep.eq (by simp [inc]) (subH.refl _)⟩
        · have t1 : (decide (0 ≤ R[x]) && decide (R[x] < (K : Int))) = false := by simp [c1]
          have t2 : (decide (0 ≤ R[x]) && decide (R[x] ≤ (K : Int))) = false := by simp [c1]
          have c1' : R[x] < 0 := by omega
          rw [t1] at sP
          rw [t2] at sQ
          refine AW.region [] Θ_ok ?_
          simp [hlt, c1, c1', u1, u2, sP, sQ, upd_upd]
          refine ⟨by omega, k2 _ ?_⟩
          refine AW.region [] Θ_ok ?_
          simp
          exact ⟨x + 1, by omega, by omega, GStep.eq (by simp [inc]) (subH.refl _)⟩
      obtain rfl : x = R.length := by omega
      refine AW.seq fun _ k2 => AW.cond false (by simp [Int.natCast_inj]) (fun h => by cases h) (fun _ => ?_)
      refine AW.exit ?_
      simp
      refine k1 _ ?_
      refine AW.freeze 10 true rfl (u1 _ _) (fun _ => rfl) rfl (by simp) (stB_ones _ _ _) ?_
      simp only [u2, upd_none_id h1]
      refine AW.freeze 11 true rfl (upd_same _ _ _) (fun _ => rfl) rfl (by simp) (stB_ones _ _ _) ?_
      simp only [upd_upd, upd_none_id h2, stB_full]
      rw [lR, eP, eQ]
      have sF := pre_Force g hf W (lev g W a u)
      rw [forceA, if_pos hokF] at sF
      have sO := pre_Or g (lev g W a u) (forceL g W (lev g W a u)) hf.owner
      rw [show orL g (lev g W a u) (forceL g W (lev g W a u)) = lev g W a (u + 1) from rfl] at sO
      have lE := lev_len (g := g) (who := W) (a := a) (u + 1)
      generalize lev g W a (u + 1) = E at *
      generalize forceL g W (lev g W a u) = Fo at *
      generalize lev g W a u = E0 at *
      refine AW.seq fun _ kr => AW.draw [] 13 [] Θ_ok mixed (by kernel_rfl) (by kernel_rfl) ?_
      refine vcDraw_split 6 fun B hB => ?_
      simp [vcPre, vcTail, callA, isAlloc, isLoad, effOp, obl, obA, mkOK, valA]
      refine ⟨_, sF.wk (by simp [G.av]), ?_⟩
      refine hB _ _ _ ?_
      clear hB B
      refine vcPre_split 1 fun B hB => ?_
      simp [vcPre, vcTail, callA, isAlloc, isLoad, effOp, obl, obA, mkOK, valA]
      refine ⟨_, sO.wk (by simp [G.av]), ?_⟩
      refine hB _ _ _ ?_
      clear hB B
      refine vcPre_split 2 fun B hB => ?_
      simp [vcPre, vcTail, callA, isAlloc, isLoad, effOp, obl, obA, mkOK, valA]
      refine ⟨_, (r9_SameRow E E (by omega)).wk (by simp), ?_⟩
      refine hB _ _ _ ?_
      clear hB B
      refine vcPre_split 2 fun B hB => ?_
      simp [vcPre, vcTail, callA, isAlloc, isLoad, effOp, obl, obA, mkOK, valA]
      refine ⟨_, l12_awake.wk (by simp), ?_⟩
      refine hB _ _ _ ?_
      clear hB B
      simp [vcPre, vcTail, callA, isAlloc, isLoad, effOp, obl, obA, mkOK, valA]
      refine kr _ (AW.ret ?_)
      simp [Try.f8]
      exact Fin.refl ⟨rfl, rfl⟩
    · refine AW.seq fun _ k1 => ?_
      refine AW.seq fun _ k2 => AW.regionAt 3 [] Θ_ok fun B hB => ?_
      simp
      refine sl.use (by simp [G.av]) ?_
      refine hB _ ?_
      clear hB B
      refine vcOps_split 4 fun B hB => ?_
      simp
      refine (r9_May g hf).use (by simp [G.av]) ?_
      refine hB _ ?_
      clear hB B
      simp [hm]
      refine k2 _ ?_
      refine AW.cond true (by simp [Int.natCast_inj, hm]) (fun _ => ?_) (fun h => by cases h)
      refine AW.seq fun _ kr => AW.region [] Θ_ok ?_
      simp
      refine (l12_awake).use (by simp [G.av]) ?_
      try simp
      refine kr _ (AW.ret ?_)
      simp [Try.f8]
      exact Fin.refl ⟨rfl, rfl⟩
  · have h1 : lb = false := by simpa using h1
    subst h1
    refine AW.seq fun _ k1 => ?_
    refine AW.seq fun _ k2 => AW.regionAt 3 [] Θ_ok fun B hB => ?_
    simp
    refine sl.use (by simp [G.av]) ?_
    refine hB _ ?_
    clear hB B
    simp
    refine k2 _ ?_
    refine AW.cond true (by simp [Int.natCast_inj]) (fun _ => ?_) (fun h => by cases h)
    refine AW.seq fun _ kr => AW.region [] Θ_ok ?_
    simp
    refine (l12_awake).use (by simp [G.av]) ?_
    try simp
    refine kr _ (AW.ret ?_)
    simp [Try.f8]
    exact Fin.refl ⟨rfl, rfl⟩
end Go.Par
