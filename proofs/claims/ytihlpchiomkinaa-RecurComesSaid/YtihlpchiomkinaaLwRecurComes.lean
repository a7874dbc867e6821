import Derived.Test.YtihlpchiomkinaaRcC
import Derived.Test.YtihlpchiomkinaaAgB
set_option linter.unusedSimpArgs false
set_option linter.unusedVariables false
set_option maxRecDepth 8000
set_option maxHeartbeats 1000000
namespace Go.Par
open Go.Proofs

def twoY (n : Nat) (s : List Bool) (x : Nat) : List Int := tab n fun v => if v < x then (if hasN s v = true then 2 else 1) else 0
theorem twoY_len (n : Nat) (s : List Bool) (x : Nat) : (twoY n s x).length = n := length_tab _ _
theorem twoY_all (n : Nat) (s : List Bool) : twoY n s n = twoL n s := tab_congr fun i hi => by rw [if_pos hi]
theorem twoY_zero (n : Nat) (s : List Bool) : twoY n s 0 = List.replicate n 0 := by
  rw [replicate_tab]; exact tab_congr fun i _ => by simp
theorem twoY_set (n : Nat) (s : List Bool) (x : Nat) : (twoY n s x).set x (if hasN s x = true then 2 else 1) = twoY n s (x + 1) := by
  unfold twoY
  rw [set_tab]
  refine tab_congr fun i _ => ?_
  by_cases e : i = x
  · subst e; simp
  · by_cases h : i < x
    · simp [e, h, show i < x + 1 by omega]
    · simp [e, h, show ¬ i < x + 1 by omega]

theorem law_RecurComes (g : G) (hg : g.wide) (p : Int) (hp : DK.fits .int p) (a : List Bool) (ha : (DK.sl .bool).fits a) : Pure Try.prog 6 [g.av, .int .i64 p, .ro false (bools a)] (.bool true) := by
  have hf := hg.f
  have sl := l14_light g hf a
  have hlb : light12 g a = true → (a : List Bool).length ≤ 300 := fun h => by
    simp only [light12, Bool.and_eq_true, decide_eq_true_eq] at h; exact h.2
  generalize light12 g a = lb at *
  intro h
  refine AC.body Θ_ok Try.func6 rfl rfl (Nat.le_of_ble_eq_true rfl) ?_
  refine AW.seq fun _ k1 => AW.region [] Θ_ok ?_
  simp
  refine k1 _ ?_
  by_cases h1 : lb = true
  · subst h1
    have ha3 := hlb rfl
    by_cases hm : mayE g = 0
    · have hn3 := (may_ok hm).1
      have hn2 := (may_ok hm).2.1
      refine AW.seq fun _ k1 => ?_
      refine AW.seq fun _ k2 => AW.regionAt 3 [] Θ_ok fun B hB => ?_
      simp
      refine sl.use (by simp [G.av]) ?_
      refine hB _ ?_
      clear hB B
      refine vcOps_split 4 fun B hB => ?_
      simp
      refine (r9_May g hf).use (by simp [G.av]) ?_
      refine hB _ ?_
      clear hB B
      simp [hm]
      refine k2 _ ?_
      refine AW.cond false (by simp [Int.natCast_inj]) (fun h => by cases h) (fun _ => ?_)
      refine AW.skip ?_
      simp
      refine k1 _ ?_
      refine AW.seq fun _ k1 => AW.region [] Θ_ok ?_
      simp
      refine k1 _ ?_
      have hw := who2_cases p
      change AW _ _ _ ⟨_, (1, .int .i64 (who2 p)) :: _, _⟩
      generalize who2 p = W at hw
      have hok : okP g W := ⟨hm, hw⟩
      have sA := recur_Again g hf W a
      rw [agA, if_pos hok] at sA
      have sW := recur_Ways g hf W a
      rw [recA, if_pos hok] at sW
      have sF := graph_Follow g hf W (recL g W a)
      have fF : (folG g W (recL g W a)).fits := waysG_fits hf _
      have mF : mayE (folG g W (recL g W a)) = 0 := waysG_may hm _
      obtain ⟨f1, f2⟩ := fol_len (who := W) (to_ := recL g W a) hm
      have eF : waysA g (followP g W (recL g W a)) = .agg [.ro false (ints (folG g W (recL g W a)).owner), .ro true (rows (folG g W (recL g W a)).next)] := by
        rw [waysA, if_pos hm, folG, waysG_eq hm]
      rw [eF] at sF
      have sR := graph_Reach (folG g W (recL g W a)) fF (agL g W a)
      rw [reachA, if_pos mF, rec_reach hm hw] at sR
      have big : BigOk (folG g W (recL g W a)).next := by
        have h2 := (may_ok mF).2.1
        have h3 := (may_ok mF).1
        refine ⟨by omega, fun l hl => ?_, fun l hl w hw => ?_⟩
        · obtain ⟨v, hv, rfl⟩ := List.mem_iff_getElem.1 hl
          rcases rise_len (may_rise mF hv) with e | e
          · rw [e]; simp
          · omega
        · obtain ⟨v, hv, rfl⟩ := List.mem_iff_getElem.1 hl
          have := (may_row mF (by omega) hv).2 w hw
          omega
      have sE := r9_EvenB (folG g W (recL g W a)).next big (twoL g.owner.length a) (by rw [f2]; exact length_tab _ _) (agL g W a)
      rw [rec_even hm hw] at sE
      have lA : (agL g W a).length = g.owner.length := ag_len hm a
      have hrow : ∀ v (h1 : v < (agL g W a).length) (h2 : v < g.owner.length) (h3 : v < (folG g W (recL g W a)).next.length), (agL g W a)[v] = true → g.owner[v] = W → (folG g W (recL g W a)).next[v].length = 1 := by
        intro v h1 h2 h3 q1 q2
        have := rec_row (s := a) hm hw h2 (by simpa [hasN, h1] using q1) (by simp [h2]; exact q2)
        simpa [h3] using this
      generalize agL g W a = A at *
      generalize folG g W (recL g W a) = F at *
      generalize recL g W a = Y at *
      refine AW.seq fun _ k1 => AW.regionAt 4 [] Θ_ok fun B hB => ?_
      simp
      refine sA.use (by simp [G.av]) ?_
      refine hB _ ?_
      clear hB B
      simp
      refine k1 _ ?_
      refine AW.seq fun _ k1 => AW.draw [8] 8 [] Θ_ok mixed (by kernel_rfl) (by kernel_rfl) ?_
      refine vcDraw_split 6 fun B hB => ?_
      simp [vcPre, vcTail, callA, isAlloc, isLoad, effOp, obl, obA, mkOK, valA]
      refine ⟨_, sW.wk (by simp [G.av]), ?_⟩
      refine hB _ _ _ ?_
      clear hB B
      refine vcPre_split 1 fun B hB => ?_
      simp [vcPre, vcTail, callA, isAlloc, isLoad, effOp, obl, obA, mkOK, valA]
      refine ⟨_, sF.wk (by simp [G.av]), ?_⟩
      refine hB _ _ _ ?_
      clear hB B
      simp [vcPre, vcTail, callA, isAlloc, isLoad, effOp, obl, obA, mkOK, valA]
      refine fun n8 hn8 => k1 _ ?_
      refine AW.box 8 (o := n8) rfl (upd_same _ _ _) ?_
      simp only [upd_upd, upd_none_id hn8]
      refine AW.seq fun _ k1 => ?_
      refine AW.seq fun _ k2 => AW.regionAt 18 [] Θ_ok fun B hB => ?_
      simp [lA, f2]
      refine sR.use (by simp [G.av]) ?_
      refine hB _ ?_
      clear hB B
      refine vcOps_split 2 fun B hB => ?_
      simp
      refine (r9_SameRow A A (by omega)).use (by simp) ?_
      refine hB _ ?_
      clear hB B
      simp
      refine k2 _ ?_
      refine AW.cond false (by simp [Int.natCast_inj]) (fun h => by cases h) (fun _ => ?_)
      refine AW.skip ?_
      simp
      refine k1 _ ?_
      refine AW.seq fun _ k1 => AW.region [60] Θ_ok ?_
      simp
      refine ⟨by omega, fun q hq => k1 _ ?_⟩
      rw [replicate_tab, flat_tab (fun _ _ => rfl), ← replicate_tab, lA]
      have hb0 : (⟨List.replicate g.owner.length (.int .i64 0), 3, 1, true⟩ : Ob) = obTd (twoY g.owner.length a 0) true := by
        rw [twoY_zero]; simp [obTd, ints]
      rw [hb0]
      refine AW.seq fun _ k1 => ?_
      refine AW.seq fun _ k2 => AW.region [] Θ_ok ?_
      simp
      refine k2 _ ?_
      refine AW.block ?_
      refine AW.loopI (X := Nat) (fun x => x ≤ g.owner.length) (fun x => ⟨106, [(1, .int .i64 W), (2, .ro false (bools a)), (3, .rop [.ro false (ints g.owner), .ro false (rows g.next)]), (7, .ro true (bools A)), (8, .rop [.ro false (ints F.owner), .ro true (rows F.next)]), (9, .mu q g.owner.length), (62, .int .i64 g.owner.length), (63, .int .i64 x)], upd h q (some (obTd (twoY g.owner.length a x) true))⟩) (fun x => g.owner.length - x) 0 (Nat.zero_le _) (GStep.eq (by simp) (subH.refl _)) fun x hx => ?_
      have hqq : upd h q (some (obTd (twoY g.owner.length a x) true)) q = some (obTd (twoY g.owner.length a x) true) := upd_same _ _ _
      refine AW.seq fun _ k2 => AW.region [] Θ_ok ?_
      simp
      refine k2 _ ?_
      by_cases hlt : x < g.owner.length
      · have inc := wrap_succ (show x < 9223372036854775807 by omega)
        have hltA : x < A.length := by omega
        have hltF : x < F.next.length := by omega
        have h2 := hrow x hltA hlt hltF
        have sH := r9_Has a x
        have ea : (decide (0 ≤ (x : Int)) && hasI a (x : Int)) = hasN a x := by simp
        rw [ea] at sH
        have hs1 := mapi_set (twoY g.owner.length a x) x 1
        have hs2 := mapi_set ((twoY g.owner.length a x).set x 1) x 2
        have st := twoY_set g.owner.length a x
        have e2 : ((twoY g.owner.length a x).set x 1).set x 2 = (twoY g.owner.length a x).set x 2 := List.set_set ..
        rw [e2] at hs2
        obtain ⟨M1, hM1⟩ : ∃ M1, M1 = (twoY g.owner.length a x).set x 1 := ⟨_, rfl⟩
        have lM : M1.length = g.owner.length := by rw [hM1, List.length_set, twoY_len]
        rw [← hM1] at hs1 hs2
        have hq1 : upd h q (some (obTd M1 true)) q = some (obTd M1 true) := upd_same _ _ _
        refine AW.seq fun _ k2 => AW.cond true (by simp [Int.natCast_inj, hlt]) (fun _ => ?_) (fun h => by cases h)
        refine AW.skip ?_
        simp
        refine k2 _ ?_
        refine AW.seq fun _ k2 => ?_
        refine AW.block ?_
        refine AW.seq fun _ k3 => AW.region [] Θ_ok ?_
        simp
        refine k3 _ ?_
        refine AW.seqTo ⟨106, [(1, .int .i64 W), (2, .ro false (bools a)), (3, .rop [.ro false (ints g.owner), .ro false (rows g.next)]), (7, .ro true (bools A)), (8, .rop [.ro false (ints F.owner), .ro true (rows F.next)]), (9, .mu q g.owner.length), (10, .int .i64 x), (62, .int .i64 g.owner.length), (63, .int .i64 x)], upd h q (some (obTd (twoY g.owner.length a x) true))⟩ (fun _ k3 => ?_) ?_
        · cases hb : A[x] with
          | false =>
            refine AW.seq fun _ k4 => AW.region [] Θ_ok ?_
            simp [hltA, hb]
            refine k4 _ ?_
            refine AW.cond false (by simp) (fun h => by cases h) (fun _ => ?_)
            refine AW.skip ?_
            simp
            exact k3 _ (GStep.eq (by simp) (subH.refl _))
          | true =>
            by_cases ho : g.owner[x] = W
            · have h3 := h2 hb ho
              refine AW.seq fun _ k4 => AW.region [] Θ_ok ?_
              simp [hltA, hb, hlt, ho, hltF, h3]
              refine k4 _ ?_
              refine AW.cond false (by simp) (fun h => by cases h) (fun _ => ?_)
              refine AW.skip ?_
              simp
              exact k3 _ (GStep.eq (by simp) (subH.refl _))
            · refine AW.seq fun _ k4 => AW.region [] Θ_ok ?_
              simp [hltA, hb, hlt, ho]
              refine k4 _ ?_
              refine AW.cond false (by simp) (fun h => by cases h) (fun _ => ?_)
              refine AW.skip ?_
              simp
              exact k3 _ (GStep.eq (by simp) (subH.refl _))
        refine AW.seq fun _ k4 => AW.region [] Θ_ok ?_
        simp [hqq, twoY_len, hlt, hs1, obTd_mk]
        refine ⟨hlt, k4 _ ?_⟩
        refine AW.seq fun _ k4 => AW.regionAt 3 [] Θ_ok fun B hB => ?_
        simp
        refine sH.use (by simp) ?_
        refine hB _ ?_
        clear hB B
        simp
        refine k4 _ ?_
        cases hb : hasN a x with
        | true =>
          rw [hb, if_pos rfl] at st
          rw [st] at hs2
          refine AW.cond true (by simp [Int.natCast_inj]) (fun _ => ?_) (fun h => by cases h)
          refine AW.region [] Θ_ok ?_
          simp [hq1, lM, hlt, hs2, obTd_mk]
          refine ⟨hlt, k2 _ ?_⟩
          refine AW.region [] Θ_ok ?_
          simp
          exact ⟨x + 1, by omega, by omega, GStep.eq (by simp [inc]) (subH.refl _)⟩
        | false =>
          rw [hb, if_neg (by decide), ← hM1] at st
          rw [st]
          refine AW.cond false (by simp [Int.natCast_inj]) (fun h => by cases h) (fun _ => ?_)
          refine AW.skip ?_
          simp
          refine k2 _ ?_
          refine AW.region [] Θ_ok ?_
          simp
          exact ⟨x + 1, by omega, by omega, GStep.eq (by simp [inc]) (subH.refl _)⟩
      · obtain rfl : x = g.owner.length := by omega
        rw [twoY_all] at hqq ⊢
        refine AW.freeze 9 (o := q) (n := g.owner.length) (x := obTd (twoL g.owner.length a) true) true (by simp) hqq (fun _ => rfl) rfl (by simp [twoL]) (fun u hu => by obtain ⟨z, _, rfl⟩ := List.mem_map.1 hu; rfl) ?_
        simp only [upd_upd, upd_none_id hq, obTd_cells]
        refine AW.seq fun _ k2 => AW.cond false (by simp [Int.natCast_inj]) (fun h => by cases h) (fun _ => ?_)
        refine AW.exit ?_
        simp
        refine k1 _ ?_
        refine AW.seq fun _ kr => AW.regionAt 5 [] Θ_ok fun B hB => ?_
        simp
        refine sE.use (by simp) ?_
        refine hB _ ?_
        clear hB B
        refine vcOps_split 2 fun B hB => ?_
        simp
        refine l14_awake.use (by simp) ?_
        refine hB _ ?_
        clear hB B
        simp
        refine kr _ (AW.ret ?_)
        simp [Try.f6]
        exact Fin.refl ⟨rfl, rfl⟩
    · refine AW.seq fun _ k1 => ?_
      refine AW.seq fun _ k2 => AW.regionAt 3 [] Θ_ok fun B hB => ?_
      simp
      refine sl.use (by simp [G.av]) ?_
      refine hB _ ?_
      clear hB B
      refine vcOps_split 4 fun B hB => ?_
      simp
      refine (r9_May g hf).use (by simp [G.av]) ?_
      refine hB _ ?_
      clear hB B
      simp [hm]
      refine k2 _ ?_
      refine AW.cond true (by simp [Int.natCast_inj, hm]) (fun _ => ?_) (fun h => by cases h)
      refine AW.seq fun _ kr => AW.region [] Θ_ok ?_
      simp
      refine (l14_awake).use (by simp [G.av]) ?_
      try simp
      refine kr _ (AW.ret ?_)
      simp [Try.f6]
      exact Fin.refl ⟨rfl, rfl⟩
  · rw [show lb = false by simpa using h1] at sl
    refine AW.seq fun _ k1 => ?_
    refine AW.seq fun _ k2 => AW.regionAt 3 [] Θ_ok fun B hB => ?_
    simp
    refine sl.use (by simp [G.av]) ?_
    refine hB _ ?_
    clear hB B
    simp
    refine k2 _ ?_
    refine AW.cond true (by simp [Int.natCast_inj]) (fun _ => ?_) (fun h => by cases h)
    refine AW.seq fun _ kr => AW.region [] Θ_ok ?_
    simp
    refine (l14_awake).use (by simp [G.av]) ?_
    try simp
    refine kr _ (AW.ret ?_)
    simp [Try.f6]
    exact Fin.refl ⟨rfl, rfl⟩
end Go.Par
