import Derived.Test.YtaipmknajpbpkaaZgA
set_option linter.unusedSimpArgs false
set_option linter.unusedVariables false
set_option linter.unusedSectionVars false
set_option maxRecDepth 8000
set_option maxHeartbeats 2000000
namespace Go.Par
open Go.Proofs

theorem TI_goY (g : G) (x : Nat) : TIz g (x + 1) = goY g.owner.length (AL g (whoAt x)) (RL g (whoAt x)) (TIz g x) g.owner.length := by
  rw [goY_full]
  exact tab_congr fun v hv => by
    by_cases h1 : hasN (RL g (whoAt x)) v = true <;> by_cases h2 : 0 ≤ fI (AL g (whoAt x)) v <;> simp only [h1, h2, and_self, if_true, if_false, true_and, and_true, false_and, and_false]

theorem parity_Solve (g : G) (hf : g.fits) (P : List Int) (hP : P.length ≤ 1152921504606846976) : Pure Try.prog 37 [g.av, .ro false (ints P)] (solA g P) := by
  have sM := parity_May g hf P hP
  intro h
  refine AC.body Θ_ok Try.func37 rfl rfl (Nat.le_of_ble_eq_true rfl) ?_
  refine AW.seq fun _ k1 => AW.region [] Θ_ok ?_
  simp
  refine k1 _ ?_
  refine AW.seq fun _ k1 => ?_
  by_cases hmp : mayP g P = true
  · have hfin : solA g P = .tup [.ro true (ints (winL g P)), .ro true (ints (toL g P))] := if_pos hmp
    rw [hmp] at sM
    have ok := mayP_ok hmp
    have hn := (may_ok ok.m).1
    have hlP := ok.len
    refine AW.seq fun _ k2 => AW.regionAt 3 [] Θ_ok fun B hB => ?_
    simp
    refine sM.use (by simp [G.av]) ?_
    refine hB _ ?_
    clear hB B
    simp
    refine k2 _ ?_
    refine AW.cond false (by simp [Int.natCast_inj]) (fun h => by cases h) (fun _ => ?_)
    refine AW.skip ?_
    simp
    refine k1 _ ?_
    refine AW.seq fun _ k1 => AW.draw [24, 27, 29] 8 [0] Θ_ok mixed (by kernel_rfl) (by kernel_rfl) ?_
    simp [vcDraw, vcPre, vcTail, callA, isAlloc, isLoad, effOp, obl, obA, mkOK, valA, newA]
    have b1 : 8 * (P.length : Int) ≤ 140737488355328 := by omega
    have b2 : (P.length : Int) ≤ 140737488355328 := by omega
    have e0 : ((List.replicate P.length (AV.int IntKind.i64 0)).flatMap AV.flat) = (tab g.owner.length fun _ => (0 : Int)).map (AV.int .i64) := by
      rw [replicate_tab, flat_tab (fun _ _ => rfl), hlP]; simp
    rw [e0]
    refine ⟨⟨b1, b2⟩, fun nw hnw => ⟨⟨b1, b2⟩, fun nt hnt ns hns => k1 _ ?_⟩⟩
    rw [hlP]
    refine AW.mineCell ns 5 ⟨[.ro false (ints g.owner), .ro false (rows g.next), .ro false (ints P), .mu nw g.owner.length, .mu nt g.owner.length, .nils], 88, 6, true⟩ 103 1 (upd_same _ _ _) rfl fun nq hnq => ?_
    obtain ⟨N, hH⟩ := ZH.start g P (tab g.owner.length fun _ => (0 : Int)) hnw hnt hns hnq
    simp only [List.set_cons_succ, List.set_cons_zero]
    rw [show (⟨[.ro false (ints g.owner), .ro false (rows g.next), .ro false (ints P), .mu nw g.owner.length, .mu nt g.owner.length, .mu nq 0], 88, 6, true⟩ : Ob) = obZ g P ⟨ns, nw, nt, nq, false⟩ 0 from rfl]
    rw [show (⟨[], 103, 1, false⟩ : Ob) = obQ [] false from rfl]
    simp only [obI_mk]
    rw [hH]
    obtain ⟨k, hk⟩ : ∃ k : ZN, k = ⟨ns, nw, nt, nq, false⟩ := ⟨_, rfl⟩
    have hks : ns = k.s := by rw [hk]
    rw [← hk] at N ⊢
    rw [hks]
    clear hk hks hH hns hnt hnw hnq e0 b1 b2
    have eW0 : (tab g.owner.length fun _ => (0 : Int)) = WI g 0 := rfl
    rw [eW0]
    have ht0 := ZH.t N g P (WI g 0) (WI g 0)
    have hs0 := ZH.s N g P (WI g 0) (WI g 0)
    refine AW.seq fun _ k1 => ?_
    refine AW.seq fun _ k2 => AW.region [] Θ_ok ?_
    simp [hs0]
    refine k2 _ ?_
    clear hs0 ht0
    refine AW.block ?_
    refine AW.loopI (X := Nat) (fun x => x ≤ g.owner.length) (fun x => ⟨127, [(2, .rop [.ro false (ints g.owner), .ro false (rows g.next)]), (6, .ptr k.s 0), (34, .int .i64 g.owner.length), (35, .int .i64 x)], ZH h k g P (WI g 0) (negY g.owner.length x) []⟩) (fun x => g.owner.length - x) 0 (Nat.zero_le _) (GStep.eq (by simp) (subH_of_eq (by congr 1))) fun x hx => ?_
    refine AW.seq fun _ k2 => AW.region [] Θ_ok ?_
    simp
    refine k2 _ ?_
    by_cases hlt : x < g.owner.length
    · have inc := wrap_succ (show x < 9223372036854775807 by omega)
      have sN := negY_set g.owner.length x
      have lX := negY_len g.owner.length x
      generalize hWs : negY g.owner.length (x + 1) = T2 at *
      generalize negY g.owner.length x = T1 at *
      have hs := ZH.s N g P (WI g 0) T1
      have ht := ZH.t N g P (WI g 0) T1
      have pT := ZH.putT N g P (WI g 0) T1
      have mX := map_set_int T1 x (-1)
      generalize hT3 : T1.set x (-1) = T3 at *
      subst sN
      generalize hH : ZH h k g P (WI g 0) T1 [] = H at *
      refine AW.seq fun _ k2 => AW.cond true (by simp [Int.natCast_inj, hlt]) (fun _ => ?_) (fun h => by cases h)
      refine AW.skip ?_
      simp
      refine k2 _ ?_
      refine AW.seq fun _ k2 => ?_
      refine AW.block ?_
      refine AW.seq fun _ k3 => AW.region [] Θ_ok ?_
      simp
      refine k3 _ ?_
      refine AW.region [] Θ_ok ?_
      simp [hs, ht, lX, hlt, mX, obI_mk]
      refine ⟨by omega, k2 _ ?_⟩
      refine AW.region [] Θ_ok ?_
      simp
      exact ⟨x + 1, by omega, by omega, GStep.eq (by simp [inc]) (subH_of_eq (by rw [hWs, pT]))⟩
    obtain rfl : x = g.owner.length := by omega
    refine AW.seq fun _ k2 => AW.cond false (by simp [Int.natCast_inj]) (fun h => by cases h) (fun _ => ?_)
    refine AW.exit ?_
    simp
    refine k1 _ ?_
    have eT0 : negY g.owner.length g.owner.length = TIz g 0 := tab_congr fun v hv => by simp [hv]
    rw [eT0]
    have sN := pre_Not g [] hf.owner
    rw [show notL g [] = LI g 0 from rfl] at sN
    refine AW.seq fun _ k1 => AW.regionAt 2 [] Θ_ok fun B hB => ?_
    simp
    refine sN.use (by simp [G.av]) ?_
    refine hB _ ?_
    clear hB B
    simp
    refine k1 _ ?_
    refine AW.seq fun _ k1 => ?_
    refine AW.seq fun _ k2 => AW.region [] Θ_ok ?_
    simp
    refine ⟨rfl, k2 _ ?_⟩
    obtain ⟨L2, hL2⟩ : ∃ L2, L2 = ([1, 0] : List Int) := ⟨_, rfl⟩
    have lL2 : L2.length = 2 := by rw [hL2]; rfl
    have gL2 : ∀ x (h : x < L2.length), L2[x] = whoAt x := by
      subst hL2
      intro x h
      have : x = 0 ∨ x = 1 := by simp at h; omega
      rcases this with rfl | rfl <;> rfl
    refine AW.block ?_
    refine AW.loopI (X := Nat) (fun x => x ≤ 2) (fun x => ⟨127, [(2, .rop [.ro false (ints g.owner), .ro false (rows g.next)]), (6, .ptr k.s 0), (8, .ro true (bools (LI g x))), (47, .ro true (ints L2)), (48, .int .i64 2), (49, .int .i64 x)], ZH h k g P (WI g x) (TIz g x) []⟩) (fun x => 2 - x) 0 (Nat.zero_le _) (GStep.eq (by simp [hL2]) (subH.refl _)) fun x hx => ?_
    clear sN
    refine AW.seq fun _ k2 => AW.region [] Θ_ok ?_
    simp
    refine k2 _ ?_
    by_cases hlt : x < 2
    · have inc := wrap_succ (show x < 9223372036854775807 by omega)
      have hltL : x < L2.length := by omega
      have gx := gL2 x hltL
      have hw01 : whoAt x = 0 ∨ whoAt x = 1 := by unfold whoAt; split <;> simp
      have hok : okP g (whoAt x) := ⟨ok.m, hw01⟩
      have sR := attract_Region g hf (whoAt x) [] (by simp)
      rw [regA, if_pos hok, show regL g (whoAt x) [] = RL g (whoAt x) from rfl] at sR
      have sW := attract_Ways g hf (whoAt x) [] (by simp)
      rw [awayA, if_pos hok, show awayL g (whoAt x) [] = AL g (whoAt x) from rfl] at sW
      have eT := TI_goY g x
      have eW : WI g (x + 1) = winsX g.owner.length (whoAt x) (RL g (whoAt x)) (WI g x) := rfl
      have eL : LI g (x + 1) = lessL g (LI g x) (RL g (whoAt x)) := rfl
      have lR : (RL g (whoAt x)).length = g.owner.length := regL_len _ _ _
      have lA : (AL g (whoAt x)).length = g.owner.length := by rw [AL, awayL, awaysR]; exact length_tab _ _
      have hltI : (x : Int) < 2 := by omega
      have lT := TI_len g x
      have lW := WI_len g x
      generalize hT' : TIz g (x + 1) = T' at *
      generalize hW' : WI g (x + 1) = W' at *
      generalize hL' : LI g (x + 1) = L' at *
      generalize TIz g x = T0 at *
      generalize WI g x = W0 at *
      generalize LI g x = L0 at *
      generalize RL g (whoAt x) = R at *
      generalize AL g (whoAt x) = A at *
      generalize whoAt x = who at *
      refine AW.seq fun _ k2 => AW.cond true (by simp [Int.natCast_inj, hltI]) (fun _ => ?_) (fun h => by cases h)
      refine AW.skip ?_
      simp
      refine k2 _ ?_
      refine AW.seq fun _ k2 => ?_
      refine AW.block ?_
      refine AW.seq fun _ k3 => AW.region [] Θ_ok ?_
      simp [hltL, gx]
      refine k3 _ ?_
      refine AW.seq fun _ k3 => AW.regionAt 3 [] Θ_ok fun B hB => ?_
      simp
      refine sR.use (by simp [G.av]) ?_
      refine hB _ ?_
      clear hB B
      simp
      refine k3 _ ?_
      refine AW.seq fun _ k3 => ?_
      refine AW.seq fun _ k4 => AW.regionAt 4 [] Θ_ok fun B hB => ?_
      simp
      refine sW.use (by simp [G.av]) ?_
      refine hB _ ?_
      clear hB B
      simp
      refine k4 _ ?_
      refine AW.block ?_
      refine AW.loopI (X := Nat) (fun y => y ≤ A.length) (fun y => ⟨127, [(2, .rop [.ro false (ints g.owner), .ro false (rows g.next)]), (6, .ptr k.s 0), (8, .ro true (bools L0)), (10, .int .i64 who), (11, .ro true (bools R)), (47, .ro true (ints L2)), (48, .int .i64 2), (49, .int .i64 x), (58, .ro true (ints A)), (59, .int .i64 A.length), (60, .int .i64 y)], ZH h k g P W0 (goY g.owner.length A R T0 y) []⟩) (fun y => A.length - y) 0 (Nat.zero_le _) (GStep.eq (by simp) (subH_of_eq (by rw [goY_zero lT]))) fun y hy => ?_
      refine AW.seq fun _ k4 => AW.region [] Θ_ok ?_
      simp
      refine k4 _ ?_
      by_cases hlt2 : y < A.length
      · have inc2 := wrap_succ (show y < 9223372036854775807 by omega)
        have hlt' : y < g.owner.length := by omega
        have hltR : y < R.length := by omega
        have hh : hasN R y = R[y] := by simp [hasN, hltR]
        have ha : fI A y = A[y] := by simp [fI, hlt2]
        have pp := goY_put (n := g.owner.length) (A := A) (part := R) (T := T0) (x := y)
        have pn := goY_not (n := g.owner.length) (A := A) (part := R) (T := T0) (x := y)
        rw [hh, ha] at pp pn
        have lX := goY_len g.owner.length A R T0 y
        generalize hWs : goY g.owner.length A R T0 (y + 1) = T2 at *
        generalize goY g.owner.length A R T0 y = T1 at *
        have hs := ZH.s N g P W0 T1
        have ht := ZH.t N g P W0 T1
        have pT := ZH.putT N g P W0 T1
        have mX := map_set_int T1 y A[y]
        generalize hT3 : T1.set y A[y] = T3 at *
        generalize hH : ZH h k g P W0 T1 [] = H at *
        refine AW.seq fun _ k4 => AW.cond true (by simp [Int.natCast_inj, hlt2]) (fun _ => ?_) (fun h => by cases h)
        refine AW.skip ?_
        simp
        refine k4 _ ?_
        refine AW.seq fun _ k4 => ?_
        refine AW.block ?_
        refine AW.seq fun _ k5 => AW.region [] Θ_ok ?_
        simp [hlt2]
        refine k5 _ ?_
        cases hb : R[y]
        · refine AW.seq fun _ k5 => AW.region [] Θ_ok ?_
          simp [hltR, hb]
          refine k5 _ ?_
          refine AW.cond false (by simp [Int.natCast_inj, hb]) (fun h => by cases h) (fun _ => ?_)
          refine AW.skip ?_
          simp
          refine k4 _ ?_
          refine AW.region [] Θ_ok ?_
          simp
          exact ⟨y + 1, by omega, by omega, GStep.eq (by simp [inc2]) (subH_of_eq (by rw [hWs, ← pn (fun q => by rw [hb] at q; cases q.2), hH]))⟩
        · by_cases c1 : 0 ≤ A[y]
          · refine AW.seq fun _ k5 => AW.region [] Θ_ok ?_
            simp [hltR, c1, hb]
            refine k5 _ ?_
            refine AW.cond true (by simp [Int.natCast_inj, c1, hb]) (fun _ => ?_) (fun h => by cases h)
            refine AW.region [] Θ_ok ?_
            simp [hs, ht, lX, hlt', mX, obI_mk]
            refine ⟨by omega, k4 _ ?_⟩
            refine AW.region [] Θ_ok ?_
            simp
            exact ⟨y + 1, by omega, by omega, GStep.eq (by simp [inc2]) (subH_of_eq (by rw [hWs, pT, pp c1 hb]))⟩
          · have c1' : A[y] < 0 := by omega
            refine AW.seq fun _ k5 => AW.region [] Θ_ok ?_
            simp [hltR, c1, c1', hb]
            refine k5 _ ?_
            refine AW.cond false (by simp [Int.natCast_inj, c1, c1', hb]) (fun h => by cases h) (fun _ => ?_)
            refine AW.skip ?_
            simp
            refine k4 _ ?_
            refine AW.region [] Θ_ok ?_
            simp
            exact ⟨y + 1, by omega, by omega, GStep.eq (by simp [inc2]) (subH_of_eq (by rw [hWs, ← pn (fun q => c1 q.1), hH]))⟩
      obtain rfl : y = A.length := by omega
      refine AW.seq fun _ k4 => AW.cond false (by simp [Int.natCast_inj]) (fun h => by cases h) (fun _ => ?_)
      refine AW.exit ?_
      simp
      refine k3 _ ?_
      rw [show goY g.owner.length A R T0 A.length = T' by rw [eT, lA]]
      have swi := pz_wins N g hf P W0 T' who R lR lW hn
      rw [← eW] at swi
      have sle := pz_less N g hf P W' T' L0 R
      rw [← eL] at sle
      refine AW.seq fun _ k3 => AW.regionAt 4 [] Θ_ok fun B hB => ?_
      simp
      refine swi.mono ?_
      rintro r h' rfl
      refine hB _ ?_
      clear hB B
      simp
      refine k3 _ ?_
      refine AW.regionAt 4 [] Θ_ok fun B hB => ?_
      simp
      refine (sle.wk (by simp)).mono ?_
      rintro r h' ⟨rfl, rfl⟩
      refine hB _ ?_
      clear hB B
      simp
      refine k2 _ ?_
      refine AW.region [] Θ_ok ?_
      simp
      exact ⟨x + 1, by omega, by omega, GStep.eq (by simp [inc, hL']) (subH_of_eq (by rw [hW', hT']))⟩
    obtain rfl : x = 2 := by omega
    clear hL2 lL2 gL2
    refine AW.seq fun _ k2 => AW.cond false (by simp [Int.natCast_inj]) (fun h => by cases h) (fun _ => ?_)
    refine AW.exit ?_
    simp
    refine k1 _ ?_
    obtain ⟨⟨m, hz⟩, hst, lW, lT, _, _⟩ := zfin_spec ok
    have eWl : winL g P = (zfin g P).W := rfl
    have eTl : toL g P = finY g (zfin g P).W (zfin g P).T g.owner.length := tab_congr fun v hv => by simp only [hv, true_and]
    have spu := pz_push N g hf P (WI g 2) (TIz g 2) (LI g 2) (by simp)
    refine AW.seq fun _ k1 => AW.regionAt 3 [] Θ_ok fun B hB => ?_
    simp
    refine (spu.wk (by simp)).mono ?_
    rintro r h' ⟨f, q', N2, rfl⟩
    refine hB _ ?_
    clear hB B
    simp
    refine k1 _ ?_
    have sso := pz_solve (s0 := zst0 g) (fin := zfin g P) g hf ok N2 rfl ⟨WI_len g 2, TI_len g 2, fun f hf => by
      simp only [zst0, List.mem_singleton] at hf; subst hf
      exact ⟨LI_len g 2, by simp, fun _ => rfl, fun e => (by cases e)⟩, by simp [zst0]⟩ hz hst
    refine AW.seq fun _ k1 => AW.regionAt 2 [] Θ_ok fun B hB => ?_
    simp
    refine sso.mono ?_
    rintro r h' ⟨k', N', ks, kw, kt, rfl⟩
    refine hB _ ?_
    clear hB B
    simp
    refine k1 _ ?_
    simp only at ks
    rw [← ks]
    clear sso spu N2 N hz
    rw [← eWl] at eTl lW ⊢
    generalize hWw : winL g P = W at *
    generalize (zfin g P).T = T at *
    have hs0 := ZH.s N' g P W T
    have hw0 := ZH.w N' g P W T
    refine AW.seq fun _ k1 => ?_
    refine AW.seq fun _ k2 => AW.region [] Θ_ok ?_
    simp [hs0]
    refine k2 _ ?_
    refine AW.block ?_
    refine AW.loopI (X := Nat) (fun x => x ≤ g.owner.length) (fun x => ⟨127, [(2, .rop [.ro false (ints g.owner), .ro false (rows g.next)]), (6, .ptr k'.s 0), (98, .mu k'.w g.owner.length), (99, .int .i64 g.owner.length), (100, .int .i64 x)], ZH h k' g P W (finY g W T x) []⟩) (fun x => g.owner.length - x) 0 (Nat.zero_le _) (GStep.eq (by simp) (subH_of_eq (by rw [finY_zero lT]))) fun x hx => ?_
    clear hs0 hw0
    refine AW.seq fun _ k2 => AW.region [] Θ_ok ?_
    simp
    refine k2 _ ?_
    by_cases hlt : x < g.owner.length
    · have inc := wrap_succ (show x < 9223372036854775807 by omega)
      have hltW : x < W.length := by omega
      have hh : fI W x = W[x] := by simp [fI, hltW]
      have eo : ow g x = g.owner[x] := by simp [ow, hlt]
      have pp := finY_put (g := g) (W := W) (T := T) (x := x)
      have pn := finY_not (g := g) (W := W) (T := T) (x := x)
      rw [hh, eo] at pp pn
      have lX := finY_len g W T x
      generalize hWs : finY g W T (x + 1) = T2 at *
      generalize finY g W T x = T1 at *
      have hs := ZH.s N' g P W T1
      have hw := ZH.w N' g P W T1
      have ht := ZH.t N' g P W T1
      have pT := ZH.putT N' g P W T1
      have dW := map_drop_int W hltW
      have mX := map_set_int T1 x (-1)
      generalize hT3 : T1.set x (-1) = T3 at *
      generalize hH : ZH h k' g P W T1 [] = H at *
      refine AW.seq fun _ k2 => AW.cond true (by simp [Int.natCast_inj, hlt]) (fun _ => ?_) (fun h => by cases h)
      refine AW.skip ?_
      simp
      refine k2 _ ?_
      refine AW.seq fun _ k2 => ?_
      refine AW.block ?_
      refine AW.seq fun _ k3 => AW.region [] Θ_ok ?_
      simp [hlt, hw, hltW, dW]
      refine k3 _ ?_
      by_cases c : W[x] = g.owner[x]
      · refine AW.seq fun _ k3 => AW.region [] Θ_ok ?_
        simp [hlt, c]
        refine k3 _ ?_
        refine AW.cond false (by simp [Int.natCast_inj, c]) (fun h => by cases h) (fun _ => ?_)
        refine AW.skip ?_
        simp
        refine k2 _ ?_
        refine AW.region [] Θ_ok ?_
        simp
        exact ⟨x + 1, by omega, by omega, GStep.eq (by simp [inc]) (subH_of_eq (by rw [hWs, ← pn c, hH]))⟩
      · refine AW.seq fun _ k3 => AW.region [] Θ_ok ?_
        simp [hlt, c]
        refine k3 _ ?_
        refine AW.cond true (by simp [Int.natCast_inj, c]) (fun _ => ?_) (fun h => by cases h)
        refine AW.region [] Θ_ok ?_
        simp [hs, ht, lX, hlt, mX, obI_mk]
        refine ⟨by omega, k2 _ ?_⟩
        refine AW.region [] Θ_ok ?_
        simp
        exact ⟨x + 1, by omega, by omega, GStep.eq (by simp [inc]) (subH_of_eq (by rw [hWs, pT, pp c]))⟩
    obtain rfl : x = g.owner.length := by omega
    refine AW.seq fun _ k2 => AW.cond false (by simp [Int.natCast_inj]) (fun h => by cases h) (fun _ => ?_)
    refine AW.exit ?_
    simp
    refine k1 _ ?_
    rw [← eTl]
    have lTo : (toL g P).length = g.owner.length := length_tab _ _
    generalize toL g P = To at *
    have hs := ZH.s N' g P W To
    have hw := ZH.w N' g P W To
    have ht := ZH.t N' g P W To
    have ne : k'.w ≠ k'.t := fun e => by
      have := N'.nd
      simp [e] at this
    have hsub : subH h (ZH h k' g P W To []) := HL.sub N'
    have fw : h k'.w = none := N'.free _ (by simp)
    have ft : h k'.t = none := N'.free _ (by simp)
    generalize ZH h k' g P W To [] = H at *
    refine AW.seq fun _ k1 => AW.draw [] 10 [] Θ_ok mixed (by kernel_rfl) (by kernel_rfl) ?_
    simp [vcDraw, vcPre, vcTail, callA, isAlloc, isLoad, effOp, obl, obA, mkOK, valA, hs]
    refine k1 _ ?_
    refine AW.freeze 4 true rfl hw (fun _ => rfl) rfl (by simp [lW]) (fun u hu => by obtain ⟨z, _, rfl⟩ := List.mem_map.1 hu; rfl) ?_
    refine AW.freeze 5 true rfl (x := obI To) (by simp only; rw [upd_ne _ _ (Ne.symm ne)]; exact ht) (fun _ => rfl) rfl (by simp [lTo]) (fun u hu => by obtain ⟨z, _, rfl⟩ := List.mem_map.1 hu; rfl) ?_
    refine AW.ghost (GStep.eq (S := ⟨127, _, _⟩) (tm := [(4, .ro true (ints W)), (5, .ro true (ints To))]) (h := h) (by simp [EqAll]) fun o x hx => ?_) ?_
    · have e1 : o ≠ k'.t := fun e => by rw [e, ft] at hx; cases hx
      have e2 : o ≠ k'.w := fun e => by rw [e, fw] at hx; cases hx
      simp only
      rw [upd_ne _ _ e1, upd_ne _ _ e2]
      exact hsub o x hx
    refine AW.ret ?_
    simp [Try.f37]
    refine Fin.refl ⟨?_, rfl⟩
    rw [hfin]
  · have hfin : solA g P = .tup [.nils, .nils] := if_neg hmp
    rw [show mayP g P = false by simpa using hmp] at sM
    refine AW.seq fun _ k2 => AW.regionAt 3 [] Θ_ok fun B hB => ?_
    simp
    refine sM.use (by simp [G.av]) ?_
    refine hB _ ?_
    clear hB B
    simp
    refine k2 _ ?_
    refine AW.cond true (by simp [Int.natCast_inj]) (fun _ => ?_) (fun h => by cases h)
    refine AW.seq fun _ kr => AW.region [] Θ_ok ?_
    simp
    refine kr _ (AW.ret ?_)
    simp [Try.f37]
    exact Fin.refl ⟨hfin.symm, rfl⟩
end Go.Par
