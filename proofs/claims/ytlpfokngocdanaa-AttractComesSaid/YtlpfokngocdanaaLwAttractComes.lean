import Derived.Test.YtlpfokngocdanaaAgB
set_option linter.unusedSimpArgs false
set_option linter.unusedVariables false
set_option maxRecDepth 8000
set_option maxHeartbeats 1000000
namespace Go.Par
open Go.Proofs

def rv (R : List Int) (v : Nat) : Int := R.getD v 0
structure MS where
  y : Nat
  m : Int

theorem law_AttractComes (g : G) (hg : g.wide) (p : Int) (hp : DK.fits .int p) (a : List Bool) (ha : (DK.sl .bool).fits a) : Pure Try.prog 7 [g.av, .int .i64 p, .ro false (bools a)] (.bool true) := by
  have hf := hg.f
  have sl := l12_light g hf a
  have hlb : light12 g a = true → (a : List Bool).length ≤ 300 := fun h => by
    simp only [light12, Bool.and_eq_true, decide_eq_true_eq] at h; exact h.2
  generalize light12 g a = lb at *
  intro h
  refine AC.body Θ_ok Try.func7 rfl rfl (Nat.le_of_ble_eq_true rfl) ?_
  refine AW.seq fun _ k1 => AW.region [] Θ_ok ?_
  simp
  refine k1 _ ?_
  by_cases h1 : lb = true
  · subst h1
    have ha3 := hlb rfl
    by_cases hm : mayE g = 0
    · have hn3 := (may_ok hm).1
      have hn2 := (may_ok hm).2.1
      refine AW.seq fun _ k1 => ?_
      refine AW.seq fun _ k2 => AW.regionAt 3 [] Θ_ok fun B hB => ?_
      simp
      refine sl.use (by simp [G.av]) ?_
      refine hB _ ?_
      clear hB B
      refine vcOps_split 4 fun B hB => ?_
      simp
      refine (r9_May g hf).use (by simp [G.av]) ?_
      refine hB _ ?_
      clear hB B
      simp [hm]
      refine k2 _ ?_
      refine AW.cond false (by simp [Int.natCast_inj]) (fun h => by cases h) (fun _ => ?_)
      refine AW.skip ?_
      simp
      refine k1 _ ?_
      refine AW.seq fun _ k1 => AW.region [] Θ_ok ?_
      simp
      refine k1 _ ?_
      have hw := who2_cases p
      change AW _ _ _ ⟨_, (1, .int .i64 (who2 p)) :: _, _⟩
      generalize who2 p = W at hw
      have hok : okP g W := ⟨hm, hw⟩
      have hokF : okForce g W := ⟨hm, hw⟩
      have hs : IntKind.i64.wrap (1 - W) = 1 - W := wrap_id (by omega) (by omega)
      have sR := attract_Ranks g hf W a (by omega)
      have sW := attract_Ways g hf W a (by omega)
      rw [ranksA_eq, if_pos hok] at sR
      rw [awayA, if_pos hok, awayL] at sW
      have IR := isRk (g := g) (who := W) (a := a) hm
      generalize ranksL g W a = R at *
      have lR := IR.len
      have hbig := IR.hi
      have lY : (awaysR g W R).length = g.owner.length := length_tab _ _
      have sF := graph_Follow g hf W (awaysR g W R)
      rw [waysA, if_pos hm] at sF
      have hF : ∀ v, v < g.owner.length → 1 ≤ R.getD v 0 → FolOk g W R ((waysL g (followP g W (awaysR g W R))).getD v []) v := by
        intro v hv h1
        have e : (waysL g (followP g W (awaysR g W R))).getD v [] = waysRow g (followP g W (awaysR g W R)) v := by
          unfold waysL
          rw [getD_tab, if_pos (by omega)]
        rw [e]
        exact fol_ok hm IR hv h1
      have lF : (waysL g (followP g W (awaysR g W R))).length = g.owner.length := by unfold waysL; rw [length_tab]; exact hn2
      have hFl : ∀ l ∈ waysL g (followP g W (awaysR g W R)), l.length ≤ 17592186044416 := by
        intro l hl
        obtain ⟨v, hv, rfl⟩ := mem_tab.1 hl
        refine Nat.le_trans (List.length_filter_le _ _) ?_
        have e : g.next.getD v [] = g.next[v] := by simp [hv]
        rw [e]
        exact hf.row _ (List.getElem_mem _)
      generalize waysL g (followP g W (awaysR g W R)) = F at *
      generalize awaysR g W R = Y at *
      refine AW.seq fun _ k1 => AW.draw [] 10 [] Θ_ok mixed (by kernel_rfl) (by kernel_rfl) ?_
      simp [vcDraw, vcPre, vcTail, callA, isAlloc, isLoad, effOp, obl, obA, mkOK, valA]
      refine ⟨_, sR.wk (by simp [G.av]), ?_⟩
      try simp
      refine ⟨_, sW.wk (by simp [G.av]), ?_⟩
      try simp
      refine k1 _ ?_
      refine AW.seq fun _ k1 => AW.regionAt 4 [9] Θ_ok fun B hB => ?_
      simp
      refine sF.use (by simp [G.av]) ?_
      refine hB _ ?_
      clear hB B
      simp [newA]
      refine fun n9 hn9 => k1 _ ?_
      refine AW.box 9 (o := n9) rfl (upd_same _ _ _) ?_
      simp only [upd_upd, upd_none_id hn9]
      refine AW.seq fun _ k1 => AW.region [] Θ_ok ?_
      simp
      refine k1 _ ?_
      refine AW.seq fun _ k1 => ?_
      refine AW.seq fun _ k2 => AW.region [] Θ_ok ?_
      simp [lR, lY, lF]
      refine k2 _ ?_
      refine AW.cond false (by simp [Int.natCast_inj]) (fun h => by cases h) (fun _ => ?_)
      refine AW.skip ?_
      simp
      refine k1 _ ?_
      refine AW.seq fun _ k1 => ?_
      refine AW.seq fun _ k2 => AW.region [] Θ_ok ?_
      simp
      refine k2 _ ?_
      refine AW.block ?_
      refine AW.loopI (X := Nat) (fun x => x ≤ g.owner.length) (fun x => ⟨178, [(1, .int .i64 W), (2, .ro false (bools a)), (3, .rop [.ro false (ints g.owner), .ro false (rows g.next)]), (7, .ro true (ints R)), (9, .rop [.ro false (ints g.owner), .ro true (rows F)]), (10, .int .i64 g.owner.length), (61, .int .i64 g.owner.length), (62, .int .i64 x)], h⟩) (fun x => g.owner.length - x) 0 (Nat.zero_le _) (GStep.eq (by simp) (subH.refl _)) fun x hx => ?_
      refine AW.seq fun _ k2 => AW.region [] Θ_ok ?_
      simp
      refine k2 _ ?_
      by_cases hlt : x < g.owner.length
      · have inc := wrap_succ (show x < 9223372036854775807 by omega)
        have hltR : x < R.length := by omega
        have hltF : x < F.length := by omega
        have er : R.getD x 0 = R[x] := by simp [hltR]
        have ef : F.getD x [] = F[x] := by simp [hltF]
        have eo : ow g x = g.owner[x] := by simp [ow, hlt]
        have hz := IR.zero x hlt
        have hlo := IR.lo x hlt
        have hFx := hF x hlt
        have hlenF := hFl _ (List.getElem_mem hltF)
        rw [er] at hz hlo hFx
        rw [ef] at hFx
        clear hF hFl IR sF sW sR
        have ea : (decide (0 ≤ (x : Int)) && hasI a (x : Int)) = hasN a x := by simp
        have sH := r9_Has a x
        rw [ea] at sH
        have hlo' : ¬ R[x] < -1 := by omega
        refine AW.seq fun _ k2 => AW.cond true (by simp [Int.natCast_inj, hlt]) (fun _ => ?_) (fun h => by cases h)
        refine AW.skip ?_
        simp
        refine k2 _ ?_
        refine AW.seq fun _ k2 => ?_
        refine AW.block ?_
        refine AW.seq fun _ k3 => AW.region [] Θ_ok ?_
        simp
        refine k3 _ ?_
        refine AW.seqTo ⟨178, [(1, .int .i64 W), (2, .ro false (bools a)), (3, .rop [.ro false (ints g.owner), .ro false (rows g.next)]), (7, .ro true (ints R)), (9, .rop [.ro false (ints g.owner), .ro true (rows F)]), (10, .int .i64 g.owner.length), (11, .int .i64 x), (61, .int .i64 g.owner.length), (62, .int .i64 x)], h⟩ (fun _ k3 => ?_) ?_
        · cases hb : hasN a x
          · have hne : ¬ R[x] = 0 := fun q => by rw [hz.1 q] at hb; cases hb
            have hne2 : (R[x] == 0) = false := by simpa using hne
            rw [hb] at sH
            refine AW.seq fun _ k4 => AW.draw [] 16 [] Θ_ok mixed (by kernel_rfl) (by kernel_rfl) ?_
            refine vcDraw_split 8 fun B hB => ?_
            simp [vcPre, vcTail, callA, isAlloc, isLoad, effOp, obl, obA, mkOK, valA, hltR]
            refine ⟨_, sH.wk (by simp), ?_⟩
            refine hB _ _ _ ?_
            clear hB B
            simp [vcPre, vcTail, callA, isAlloc, isLoad, effOp, obl, obA, mkOK, valA, hltR, hne, hne2, hlo, hlo']
            refine k4 _ ?_
            refine AW.cond false (by simp [Int.natCast_inj]) (fun h => by cases h) (fun _ => ?_)
            refine AW.skip ?_
            simp
            exact k3 _ (GStep.eq (by simp) (subH.refl _))
          · have hne := hz.2 hb
            have hne2 : (R[x] == 0) = true := by simpa using hne
            rw [hb] at sH
            refine AW.seq fun _ k4 => AW.draw [] 16 [] Θ_ok mixed (by kernel_rfl) (by kernel_rfl) ?_
            refine vcDraw_split 8 fun B hB => ?_
            simp [vcPre, vcTail, callA, isAlloc, isLoad, effOp, obl, obA, mkOK, valA, hltR]
            refine ⟨_, sH.wk (by simp), ?_⟩
            refine hB _ _ _ ?_
            clear hB B
            simp [vcPre, vcTail, callA, isAlloc, isLoad, effOp, obl, obA, mkOK, valA, hltR, hne, hne2, hlo, hlo']
            refine k4 _ ?_
            refine AW.cond false (by simp [Int.natCast_inj]) (fun h => by cases h) (fun _ => ?_)
            refine AW.skip ?_
            simp
            exact k3 _ (GStep.eq (by simp) (subH.refl _))
        · refine AW.seq fun _ k3 => ?_
          refine AW.seq fun _ k4 => AW.region [] Θ_ok ?_
          simp [hltR]
          refine k4 _ ?_
          by_cases c1 : R[x] < 1
          · refine AW.cond true (by simp [Int.natCast_inj, c1]) (fun _ => ?_) (fun h => by cases h)
            refine AW.exit ?_
            simp
            refine k2 _ ?_
            refine AW.region [] Θ_ok ?_
            simp
            exact ⟨x + 1, by omega, by omega, GStep.eq (by simp [inc]) (subH.refl _)⟩
          · have c2 : 1 ≤ R[x] := by omega
            have hok2 := hFx c2
            have f1 := hok2.own
            have f2 := hok2.all
            have f3 := hok2.most
            have f4 := hok2.none
            rw [er] at f2 f3 f4
            rw [eo] at f1
            have f2 : ∀ w ∈ F[x], 0 ≤ w ∧ w < g.owner.length ∧ 0 ≤ rv R w.toNat ∧ rv R w.toNat < R[x] := f2
            have f3 : F[x] ≠ [] → ∃ w ∈ F[x], rv R w.toNat + 1 = R[x] := f3
            clear hok2 hFx hz
            refine AW.cond false (by simp [Int.natCast_inj, c1, c2]) (fun h => by cases h) (fun _ => ?_)
            refine AW.skip ?_
            simp
            refine k3 _ ?_
            refine AW.seqTo ⟨178, [(1, .int .i64 W), (2, .ro false (bools a)), (3, .rop [.ro false (ints g.owner), .ro false (rows g.next)]), (7, .ro true (ints R)), (9, .rop [.ro false (ints g.owner), .ro true (rows F)]), (10, .int .i64 g.owner.length), (11, .int .i64 x), (61, .int .i64 g.owner.length), (62, .int .i64 x)], h⟩ (fun _ k3 => ?_) ?_
            · by_cases ho : g.owner[x] = W
              · have f1' := f1 ho
                refine AW.seq fun _ k4 => AW.region [] Θ_ok ?_
                simp [hlt, hltF, ho, f1']
                refine k4 _ ?_
                refine AW.cond false (by simp [Int.natCast_inj]) (fun h => by cases h) (fun _ => ?_)
                refine AW.skip ?_
                simp
                exact k3 _ (GStep.eq (by simp) (subH.refl _))
              · refine AW.seq fun _ k4 => AW.region [] Θ_ok ?_
                simp [hlt, hltF, ho]
                refine k4 _ ?_
                refine AW.cond false (by simp [Int.natCast_inj]) (fun h => by cases h) (fun _ => ?_)
                refine AW.skip ?_
                simp
                exact k3 _ (GStep.eq (by simp) (subH.refl _))
            · refine AW.seq fun _ k3 => AW.region [] Θ_ok ?_
              simp
              refine k3 _ ?_
              refine AW.seq fun _ k3 => ?_
              refine AW.seq fun _ k4 => AW.region [] Θ_ok ?_
              simp [hltF]
              refine k4 _ ?_
              refine AW.block ?_
              refine AW.loopI (X := MS) (fun z => z.y ≤ F[x].length ∧ 0 ≤ z.m ∧ z.m ≤ R[x] ∧ ∀ j (h : j < F[x].length), j < z.y → rv R (F[x][j]).toNat + 1 ≤ z.m) (fun z => ⟨178, [(1, .int .i64 W), (2, .ro false (bools a)), (3, .rop [.ro false (ints g.owner), .ro false (rows g.next)]), (7, .ro true (ints R)), (9, .rop [.ro false (ints g.owner), .ro true (rows F)]), (10, .int .i64 g.owner.length), (11, .int .i64 x), (12, .int .i64 z.m), (61, .int .i64 g.owner.length), (62, .int .i64 x), (106, .ro false (ints F[x])), (107, .int .i64 F[x].length), (108, .int .i64 z.y)], h⟩) (fun z => F[x].length - z.y) ⟨0, 0⟩ ⟨Nat.zero_le _, Int.le_refl _, by simp only; omega, fun j _ h => by simp only at h; omega⟩ (GStep.eq (by simp) (subH.refl _)) ?_
              rintro ⟨y, m⟩ ⟨hy, hm0, hm1, hmj⟩
              simp only at hy hm0 hm1 hmj ⊢
              refine AW.seq fun _ k4 => AW.region [] Θ_ok ?_
              simp
              refine k4 _ ?_
              by_cases hlt2 : y < F[x].length
              · have inc2 := wrap_succ (show y < 9223372036854775807 by omega)
                obtain ⟨u0, u1, u2, u3⟩ := f2 _ (List.getElem_mem hlt2)
                obtain ⟨u, hu⟩ : ∃ u : Nat, F[x][y] = u := ⟨(F[x][y]).toNat, by omega⟩
                have hun : u < R.length := by omega
                have hun2 : (u : Int) < (g.owner.length : Int) := by omega
                have eu : rv R (F[x][y]).toNat = R[u] := by rw [hu]; simp [rv, hun]
                rw [eu] at u2 u3
                have v1 : ¬ (u : Int) < 0 := by omega
                have v2 : ¬ (g.owner.length : Int) ≤ (u : Int) := by omega
                have v2' : ¬ g.owner.length ≤ u := by omega
                have v3 : ¬ R[u] < 0 := by omega
                have v4 : ¬ R[x] ≤ R[u] := by omega
                have hhi : R[x] ≤ 3000 := by
                  have := hbig x hlt
                  rw [er] at this; omega
                have w1 : IntKind.i64.wrap (R[u] + 1) = R[u] + 1 := wrap_id (by omega) (by omega)
                obtain ⟨m2, hm2⟩ : ∃ m2 : Int, m2 = if R[u] + 1 > m then R[u] + 1 else m := ⟨_, rfl⟩
                have m2a : m ≤ m2 ∧ R[u] + 1 ≤ m2 ∧ m2 ≤ R[x] := by rw [hm2]; split <;> omega
                refine AW.seq fun _ k4 => AW.cond true (by simp [Int.natCast_inj, hlt2]) (fun _ => ?_) (fun h => by cases h)
                refine AW.skip ?_
                simp
                refine k4 _ ?_
                refine AW.seq fun _ k4 => ?_
                refine AW.block ?_
                refine AW.seq fun _ k5 => AW.region [] Θ_ok ?_
                simp [hlt2, hu]
                refine k5 _ ?_
                refine AW.seq fun _ k5 => ?_
                refine AW.seq fun _ k6 => AW.draw [] 25 [] Θ_ok mixed (by kernel_rfl) (by kernel_rfl) ?_
                simp [vcDraw, vcPre, vcTail, callA, isAlloc, isLoad, effOp, obl, obA, mkOK, valA, hun, hltR, hun2, v1, v2, v2', v3, v4, u2, u3]
                refine k6 _ ?_
                refine AW.cond false (by simp [Int.natCast_inj]) (fun h => by cases h) (fun _ => ?_)
                refine AW.skip ?_
                simp
                refine k5 _ ?_
                by_cases c5 : m < R[u] + 1
                · have e2 : m2 = R[u] + 1 := by rw [hm2, if_pos c5]
                  refine AW.region [] Θ_ok ?_
                  simp [hun, w1, c5]
                  refine k4 _ ?_
                  refine AW.region [] Θ_ok ?_
                  simp
                  exact ⟨⟨y + 1, m2⟩, ⟨by simp only; omega, by simp only; omega, m2a.2.2, fun j hj hj2 => by
                    simp only at hj2 ⊢
                    by_cases e : j = y
                    · subst e; rw [eu]; exact m2a.2.1
                    · have := hmj j hj (by omega); omega⟩, by simp only; omega, GStep.eq (by simp [inc2, e2]) (subH.refl _)⟩
                · have e2 : m2 = m := by rw [hm2, if_neg c5]
                  have c6 : R[u] + 1 ≤ m := by omega
                  refine AW.region [] Θ_ok ?_
                  simp [hun, w1, c5, c6]
                  refine k4 _ ?_
                  refine AW.region [] Θ_ok ?_
                  simp
                  exact ⟨⟨y + 1, m2⟩, ⟨by simp only; omega, by simp only; omega, m2a.2.2, fun j hj hj2 => by
                    simp only at hj2 ⊢
                    by_cases e : j = y
                    · subst e; rw [eu]; exact m2a.2.1
                    · have := hmj j hj (by omega); omega⟩, by simp only; omega, GStep.eq (by simp [inc2, e2]) (subH.refl _)⟩
              · obtain rfl : y = F[x].length := by omega
                refine AW.seq fun _ k4 => AW.cond false (by simp [Int.natCast_inj]) (fun h => by cases h) (fun _ => ?_)
                refine AW.exit ?_
                simp
                refine k3 _ ?_
                by_cases hl : F[x] = []
                · have hl2 : ((F[x].length : Nat) : Int) = 0 := by rw [hl]; rfl
                  have hl3 : ¬ (0 : Int) < ((F[x].length : Nat) : Int) := by omega
                  have h4 := f4 hl
                  by_cases c5 : m = R[x]
                  · refine AW.seq fun _ k4 => AW.region [] Θ_ok ?_
                    simp [hltR, hltF, hl, hl2, hl3, h4, c5]
                    refine k4 _ ?_
                    refine AW.cond false (by simp [Int.natCast_inj]) (fun h => by cases h) (fun _ => ?_)
                    refine AW.skip ?_
                    simp
                    refine k2 _ ?_
                    refine AW.region [] Θ_ok ?_
                    simp
                    exact ⟨x + 1, by omega, by omega, GStep.eq (by simp [inc]) (subH.refl _)⟩
                  · rw [h4] at c5
                    refine AW.seq fun _ k4 => AW.region [] Θ_ok ?_
                    simp [hltR, hltF, hl, hl2, hl3, h4, c5]
                    refine k4 _ ?_
                    refine AW.cond false (by simp [Int.natCast_inj]) (fun h => by cases h) (fun _ => ?_)
                    refine AW.skip ?_
                    simp
                    refine k2 _ ?_
                    refine AW.region [] Θ_ok ?_
                    simp
                    exact ⟨x + 1, by omega, by omega, GStep.eq (by simp [inc]) (subH.refl _)⟩
                · obtain ⟨w, hw, hw2⟩ := f3 hl
                  obtain ⟨j, hj, rfl⟩ := List.getElem_of_mem hw
                  have := hmj j hj hj
                  have c5 : m = R[x] := by omega
                  have hl1 : 0 < F[x].length := List.length_pos_iff.2 hl
                  have hl2 : ¬ ((F[x].length : Nat) : Int) = 0 := by omega
                  refine AW.seq fun _ k4 => AW.region [] Θ_ok ?_
                  simp [hltR, hltF, hl, hl2, c5]
                  refine k4 _ ?_
                  refine AW.cond false (by simp [Int.natCast_inj]) (fun h => by cases h) (fun _ => ?_)
                  refine AW.skip ?_
                  simp
                  refine k2 _ ?_
                  refine AW.region [] Θ_ok ?_
                  simp
                  exact ⟨x + 1, by omega, by omega, GStep.eq (by simp [inc]) (subH.refl _)⟩
      obtain rfl : x = g.owner.length := by omega
      refine AW.seq fun _ k2 => AW.cond false (by simp [Int.natCast_inj]) (fun h => by cases h) (fun _ => ?_)
      refine AW.exit ?_
      simp
      refine k1 _ ?_
      refine AW.seq fun _ kr => AW.region [] Θ_ok ?_
      simp
      refine (l12_awake).use (by simp [G.av]) ?_
      try simp
      refine kr _ (AW.ret ?_)
      simp [Try.f7]
      exact Fin.refl ⟨rfl, rfl⟩
    · refine AW.seq fun _ k1 => ?_
      refine AW.seq fun _ k2 => AW.regionAt 3 [] Θ_ok fun B hB => ?_
      simp
      refine sl.use (by simp [G.av]) ?_
      refine hB _ ?_
      clear hB B
      refine vcOps_split 4 fun B hB => ?_
      simp
      refine (r9_May g hf).use (by simp [G.av]) ?_
      refine hB _ ?_
      clear hB B
      simp [hm]
      refine k2 _ ?_
      refine AW.cond true (by simp [Int.natCast_inj, hm]) (fun _ => ?_) (fun h => by cases h)
      refine AW.seq fun _ kr => AW.region [] Θ_ok ?_
      simp
      refine (l12_awake).use (by simp [G.av]) ?_
      try simp
      refine kr _ (AW.ret ?_)
      simp [Try.f7]
      exact Fin.refl ⟨rfl, rfl⟩
  · have h1 : lb = false := by simpa using h1
    subst h1
    refine AW.seq fun _ k1 => ?_
    refine AW.seq fun _ k2 => AW.regionAt 3 [] Θ_ok fun B hB => ?_
    simp
    refine sl.use (by simp [G.av]) ?_
    refine hB _ ?_
    clear hB B
    simp
    refine k2 _ ?_
    refine AW.cond true (by simp [Int.natCast_inj]) (fun _ => ?_) (fun h => by cases h)
    refine AW.seq fun _ kr => AW.region [] Θ_ok ?_
    simp
    refine (l12_awake).use (by simp [G.av]) ?_
    try simp
    refine kr _ (AW.ret ?_)
    simp [Try.f7]
    exact Fin.refl ⟨rfl, rfl⟩
end Go.Par
