import Derived.Test.YtlpfokngocdanaaAtF
import Derived.Test.YtlpfokngocdanaaAtG
set_option linter.unusedSimpArgs false
set_option linter.unusedVariables false
set_option maxRecDepth 8000
set_option maxHeartbeats 1000000
namespace Go.Par
open Go.Proofs

theorem law_AttractGrows (g : G) (hg : g.wide) (p : Int) (_ : DK.fits .int p) (a : List Bool) (ha : (DK.sl .bool).fits a) (b : List Bool) (hb : (DK.sl .bool).fits b) : Pure Try.prog 4 [g.av, .int .i64 p, .ro false (bools a), .ro false (bools b)] (.bool true) := by
  have hf := hg.f
  have sl := l12_light g hf a
  have hlb : light12 g a = true → a.length ≤ 300 := fun h => by
    simp only [light12, Bool.and_eq_true, decide_eq_true_eq] at h; exact h.2
  generalize light12 g a = lb at *
  intro h
  refine AC.body Θ_ok Try.func4 rfl rfl (Nat.le_of_ble_eq_true rfl) ?_
  refine AW.seq fun _ k1 => AW.region [] Θ_ok ?_
  simp
  refine k1 _ ?_
  by_cases h1 : lb = true
  · subst h1
    have ha3 := hlb rfl
    by_cases h2 : 300 < b.length
    · have h2' : (300 : Int) < (b.length : Int) := by omega
      refine AW.seq fun _ k1 => ?_
      refine AW.seq fun _ k2 => AW.regionAt 3 [] Θ_ok fun B hB => ?_
      simp
      refine sl.use (by simp [G.av]) ?_
      refine hB _ ?_
      clear hB B
      simp [h2, h2']
      refine k2 _ ?_
      refine AW.cond true (by simp [Int.natCast_inj]) (fun _ => ?_) (fun h => by cases h)
      refine AW.seq fun _ kr => AW.region [] Θ_ok ?_
      simp
      refine (l12_awake).use (by simp [G.av]) ?_
      try simp
      refine kr _ (AW.ret ?_)
      simp [Try.f4]
      exact Fin.refl ⟨rfl, rfl⟩
    · have h2' : ¬ (300 : Int) < (b.length : Int) := by omega
      have h2'' : (b.length : Int) ≤ 300 := by omega
      by_cases hm : mayE g = 0
      · have hn3 := (may_ok hm).1
        refine AW.seq fun _ k1 => ?_
        refine AW.seq fun _ k2 => AW.regionAt 3 [] Θ_ok fun B hB => ?_
        simp
        refine sl.use (by simp [G.av]) ?_
        refine hB _ ?_
        clear hB B
        refine vcOps_split 9 fun B hB => ?_
        simp [h2, h2', h2'']
        refine (r9_May g hf).use (by simp [G.av]) ?_
        refine hB _ ?_
        clear hB B
        simp [hm]
        refine k2 _ ?_
        refine AW.cond false (by simp [Int.natCast_inj]) (fun h => by cases h) (fun _ => ?_)
        refine AW.skip ?_
        simp
        refine k1 _ ?_
        refine AW.seq fun _ k1 => AW.region [] Θ_ok ?_
        simp
        refine k1 _ ?_
        have hw := who2_cases p
        change AW _ _ _ ⟨_, (1, .int .i64 (who2 p)) :: _, _⟩
        generalize who2 p = W at hw
        have hok : okP g W := ⟨hm, hw⟩
        have sA := attract_Ranks g hf W a (by omega)
        have sB := attract_Ranks g hf W (orL g a b) (by rw [len_or]; omega)
        rw [ranksA_eq, if_pos hok] at sA sB
        have hgr : ∀ v (h : v < (ranksL g W a).length) (h' : v < (ranksL g W (orL g a b)).length), 0 ≤ (ranksL g W a)[v] → 0 ≤ (ranksL g W (orL g a b))[v] ∧ (ranksL g W (orL g a b))[v] ≤ (ranksL g W a)[v] := by
          intro v h h' h0
          have hv : v < g.owner.length := by rwa [ranksL_len] at h
          rw [ranksL_get] at h0 ⊢
          rw [ranksL_get]
          exact grows hm (fun u hu q => by rw [has_or hu, q]; rfl) hv h0
        have lX := ranksL_len g W a
        have lY := ranksL_len g W (orL g a b)
        generalize ranksL g W a = X at *
        generalize ranksL g W (orL g a b) = Y at *
        refine AW.seq fun _ k1 => AW.draw [] 13 [] Θ_ok mixed (by kernel_rfl) (by kernel_rfl) ?_
        simp [vcDraw, vcPre, vcTail, callA, isAlloc, isLoad, effOp, obl, obA, mkOK, valA]
        refine ⟨_, sA.wk (by simp [G.av]), ?_⟩
        try simp
        refine ⟨_, (pre_Or g a b hf.owner).wk (by simp [G.av]), ?_⟩
        try simp
        refine ⟨_, sB.wk (by simp [G.av]), ?_⟩
        try simp
        refine k1 _ ?_
        refine AW.seq fun _ k1 => ?_
        refine AW.seq fun _ k2 => AW.region [] Θ_ok ?_
        simp [lX, lY]
        refine k2 _ ?_
        refine AW.cond false (by simp [Int.natCast_inj]) (fun h => by cases h) (fun _ => ?_)
        refine AW.skip ?_
        simp
        refine k1 _ ?_
        refine AW.seq fun _ k1 => ?_
        refine AW.seq fun _ k2 => AW.region [] Θ_ok ?_
        simp
        refine k2 _ ?_
        refine AW.block ?_
        refine AW.loopI (X := Nat) (fun x => x ≤ X.length) (fun x => ⟨85, [(9, .ro true (ints X)), (10, .ro true (ints Y)), (56, .int .i64 X.length), (57, .int .i64 x)], h⟩) (fun x => X.length - x) 0 (Nat.zero_le _) (GStep.eq (by simp) (subH.refl _)) fun x hx => ?_
        refine AW.seq fun _ k2 => AW.region [] Θ_ok ?_
        simp
        refine k2 _ ?_
        by_cases hlt : x < X.length
        · have inc := wrap_succ (show x < 9223372036854775807 by omega)
          have hltY : x < Y.length := by omega
          have hg2 := hgr x hlt hltY
          refine AW.seq fun _ k2 => AW.cond true (by simp [Int.natCast_inj, hlt]) (fun _ => ?_) (fun h => by cases h)
          refine AW.skip ?_
          simp
          refine k2 _ ?_
          refine AW.seq fun _ k2 => ?_
          refine AW.block ?_
          refine AW.seq fun _ k3 => AW.region [] Θ_ok ?_
          simp
          refine k3 _ ?_
          by_cases c1 : 0 ≤ X[x]
          · obtain ⟨c2, c3⟩ := hg2 c1
            have c4 : ¬ Y[x] < 0 := by omega
            have c5 : ¬ X[x] < Y[x] := by omega
            refine AW.seq fun _ k3 => AW.draw [] 23 [] Θ_ok mixed (by kernel_rfl) (by kernel_rfl) ?_
            simp [vcDraw, vcPre, vcTail, callA, isAlloc, isLoad, effOp, obl, obA, mkOK, valA, hlt, hltY, c1, c2, c3, c4, c5]
            refine k3 _ ?_
            refine AW.cond false (by simp [Int.natCast_inj]) (fun h => by cases h) (fun _ => ?_)
            refine AW.skip ?_
            simp
            refine k2 _ ?_
            refine AW.region [] Θ_ok ?_
            simp
            exact ⟨x + 1, by omega, by omega, GStep.eq (by simp [inc]) (subH.refl _)⟩
          · have c2 : X[x] < 0 := by omega
            refine AW.seq fun _ k3 => AW.draw [] 23 [] Θ_ok mixed (by kernel_rfl) (by kernel_rfl) ?_
            simp [vcDraw, vcPre, vcTail, callA, isAlloc, isLoad, effOp, obl, obA, mkOK, valA, hlt, hltY, c1, c2]
            refine k3 _ ?_
            refine AW.cond false (by simp [Int.natCast_inj]) (fun h => by cases h) (fun _ => ?_)
            refine AW.skip ?_
            simp
            refine k2 _ ?_
            refine AW.region [] Θ_ok ?_
            simp
            exact ⟨x + 1, by omega, by omega, GStep.eq (by simp [inc]) (subH.refl _)⟩
        · obtain rfl : x = X.length := by omega
          refine AW.seq fun _ k2 => AW.cond false (by simp [Int.natCast_inj]) (fun h => by cases h) (fun _ => ?_)
          refine AW.exit ?_
          simp
          refine k1 _ ?_
          refine AW.seq fun _ kr => AW.region [] Θ_ok ?_
          simp
          refine (l12_awake).use (by simp [G.av]) ?_
          try simp
          refine kr _ (AW.ret ?_)
          simp [Try.f4]
          exact Fin.refl ⟨rfl, rfl⟩
      · refine AW.seq fun _ k1 => ?_
        refine AW.seq fun _ k2 => AW.regionAt 3 [] Θ_ok fun B hB => ?_
        simp
        refine sl.use (by simp [G.av]) ?_
        refine hB _ ?_
        clear hB B
        refine vcOps_split 9 fun B hB => ?_
        simp [h2, h2', h2'']
        refine (r9_May g hf).use (by simp [G.av]) ?_
        refine hB _ ?_
        clear hB B
        simp [hm]
        refine k2 _ ?_
        refine AW.cond true (by simp [Int.natCast_inj, hm]) (fun _ => ?_) (fun h => by cases h)
        refine AW.seq fun _ kr => AW.region [] Θ_ok ?_
        simp
        refine (l12_awake).use (by simp [G.av]) ?_
        try simp
        refine kr _ (AW.ret ?_)
        simp [Try.f4]
        exact Fin.refl ⟨rfl, rfl⟩
  · have h1 : lb = false := by simpa using h1
    subst h1
    refine AW.seq fun _ k1 => ?_
    refine AW.seq fun _ k2 => AW.regionAt 3 [] Θ_ok fun B hB => ?_
    simp
    refine sl.use (by simp [G.av]) ?_
    refine hB _ ?_
    clear hB B
    simp
    refine k2 _ ?_
    refine AW.cond true (by simp [Int.natCast_inj]) (fun _ => ?_) (fun h => by cases h)
    refine AW.seq fun _ kr => AW.region [] Θ_ok ?_
    simp
    refine (l12_awake).use (by simp [G.av]) ?_
    try simp
    refine kr _ (AW.ret ?_)
    simp [Try.f4]
    exact Fin.refl ⟨rfl, rfl⟩
end Go.Par
