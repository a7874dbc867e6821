import Derived.Test.YtlpfokngocdanaaAtF
import Derived.Test.YtlpfokngocdanaaAtG
import Derived.Test.YtlpfokngocdanaaAtK
set_option linter.unusedSimpArgs false
set_option linter.unusedVariables false
set_option maxRecDepth 8000
set_option maxHeartbeats 1000000
namespace Go.Par
open Go.Proofs

theorem law_SafeMore (g : G) (hg : g.wide) (p : Int) (_ : DK.fits .int p) (a : List Bool) (ha : (DK.sl .bool).fits a) (b : List Bool) (hb : (DK.sl .bool).fits b) : Pure Try.prog 11 [g.av, .int .i64 p, .ro false (bools a), .ro false (bools b)] (.bool true) := by
  have hf := hg.f
  have sl := l13_light g hf a
  have hlb : light12 g a = true → a.length ≤ 300 := fun h => by
    simp only [light12, Bool.and_eq_true, decide_eq_true_eq] at h; exact h.2
  generalize light12 g a = lb at *
  intro h
  refine AC.body Θ_ok Try.func11 rfl rfl (Nat.le_of_ble_eq_true rfl) ?_
  refine AW.seq fun _ k1 => AW.region [] Θ_ok ?_
  simp
  refine k1 _ ?_
  by_cases h1 : lb = true
  · subst h1
    have ha3 := hlb rfl
    by_cases h2 : 300 < b.length
    · have h2' : (300 : Int) < (b.length : Int) := by omega
      refine AW.seq fun _ k1 => ?_
      refine AW.seq fun _ k2 => AW.regionAt 3 [] Θ_ok fun B hB => ?_
      simp
      refine sl.use (by simp [G.av]) ?_
      refine hB _ ?_
      clear hB B
      simp [h2, h2']
      refine k2 _ ?_
      refine AW.cond true (by simp [Int.natCast_inj]) (fun _ => ?_) (fun h => by cases h)
      refine AW.seq fun _ kr => AW.region [] Θ_ok ?_
      simp
      refine (l13_awake).use (by simp [G.av]) ?_
      try simp
      refine kr _ (AW.ret ?_)
      simp [Try.f11]
      exact Fin.refl ⟨rfl, rfl⟩
    · have h2' : ¬ (300 : Int) < (b.length : Int) := by omega
      have h2'' : (b.length : Int) ≤ 300 := by omega
      by_cases hm : mayE g = 0
      · have hn3 := (may_ok hm).1
        refine AW.seq fun _ k1 => ?_
        refine AW.seq fun _ k2 => AW.regionAt 3 [] Θ_ok fun B hB => ?_
        simp
        refine sl.use (by simp [G.av]) ?_
        refine hB _ ?_
        clear hB B
        refine vcOps_split 9 fun B hB => ?_
        simp [h2, h2', h2'']
        refine (r9_May g hf).use (by simp [G.av]) ?_
        refine hB _ ?_
        clear hB B
        simp [hm]
        refine k2 _ ?_
        refine AW.cond false (by simp [Int.natCast_inj]) (fun h => by cases h) (fun _ => ?_)
        refine AW.skip ?_
        simp
        refine k1 _ ?_
        refine AW.seq fun _ k1 => AW.region [] Θ_ok ?_
        simp
        refine k1 _ ?_
        have hw := who2_cases p
        change AW _ _ _ ⟨_, (1, .int .i64 (who2 p)) :: _, _⟩
        generalize who2 p = W at hw
        have hok : okP g W := ⟨hm, hw⟩
        have sX := safe_Keep g hf W a (by omega)
        have sY := safe_Keep g hf W b (by omega)
        have sZ := safe_Keep g hf W (andL g a b) (by rw [len_and]; omega)
        have sN := safe_Keep g hf W [] (by simp)
        rw [keepA, if_pos hok] at sX sY sZ sN
        have sA := pre_And g a b hf.owner
        have sC := pre_Count g (keepL g W []) hf.owner
        have hc0 : (List.range g.owner.length).countP (hasN (keepL g W [])) = 0 := by
          rw [List.countP_eq_zero]
          intro v hv
          rw [keep_nil (List.mem_range.1 hv)]; simp
        rw [hc0] at sC
        have lX := keepL_len g W a
        have lY := keepL_len g W b
        have lZ := keepL_len g W (andL g a b)
        have hin : ∀ v, v < g.owner.length → hasN (keepL g W a) v = true → hasN a v = true := fun v hv q => keep_in hv q
        have hXY : ∀ v, v < g.owner.length → hasN (keepL g W (andL g a b)) v = true → hasN (keepL g W a) v = true ∧ hasN (keepL g W b) v = true := fun v hv q =>
          ⟨keep_mono hm (fun u hu c => by rw [has_and hu, Bool.and_eq_true] at c; exact c.1) hv q, keep_mono hm (fun u hu c => by rw [has_and hu, Bool.and_eq_true] at c; exact c.2) hv q⟩
        generalize keepL g W a = X at *
        generalize keepL g W b = Y at *
        generalize keepL g W (andL g a b) = Z at *
        generalize keepL g W [] = N0 at *
        generalize andL g a b = AB at *
        refine AW.seq fun _ k1 => AW.draw [] 10 [] Θ_ok mixed (by kernel_rfl) (by kernel_rfl) ?_
        refine vcDraw_split 4 fun B hB => ?_
        simp [vcPre, vcTail, callA, isAlloc, isLoad, effOp, obl, obA, mkOK, valA]
        refine ⟨_, sX.wk (by simp [G.av]), ?_⟩
        refine hB _ _ _ ?_
        clear hB B
        refine vcPre_split 4 fun B hB => ?_
        simp [vcPre, vcTail, callA, isAlloc, isLoad, effOp, obl, obA, mkOK, valA]
        refine ⟨_, sY.wk (by simp [G.av]), ?_⟩
        refine hB _ _ _ ?_
        clear hB B
        simp [vcPre, vcTail, callA, isAlloc, isLoad, effOp, obl, obA, mkOK, valA]
        refine k1 _ ?_
        refine AW.seq fun _ k1 => AW.draw [] 8 [] Θ_ok mixed (by kernel_rfl) (by kernel_rfl) ?_
        refine vcDraw_split 6 fun B hB => ?_
        simp [vcPre, vcTail, callA, isAlloc, isLoad, effOp, obl, obA, mkOK, valA]
        refine ⟨_, sA.wk (by simp [G.av]), ?_⟩
        refine hB _ _ _ ?_
        clear hB B
        refine vcPre_split 1 fun B hB => ?_
        simp [vcPre, vcTail, callA, isAlloc, isLoad, effOp, obl, obA, mkOK, valA]
        refine ⟨_, sZ.wk (by simp [G.av]), ?_⟩
        refine hB _ _ _ ?_
        clear hB B
        simp [vcPre, vcTail, callA, isAlloc, isLoad, effOp, obl, obA, mkOK, valA]
        refine k1 _ ?_
        refine AW.seq fun _ k1 => ?_
        refine AW.seq fun _ k2 => AW.draw [] 28 [] Θ_ok mixed (by kernel_rfl) (by kernel_rfl) ?_
        refine vcDraw_split 25 fun B hB => ?_
        simp [vcPre, vcTail, callA, isAlloc, isLoad, effOp, obl, obA, mkOK, valA, lX, lY, lZ]
        refine ⟨_, sN.wk (by simp [G.av]), ?_⟩
        refine hB _ _ _ ?_
        clear hB B
        refine vcPre_split 1 fun B hB => ?_
        simp [vcPre, vcTail, callA, isAlloc, isLoad, effOp, obl, obA, mkOK, valA]
        refine ⟨_, sC.wk (by simp [G.av]), ?_⟩
        refine hB _ _ _ ?_
        clear hB B
        simp [vcPre, vcTail, callA, isAlloc, isLoad, effOp, obl, obA, mkOK, valA, lX, lY, lZ]
        refine k2 _ ?_
        refine AW.cond false (by simp [Int.natCast_inj]) (fun h => by cases h) (fun _ => ?_)
        refine AW.skip ?_
        simp
        refine k1 _ ?_
        refine AW.seq fun _ k1 => ?_
        refine AW.seq fun _ k2 => AW.region [] Θ_ok ?_
        simp
        refine k2 _ ?_
        refine AW.block ?_
        refine AW.loopI (X := Nat) (fun x => x ≤ X.length) (fun x => ⟨112, [(2, .ro false (bools a)), (9, .ro true (bools X)), (10, .ro true (bools Y)), (11, .ro true (bools Z)), (76, .int .i64 X.length), (77, .int .i64 x)], h⟩) (fun x => X.length - x) 0 (Nat.zero_le _) (GStep.eq (by simp) (subH.refl _)) fun x hx => ?_
        refine AW.seq fun _ k2 => AW.region [] Θ_ok ?_
        simp
        refine k2 _ ?_
        by_cases hlt : x < X.length
        · have inc := wrap_succ (show x < 9223372036854775807 by omega)
          have hltg : x < g.owner.length := by omega
          have hltY : x < Y.length := by omega
          have hltZ : x < Z.length := by omega
          have h1 := hin x hltg
          have h2 := hXY x hltg
          have eX : hasN X x = X[x] := by simp [hasN, hlt]
          have eY : hasN Y x = Y[x] := by simp [hasN, hltY]
          have eZ : hasN Z x = Z[x] := by simp [hasN, hltZ]
          rw [eX] at h1
          rw [eX, eY, eZ] at h2
          clear hin hXY
          refine AW.seq fun _ k2 => AW.cond true (by simp [Int.natCast_inj, hlt]) (fun _ => ?_) (fun h => by cases h)
          refine AW.skip ?_
          simp
          refine k2 _ ?_
          refine AW.seq fun _ k2 => ?_
          refine AW.block ?_
          refine AW.seq fun _ k3 => AW.region [] Θ_ok ?_
          simp
          refine k3 _ ?_
          cases hX : X[x]
          · have hZ : Z[x] = false := by
              cases q : Z[x] with
              | false => rfl
              | true => have := (h2 q).1; rw [hX] at this; cases this
            refine AW.seq fun _ k3 => AW.region [] Θ_ok ?_
            simp [hlt, hltY, hltZ, hX, hZ]
            refine k3 _ ?_
            refine AW.cond false (by simp [Int.natCast_inj]) (fun h => by cases h) (fun _ => ?_)
            refine AW.skip ?_
            simp
            refine k2 _ ?_
            refine AW.region [] Θ_ok ?_
            simp
            exact ⟨x + 1, by omega, by omega, GStep.eq (by simp [inc]) (subH.refl _)⟩
          · have ea : (decide (0 ≤ (x : Int)) && hasI a (x : Int)) = true := by simpa using h1 hX
            have sH := r9_Has a x
            rw [ea] at sH
            cases hZ : Z[x]
            · refine AW.seq fun _ k3 => AW.regionAt 27 [] Θ_ok fun B hB => ?_
              simp [hlt, hltY, hltZ, hX, hZ]
              refine sH.use (by simp) ?_
              refine hB _ ?_
              clear hB B
              simp [hX, hZ]
              refine k3 _ ?_
              refine AW.cond false (by simp [Int.natCast_inj]) (fun h => by cases h) (fun _ => ?_)
              refine AW.skip ?_
              simp
              refine k2 _ ?_
              refine AW.region [] Θ_ok ?_
              simp
              exact ⟨x + 1, by omega, by omega, GStep.eq (by simp [inc]) (subH.refl _)⟩
            · have hY := (h2 hZ).2
              refine AW.seq fun _ k3 => AW.regionAt 27 [] Θ_ok fun B hB => ?_
              simp [hlt, hltY, hltZ, hX, hZ, hY]
              refine sH.use (by simp) ?_
              refine hB _ ?_
              clear hB B
              simp [hX, hZ, hY]
              refine k3 _ ?_
              refine AW.cond false (by simp [Int.natCast_inj]) (fun h => by cases h) (fun _ => ?_)
              refine AW.skip ?_
              simp
              refine k2 _ ?_
              refine AW.region [] Θ_ok ?_
              simp
              exact ⟨x + 1, by omega, by omega, GStep.eq (by simp [inc]) (subH.refl _)⟩
        obtain rfl : x = X.length := by omega
        refine AW.seq fun _ k2 => AW.cond false (by simp [Int.natCast_inj]) (fun h => by cases h) (fun _ => ?_)
        refine AW.exit ?_
        simp
        refine k1 _ ?_
        refine AW.seq fun _ kr => AW.region [] Θ_ok ?_
        simp
        refine (l13_awake).use (by simp [G.av]) ?_
        try simp
        refine kr _ (AW.ret ?_)
        simp [Try.f11]
        exact Fin.refl ⟨rfl, rfl⟩
      · refine AW.seq fun _ k1 => ?_
        refine AW.seq fun _ k2 => AW.regionAt 3 [] Θ_ok fun B hB => ?_
        simp
        refine sl.use (by simp [G.av]) ?_
        refine hB _ ?_
        clear hB B
        refine vcOps_split 9 fun B hB => ?_
        simp [h2, h2', h2'']
        refine (r9_May g hf).use (by simp [G.av]) ?_
        refine hB _ ?_
        clear hB B
        simp [hm]
        refine k2 _ ?_
        refine AW.cond true (by simp [Int.natCast_inj, hm]) (fun _ => ?_) (fun h => by cases h)
        refine AW.seq fun _ kr => AW.region [] Θ_ok ?_
        simp
        refine (l13_awake).use (by simp [G.av]) ?_
        try simp
        refine kr _ (AW.ret ?_)
        simp [Try.f11]
        exact Fin.refl ⟨rfl, rfl⟩
  · have h1 : lb = false := by simpa using h1
    subst h1
    refine AW.seq fun _ k1 => ?_
    refine AW.seq fun _ k2 => AW.regionAt 3 [] Θ_ok fun B hB => ?_
    simp
    refine sl.use (by simp [G.av]) ?_
    refine hB _ ?_
    clear hB B
    simp
    refine k2 _ ?_
    refine AW.cond true (by simp [Int.natCast_inj]) (fun _ => ?_) (fun h => by cases h)
    refine AW.seq fun _ kr => AW.region [] Θ_ok ?_
    simp
    refine (l13_awake).use (by simp [G.av]) ?_
    try simp
    refine kr _ (AW.ret ?_)
    simp [Try.f11]
    exact Fin.refl ⟨rfl, rfl⟩
end Go.Par
