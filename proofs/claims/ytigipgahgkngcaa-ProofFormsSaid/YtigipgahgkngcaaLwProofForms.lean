import Derived.Test.YtigipgahgkngcaaWpI
import Derived.Test.YtigipgahgkngcaaLwProofRows
set_option linter.unusedSimpArgs false
set_option linter.unusedVariables false
set_option maxRecDepth 8000
set_option maxHeartbeats 1000000
namespace Go.Par
open Go.Proofs

theorem law_ProofForms (g : G) (hg : g.wide) (P : List Int) (hP : (DK.sl .int).fits P) (who : Int) (_ : DK.fits .int who) (to_ : List Int) (hto : (DK.sl .int).fits to_) (from_ : List Bool) (hfr : (DK.sl .bool).fits from_) (next : List (List Int)) (hnx : (DK.sl (.sl .int)).fits next) :
    Pure Try.prog 8 [g.av, .ro false (ints P), .int .i64 who, .ro false (ints to_), .ro false (bools from_), .ro false (rows next)] (.bool true) := by
  have hf := hg.f
  have hPl : P.length ≤ 1152921504606846976 := by
    have : P.length * 8 ≤ reachBytes := hP.1
    unfold reachBytes at this
    omega
  obtain ⟨n1, n2⟩ := fits_ll hnx
  have sH := l15_Heavy g hf P
  have sL := l17_light next n1 n2 from_ (fits_b hfr) [] (by simp) (fun A h => by cases h) (fun A h => by cases h)
  have sA := l17_awake
  intro h
  refine AC.body Θ_ok Try.func8 rfl rfl (Nat.le_of_ble_eq_true rfl) ?_
  refine AW.seq fun _ k1 => AW.region [] Θ_ok ?_
  simp
  refine k1 _ ?_
  refine AW.seq fun _ k1 => ?_
  by_cases h1 : 0 < heavy15 g P
  · refine AW.seq fun _ k2 => AW.regionAt 3 [] Θ_ok fun B hB => ?_
    simp
    refine sH.use (by simp [G.av]) ?_
    refine hB _ ?_
    clear hB B
    simp [h1]
    refine k2 _ ?_
    refine AW.cond true (by simp [Int.natCast_inj]) (fun _ => ?_) (fun h => by cases h)
    refine AW.seq fun _ kr => AW.region [] Θ_ok ?_
    simp
    refine sA.use (by simp) ?_
    refine kr _ (AW.ret ?_)
    simp [Try.f8]
    exact Fin.refl ⟨rfl, rfl⟩
  have h1' := Int.not_lt.1 h1
  by_cases hla : light17 next from_ [] = true
  · rw [hla] at sL
    by_cases h3 : to_.length ≤ 300
    · have h3' : ¬ (300 : Int) < (to_.length : Int) := by omega
      have h3'' : ¬ 300 < to_.length := by omega
      refine AW.seq fun _ k2 => AW.regionAt 3 [] Θ_ok fun B hB => ?_
      simp
      refine sH.use (by simp [G.av]) ?_
      refine hB _ ?_
      clear hB B
      refine vcOps_split 5 fun B hB => ?_
      simp [h1, h1']
      refine sL.use (by simp [bools3]) ?_
      refine hB _ ?_
      clear hB B
      simp [h3, h3', h3'']
      refine k2 _ ?_
      refine AW.cond false (by simp [Int.natCast_inj]) (fun h => by cases h) (fun _ => ?_)
      refine AW.skip ?_
      simp
      refine k1 _ ?_
      obtain ⟨hN, _, _, hr, _⟩ := light_row hla
      have w1 := proof_Wins g hf P hPl who to_ from_
      have w2 := r9_Wins g hf P hPl who to_ from_
      have e1 := proof_Even next n1 hr P from_
      have e2 := r9_EvenN next n1 hr P from_
      rw [ev_par0] at e1
      generalize winsB g P who to_ from_ = b at *
      generalize (mayN next && decide (P.length = next.length) && parB next P from_ 0) = c at *
      refine AW.seq fun _ kr => AW.draw [] 28 [] Θ_ok mixed (by kernel_rfl) (by kernel_rfl) ?_
      refine vcDraw_split 6 fun B hB => ?_
      simp [vcPre, vcTail, callA, isAlloc, isLoad, effOp, obl, obA, mkOK, valA]
      refine ⟨_, w1.wk (by simp [G.av]), ?_⟩
      refine hB _ _ _ ?_
      clear hB B
      refine vcPre_split 6 fun B hB => ?_
      simp [vcPre, vcTail, callA, isAlloc, isLoad, effOp, obl, obA, mkOK, valA]
      refine ⟨_, w2.wk (by simp [G.av]), ?_⟩
      refine hB _ _ _ ?_
      clear hB B
      refine vcPre_split 6 fun B hB => ?_
      simp [vcPre, vcTail, callA, isAlloc, isLoad, effOp, obl, obA, mkOK, valA]
      refine ⟨_, e1.wk (by simp), ?_⟩
      refine hB _ _ _ ?_
      clear hB B
      refine vcPre_split 4 fun B hB => ?_
      simp [vcPre, vcTail, callA, isAlloc, isLoad, effOp, obl, obA, mkOK, valA]
      refine ⟨_, e2.wk (by simp), ?_⟩
      refine hB _ _ _ ?_
      clear hB B
      refine vcPre_split 4 fun B hB => ?_
      simp [vcPre, vcTail, callA, isAlloc, isLoad, effOp, obl, obA, mkOK, valA]
      refine ⟨_, sA.wk (by simp), ?_⟩
      refine hB _ _ _ ?_
      clear hB B
      simp [vcPre, vcTail, callA, isAlloc, isLoad, effOp, obl, obA, mkOK, valA]
      refine kr _ (AW.ret ?_)
      simp [Try.f8]
      exact Fin.refl ⟨rfl, rfl⟩
    · have h3' : (300 : Int) < (to_.length : Int) := by omega
      have h3'' : 300 < to_.length := by omega
      refine AW.seq fun _ k2 => AW.regionAt 3 [] Θ_ok fun B hB => ?_
      simp
      refine sH.use (by simp [G.av]) ?_
      refine hB _ ?_
      clear hB B
      refine vcOps_split 5 fun B hB => ?_
      simp [h1, h1']
      refine sL.use (by simp [bools3]) ?_
      refine hB _ ?_
      clear hB B
      simp [h3, h3', h3'']
      refine k2 _ ?_
      refine AW.cond true (by simp [Int.natCast_inj]) (fun _ => ?_) (fun h => by cases h)
      refine AW.seq fun _ kr => AW.region [] Θ_ok ?_
      simp
      refine sA.use (by simp) ?_
      refine kr _ (AW.ret ?_)
      simp [Try.f8]
      exact Fin.refl ⟨rfl, rfl⟩
  · rw [show light17 next from_ [] = false by simpa using hla] at sL
    refine AW.seq fun _ k2 => AW.regionAt 3 [] Θ_ok fun B hB => ?_
    simp
    refine sH.use (by simp [G.av]) ?_
    refine hB _ ?_
    clear hB B
    refine vcOps_split 5 fun B hB => ?_
    simp [h1, h1']
    refine sL.use (by simp [bools3]) ?_
    refine hB _ ?_
    clear hB B
    simp
    refine k2 _ ?_
    refine AW.cond true (by simp [Int.natCast_inj]) (fun _ => ?_) (fun h => by cases h)
    refine AW.seq fun _ kr => AW.region [] Θ_ok ?_
    simp
    refine sA.use (by simp) ?_
    refine kr _ (AW.ret ?_)
    simp [Try.f8]
    exact Fin.refl ⟨rfl, rfl⟩
end Go.Par
