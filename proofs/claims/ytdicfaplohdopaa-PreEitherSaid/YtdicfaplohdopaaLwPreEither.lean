import Derived.Test.YtdicfaplohdopaaFnE
set_option linter.unusedSimpArgs false
set_option maxRecDepth 8000
namespace Go.Par
open Go.Proofs

theorem forceA_ok {g : G} {who : Int} {in_ : List Bool} (hm : mayE g = 0) (hw : who = 0 ∨ who = 1) : forceA g who in_ = .ro true (bools (forceL g who in_)) := if_pos ⟨hm, hw⟩

theorem law_PreEither (g : G) (hg : g.wide) (p : Int) (_ : DK.fits .int p) (l : List Bool) (_ : (DK.sl .bool).fits l) : Pure Try.prog 3 [g.av, .int .i64 p, .ro false (bools l)] (.bool true) := by
  have hf := hg.f
  intro h
  refine AC.body Θ_ok Try.func3 rfl rfl (Nat.le_of_ble_eq_true rfl) ?_
  refine AW.seq fun _ k1 => AW.region [] Θ_ok ?_
  simp
  refine k1 _ ?_
  refine AW.seq fun _ k1 => ?_
  by_cases h1 : lightB g [l] = true ∧ mayE g = 0
  · obtain ⟨h1, hm⟩ := h1
    refine AW.seq fun _ k2 => AW.region [] Θ_ok ?_
    simp
    refine (l11_light g hf [l] (by simp)).use (by simp [G.av]) ?_
    try simp [h1]
    refine (r9_May g hf).use (by simp [G.av]) ?_
    try simp [hm]
    refine k2 _ ?_
    refine AW.cond false (by simp [Int.natCast_inj]) (fun h => by cases h) (fun _ => ?_)
    refine AW.skip ?_
    simp
    refine k1 _ ?_
    refine AW.seq fun _ k1 => AW.region [] Θ_ok ?_
    simp
    refine k1 _ ?_
    have hw := who2_cases p
    change AW _ _ _ ⟨_, (1, .int .i64 (who2 p)) :: _, _⟩
    generalize who2 p = W at hw
    have hs : IntKind.i64.wrap (1 - W) = 1 - W := wrap_id (by omega) (by omega)
    have hw' : 1 - W = 0 ∨ 1 - W = 1 := by omega
    have eA : (forceL g W l).length = g.owner.length := length_tab _ _
    have eB : (forceL g (1 - W) (notL g l)).length = g.owner.length := length_tab _ _
    have eAB : ∀ v (h : v < (forceL g W l).length) (h' : v < (forceL g (1 - W) (notL g l)).length), (forceL g (1 - W) (notL g l))[v] = !(forceL g W l)[v] := by
      intro v h h'
      simp only [forceL, getElem_tab]
      exact either hm l hw (by omega)
    have fA := pre_Force g hf W l
    have fB := pre_Force g hf (1 - W) (notL g l)
    rw [forceA_ok hm hw] at fA
    rw [forceA_ok hm hw'] at fB
    generalize forceL g W l = A at eA eAB fA
    generalize forceL g (1 - W) (notL g l) = B at eB eAB fB
    refine AW.seq fun _ k1 => AW.draw [] 13 [] Θ_ok mixed (by kernel_rfl) (by kernel_rfl) ?_
    simp [vcDraw, vcPre, vcAllocs, vcTail, callA, isAlloc, isLoad, effOp, obl, obA]
    refine ⟨_, fA.wk (by simp [G.av]), ?_⟩
    simp [hs]
    refine ⟨_, (pre_Not g l hf.owner).wk (by simp [G.av]), ?_⟩
    try simp
    refine ⟨_, fB.wk (by simp [G.av]), ?_⟩
    try simp
    refine k1 _ ?_
    refine AW.seq fun _ k1 => ?_
    refine AW.seq fun _ k2 => AW.region [] Θ_ok ?_
    simp [eA, eB]
    refine k2 _ ?_
    refine AW.cond false (by simp [Int.natCast_inj]) (fun h => by cases h) (fun _ => ?_)
    refine AW.skip ?_
    simp
    refine k1 _ ?_
    refine AW.seq fun _ k1 => ?_
    refine AW.seq fun _ k2 => AW.region [] Θ_ok ?_
    simp
    refine k2 _ ?_
    refine AW.block ?_
    refine AW.loopI (X := Nat) (fun x => x ≤ A.length) (fun x => ⟨65, [(51, .int .i64 x), (50, .int .i64 A.length), (7, .ro true (bools A)), (8, .ro true (bools B))], h⟩) (fun x => A.length - x) 0 (Nat.zero_le _) (GStep.eq (by simp [eA]) (subH.refl _)) fun x hx => ?_
    refine AW.seq fun _ k2 => AW.region [] Θ_ok ?_
    simp
    refine k2 _ ?_
    have hb := hf.owner
    by_cases hlt : x < A.length
    · have hlt' : x < B.length := by omega
      refine AW.seq fun _ k2 => AW.cond true (by simp [Int.natCast_inj, hlt]) (fun _ => ?_) (fun h => by cases h)
      refine AW.skip ?_
      simp
      refine k2 _ ?_
      refine AW.seq fun _ k2 => ?_
      refine AW.block ?_
      refine AW.seq fun _ k3 => AW.region [] Θ_ok ?_
      simp
      refine k3 _ ?_
      refine AW.seq fun _ k3 => AW.draw [] 9 [] Θ_ok mixed (by kernel_rfl) (by kernel_rfl) ?_
      simp [vcDraw, vcPre, vcAllocs, vcTail, callA, isAlloc, isLoad, effOp, obl, obA, hlt, hlt']
      refine k3 _ ?_
      have hne := eAB x hlt hlt'
      refine AW.cond false (by simp [Int.natCast_inj, hne]) (fun h => by cases h) (fun _ => ?_)
      refine AW.skip ?_
      simp
      refine k2 _ ?_
      refine AW.region [] Θ_ok ?_
      simp
      refine ⟨x + 1, by omega, by omega, GStep.eq ?_ (subH.refl _)⟩
      simp [wrap_succ (show x < 9223372036854775807 by omega)]
    · obtain rfl : x = A.length := by omega
      refine AW.seq fun _ k2 => AW.cond false (by simp [Int.natCast_inj]) (fun h => by cases h) (fun _ => ?_)
      refine AW.exit ?_
      simp
      refine k1 _ ?_
      refine AW.seq fun _ kr => AW.region [] Θ_ok ?_
      simp
      refine (l11_awake).use (by simp [G.av]) ?_
      try simp
      refine kr _ (AW.ret ?_)
      simp [Try.f3]
      exact Fin.refl ⟨rfl, rfl⟩
  · refine AW.seq fun _ k2 => AW.region [] Θ_ok ?_
    simp
    have h2 : lightB g [l] = false ∨ lightB g [l] = true ∧ ¬ mayE g = 0 := by
      cases e : lightB g [l]
      · exact .inl rfl
      · exact .inr ⟨rfl, fun q => h1 ⟨e, q⟩⟩
    rcases h2 with h2 | ⟨h2, h3⟩
    · refine (l11_light g hf [l] (by simp)).use (by simp [G.av]) ?_
      try simp [h2]
      refine k2 _ ?_
      refine AW.cond true (by simp [Int.natCast_inj]) (fun _ => ?_) (fun h => by cases h)
      refine AW.seq fun _ kr => AW.region [] Θ_ok ?_
      simp
      refine (l11_awake).use (by simp [G.av]) ?_
      try simp
      refine kr _ (AW.ret ?_)
      simp [Try.f3]
      exact Fin.refl ⟨rfl, rfl⟩
    · refine (l11_light g hf [l] (by simp)).use (by simp [G.av]) ?_
      try simp [h2]
      refine (r9_May g hf).use (by simp [G.av]) ?_
      try simp [h3]
      refine k2 _ ?_
      refine AW.cond true (by simp [Int.natCast_inj, h3]) (fun _ => ?_) (fun h => by cases h)
      refine AW.seq fun _ kr => AW.region [] Θ_ok ?_
      simp
      refine (l11_awake).use (by simp [G.av]) ?_
      try simp
      refine kr _ (AW.ret ?_)
      simp [Try.f3]
      exact Fin.refl ⟨rfl, rfl⟩
end Go.Par
