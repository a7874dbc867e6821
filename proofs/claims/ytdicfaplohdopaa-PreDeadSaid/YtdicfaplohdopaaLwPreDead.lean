import Derived.Test.YtdicfaplohdopaaFnE
set_option linter.unusedSimpArgs false
set_option maxRecDepth 8000
namespace Go.Par
open Go.Proofs

theorem forceA_ok {g : G} {who : Int} {in_ : List Bool} (hm : mayE g = 0) (hw : who = 0 ∨ who = 1) : forceA g who in_ = .ro true (bools (forceL g who in_)) := if_pos ⟨hm, hw⟩

theorem dead {g : G} (in_ : List Bool) {who : Int} {v : Nat} (hv : v < g.owner.length) (hv' : v < g.next.length) (h0 : g.next[v] = []) : forceP g who in_ v = !decide (g.owner[v] = who) := by
  unfold forceP
  simp only [List.getD_eq_getElem?_getD, List.getElem?_eq_getElem hv, List.getElem?_eq_getElem hv', Option.getD_some, h0]
  by_cases e : g.owner[v] = who <;> simp [e]

theorem alive {g : G} (hm : mayE g = 0) {who : Int} {v : Nat} (hv : v < g.owner.length) (hv' : v < g.next.length) (h0 : g.next[v] ≠ []) : forceP g who (notL g []) v = true := by
  obtain ⟨_, hr⟩ := may_row hm hv hv'
  have hq : ∀ w ∈ g.next[v], hasI (notL g []) w = true := by
    intro w hw
    obtain ⟨h0, h1⟩ := hr w hw
    rw [notL, hasI_tab h0 h1]
    rfl
  unfold forceP
  simp only [List.getD_eq_getElem?_getD, List.getElem?_eq_getElem hv, List.getElem?_eq_getElem hv', Option.getD_some]
  split
  · rw [List.any_eq_true]
    obtain ⟨w, hw⟩ := List.exists_mem_of_ne_nil _ h0
    exact ⟨w, hw, hq w hw⟩
  · rw [List.all_eq_true]; exact hq

theorem law_PreDead (g : G) (hg : g.wide) (p : Int) (_ : DK.fits .int p) (l : List Bool) (_ : (DK.sl .bool).fits l) : Pure Try.prog 4 [g.av, .int .i64 p, .ro false (bools l)] (.bool true) := by
  have hf := hg.f
  intro h
  refine AC.body Θ_ok Try.func4 rfl rfl (Nat.le_of_ble_eq_true rfl) ?_
  refine AW.seq fun _ k1 => AW.region [] Θ_ok ?_
  simp
  refine k1 _ ?_
  refine AW.seq fun _ k1 => ?_
  by_cases h1 : lightB g [l] = true ∧ mayE g = 0
  · obtain ⟨h1, hm⟩ := h1
    refine AW.seq fun _ k2 => AW.region [] Θ_ok ?_
    simp
    refine (l11_light g hf [l] (by simp)).use (by simp [G.av]) ?_
    try simp [h1]
    refine (r9_May g hf).use (by simp [G.av]) ?_
    try simp [hm]
    refine k2 _ ?_
    refine AW.cond false (by simp [Int.natCast_inj]) (fun h => by cases h) (fun _ => ?_)
    refine AW.skip ?_
    simp
    refine k1 _ ?_
    refine AW.seq fun _ k1 => AW.region [] Θ_ok ?_
    simp
    refine k1 _ ?_
    have hw := who2_cases p
    change AW _ _ _ ⟨_, (1, .int .i64 (who2 p)) :: _, _⟩
    generalize who2 p = W at hw
    have eA : (forceL g W l).length = g.owner.length := length_tab _ _
    have eB : (forceL g W (notL g [])).length = g.owner.length := length_tab _ _
    have hn := (may_ok hm).2.1
    have hDead : ∀ v (h : v < (forceL g W l).length) (h' : v < (forceL g W (notL g [])).length) (hv : v < g.owner.length) (hv' : v < g.next.length), g.next[v] = [] → (forceL g W l)[v] = !decide (g.owner[v] = W) ∧ (forceL g W (notL g []))[v] = !decide (g.owner[v] = W) := by
      intro v h h' hv hv' h0
      simp only [forceL, getElem_tab]
      exact ⟨dead l hv hv' h0, dead _ hv hv' h0⟩
    have hLive : ∀ v (h' : v < (forceL g W (notL g [])).length) (hv : v < g.owner.length) (hv' : v < g.next.length), g.next[v] ≠ [] → (forceL g W (notL g []))[v] = true := by
      intro v h' hv hv' h0
      simp only [forceL, getElem_tab]
      exact alive hm hv hv' h0
    have fA := pre_Force g hf W l
    have fB := pre_Force g hf W (notL g [])
    rw [forceA_ok hm hw] at fA
    rw [forceA_ok hm hw] at fB
    generalize forceL g W l = A at eA fA hDead
    generalize forceL g W (notL g []) = B at eB fB hDead hLive
    refine AW.seq fun _ k1 => AW.draw [] 11 [] Θ_ok mixed (by kernel_rfl) (by kernel_rfl) ?_
    simp [vcDraw, vcPre, vcAllocs, vcTail, callA, isAlloc, isLoad, effOp, obl, obA]
    refine ⟨_, fA.wk (by simp [G.av]), ?_⟩
    try simp
    refine ⟨_, (pre_Not g [] hf.owner).wk (by simp [G.av]), ?_⟩
    try simp
    refine ⟨_, fB.wk (by simp [G.av]), ?_⟩
    try simp
    refine k1 _ ?_
    refine AW.seq fun _ k1 => ?_
    refine AW.seq fun _ k2 => AW.region [] Θ_ok ?_
    simp [eA, eB]
    refine k2 _ ?_
    refine AW.cond false (by simp [Int.natCast_inj]) (fun h => by cases h) (fun _ => ?_)
    refine AW.skip ?_
    simp
    refine k1 _ ?_
    refine AW.seq fun _ k1 => ?_
    refine AW.seq fun _ k2 => AW.region [] Θ_ok ?_
    simp
    refine k2 _ ?_
    refine AW.block ?_
    refine AW.loopI (X := Nat) (fun x => x ≤ A.length) (fun x => ⟨102, [(49, .int .i64 x), (48, .int .i64 A.length), (7, .ro true (bools A)), (8, .ro true (bools B)), (1, .int .i64 W), (3, .rop [.ro false (ints g.owner), .ro false (rows g.next)])], h⟩) (fun x => A.length - x) 0 (Nat.zero_le _) (GStep.eq (by simp [eA]) (subH.refl _)) fun x hx => ?_
    refine AW.seq fun _ k2 => AW.region [] Θ_ok ?_
    simp
    refine k2 _ ?_
    have hb := hf.owner
    by_cases hlt : x < A.length
    · have hlt' : x < B.length := by omega
      have hv : x < g.owner.length := by omega
      have hv' : x < g.next.length := by omega
      refine AW.seq fun _ k2 => AW.cond true (by simp [Int.natCast_inj, hlt]) (fun _ => ?_) (fun h => by cases h)
      refine AW.skip ?_
      simp
      refine k2 _ ?_
      refine AW.seq fun _ k2 => ?_
      refine AW.block ?_
      refine AW.seq fun _ k3 => AW.region [] Θ_ok ?_
      simp
      refine k3 _ ?_
      by_cases h0 : g.next[x] = []
      · obtain ⟨q1, q2⟩ := hDead x hlt hlt' hv hv' h0
        have hl0 : g.next[x].length = 0 := by rw [h0]; rfl
        have q3 : B[x] = A[x] := q2.trans q1.symm
        have q4 : (g.owner[x] != W) = A[x] := by rw [q1]; by_cases ho : g.owner[x] = W <;> simp [ho]
        clear q1 q2
        refine AW.seq fun _ k3 => AW.draw [] 48 [] Θ_ok mixed (by kernel_rfl) (by kernel_rfl) ?_
        simp [vcDraw, vcPre, vcAllocs, vcTail, callA, isAlloc, isLoad, effOp, obl, obA, hlt, hlt', hv, hv', hl0, q3, q4]
        refine k3 _ ?_
        refine AW.cond false (by simp [Int.natCast_inj]) (fun h => by cases h) (fun _ => ?_)
        refine AW.skip ?_
        simp
        refine k2 _ ?_
        refine AW.region [] Θ_ok ?_
        simp
        refine ⟨x + 1, by omega, by omega, GStep.eq ?_ (subH.refl _)⟩
        simp [wrap_succ (show x < 9223372036854775807 by omega)]
      · have q := hLive x hlt' hv hv' h0
        have hp : 0 < g.next[x].length := Nat.pos_of_ne_zero fun e => h0 (List.eq_nil_of_length_eq_zero e)
        refine AW.seq fun _ k3 => AW.draw [] 48 [] Θ_ok mixed (by kernel_rfl) (by kernel_rfl) ?_
        simp [vcDraw, vcPre, vcAllocs, vcTail, callA, isAlloc, isLoad, effOp, obl, obA, hlt, hlt', hv, hv', h0, q, hp]
        refine k3 _ ?_
        refine AW.cond false (by simp [Int.natCast_inj]) (fun h => by cases h) (fun _ => ?_)
        refine AW.skip ?_
        simp
        refine k2 _ ?_
        refine AW.region [] Θ_ok ?_
        simp
        refine ⟨x + 1, by omega, by omega, GStep.eq ?_ (subH.refl _)⟩
        simp [wrap_succ (show x < 9223372036854775807 by omega)]
    · obtain rfl : x = A.length := by omega
      refine AW.seq fun _ k2 => AW.cond false (by simp [Int.natCast_inj]) (fun h => by cases h) (fun _ => ?_)
      refine AW.exit ?_
      simp
      refine k1 _ ?_
      refine AW.seq fun _ kr => AW.region [] Θ_ok ?_
      simp
      refine (l11_awake).use (by simp [G.av]) ?_
      try simp
      refine kr _ (AW.ret ?_)
      simp [Try.f4]
      exact Fin.refl ⟨rfl, rfl⟩
  · refine AW.seq fun _ k2 => AW.region [] Θ_ok ?_
    simp
    have h2 : lightB g [l] = false ∨ lightB g [l] = true ∧ ¬ mayE g = 0 := by
      cases e : lightB g [l]
      · exact .inl rfl
      · exact .inr ⟨rfl, fun q => h1 ⟨e, q⟩⟩
    rcases h2 with h2 | ⟨h2, h3⟩
    · refine (l11_light g hf [l] (by simp)).use (by simp [G.av]) ?_
      try simp [h2]
      refine k2 _ ?_
      refine AW.cond true (by simp [Int.natCast_inj]) (fun _ => ?_) (fun h => by cases h)
      refine AW.seq fun _ kr => AW.region [] Θ_ok ?_
      simp
      refine (l11_awake).use (by simp [G.av]) ?_
      try simp
      refine kr _ (AW.ret ?_)
      simp [Try.f4]
      exact Fin.refl ⟨rfl, rfl⟩
    · refine (l11_light g hf [l] (by simp)).use (by simp [G.av]) ?_
      try simp [h2]
      refine (r9_May g hf).use (by simp [G.av]) ?_
      try simp [h3]
      refine k2 _ ?_
      refine AW.cond true (by simp [Int.natCast_inj, h3]) (fun _ => ?_) (fun h => by cases h)
      refine AW.seq fun _ kr => AW.region [] Θ_ok ?_
      simp
      refine (l11_awake).use (by simp [G.av]) ?_
      try simp
      refine kr _ (AW.ret ?_)
      simp [Try.f4]
      exact Fin.refl ⟨rfl, rfl⟩
end Go.Par
