import Derived.Test.YtihlpchiomkinaaSpK
import Derived.Test.YtihlpchiomkinaaPhA
import Derived.Test.YtihlpchiomkinaaSmE
set_option linter.unusedSimpArgs false
set_option linter.unusedVariables false
set_option maxRecDepth 8000
set_option maxHeartbeats 1000000
namespace Go.Par
open Go.Proofs

theorem law_SmallForms (g : G) (hg : g.wide) (P : List Int) (hP : (DK.sl .int).fits P) : Pure Try.prog 7 [g.av, .ro false (ints P)] (.bool true) := by
  have hf := hg.f
  have hPl : P.length ≤ 1152921504606846976 := by
    have : P.length * 8 ≤ reachBytes := hP.1
    unfold reachBytes at this
    omega
  have sH := l15_Heavy g hf P
  have sM := small_Measures g hf P hPl
  have sR := r9_Measures g hf P hPl
  have sW := small_Winners g hf P hPl
  have sV := r9_Winners g hf P hPl
  intro h
  refine AC.body Θ_ok Try.func7 rfl rfl (Nat.le_of_ble_eq_true rfl) ?_
  refine AW.seq fun _ k1 => AW.region [] Θ_ok ?_
  simp
  refine k1 _ ?_
  refine AW.seq fun _ k1 => ?_
  by_cases h1 : 0 < heavy15 g P
  · refine AW.seq fun _ k2 => AW.regionAt 3 [] Θ_ok fun B hB => ?_
    simp
    refine sH.use (by simp [G.av]) ?_
    refine hB _ ?_
    clear hB B
    simp [h1]
    refine k2 _ ?_
    refine AW.cond true (by simp [Int.natCast_inj]) (fun _ => ?_) (fun h => by cases h)
    refine AW.seq fun _ kr => AW.region [] Θ_ok ?_
    simp
    refine (l16_awake).use (by simp [G.av]) ?_
    try simp
    refine kr _ (AW.ret ?_)
    simp [Try.f7]
    exact Fin.refl ⟨rfl, rfl⟩
  have h1' := Int.not_lt.1 h1
  by_cases h2 : 30 < g.owner.length
  · have h2' : (30 : Int) < g.owner.length := by omega
    refine AW.seq fun _ k2 => AW.regionAt 3 [] Θ_ok fun B hB => ?_
    simp
    refine sH.use (by simp [G.av]) ?_
    refine hB _ ?_
    clear hB B
    simp [h1, h1', h2, h2']
    refine k2 _ ?_
    refine AW.cond true (by simp [Int.natCast_inj]) (fun _ => ?_) (fun h => by cases h)
    refine AW.seq fun _ kr => AW.region [] Θ_ok ?_
    simp
    refine (l16_awake).use (by simp [G.av]) ?_
    try simp
    refine kr _ (AW.ret ?_)
    simp [Try.f7]
    exact Fin.refl ⟨rfl, rfl⟩
  have h2' : ¬ (30 : Int) < g.owner.length := by omega
  have h2'' : (g.owner.length : Int) ≤ 30 := by omega
  refine AW.seq fun _ k2 => AW.regionAt 3 [] Θ_ok fun B hB => ?_
  simp
  refine sH.use (by simp [G.av]) ?_
  refine hB _ ?_
  clear hB B
  simp [h1, h1', h2, h2', h2'']
  refine k2 _ ?_
  refine AW.cond false (by simp [Int.natCast_inj]) (fun h => by cases h) (fun _ => ?_)
  refine AW.skip ?_
  simp
  refine k1 _ ?_
  by_cases hm : mayP g P = true
  · rw [smA, if_pos hm] at sM
    rw [measRA, if_pos hm] at sR
    rw [smW, if_pos hm] at sW
    rw [winRA, if_pos hm] at sV
    have ok := mayP_mg hm
    have hn := (may_ok ok.m).1
    have lL : (measL g P).length = g.owner.length := meas_len ok
    have sE := r9_SameInts (winM (measL g P)) (winM (measL g P)) (by rw [winM, List.length_map]; omega)
    rw [decide_eq_true rfl] at sE
    obtain ⟨L, hL⟩ : ∃ L, L = measL g P := ⟨_, rfl⟩
    rw [← hL] at sM sR sW sV sE lL
    clear hL
    have lm := mss_len L
    have lA : (L.map numM).length = L.length := by simp
    have lB : (L.map topM).length = L.length := by simp
    have key : ∀ x (hx : x < L.length) (h1 : x < (L.map numM).length) (h2 : x < (L.map topM).length) (h3 : x < (mss L).length), ∃ p q s t, (mss L)[x] = .agg [.int .i64 p, .int .i64 q, .int .i64 s, .bool t] ∧ (L.map numM)[x] = [p, q, s] ∧ (L.map topM)[x] = t ∧ (t = true → p = 0 ∧ q = 0 ∧ s = 0) := by
      intro x hx h1 h2 h3
      have gm := mss_get hx
      simp only [List.getElem_map, gm]
      cases L[x] with
      | none => exact ⟨0, 0, 0, true, rfl, rfl, rfl, fun _ => ⟨rfl, rfl, rfl⟩⟩
      | some t => obtain ⟨a, b, c⟩ := t; exact ⟨a, b, c, false, rfl, rfl, rfl, fun h => by cases h⟩
    generalize L.map numM = A at *
    generalize L.map topM = B at *
    generalize winM L = W at *
    refine AW.seq fun _ k1 => AW.regionAt 3 [] Θ_ok fun B hB => ?_
    simp
    refine sM.use (by simp [G.av]) ?_
    refine hB _ ?_
    clear hB B
    simp
    refine k1 _ ?_
    refine AW.seq fun _ k1 => AW.regionAt 3 [] Θ_ok fun B hB => ?_
    simp
    refine sR.use (by simp [G.av]) ?_
    refine hB _ ?_
    clear hB B
    simp
    refine k1 _ ?_
    refine AW.seq fun _ k1 => ?_
    refine AW.seq fun _ k2 => AW.draw [] 22 [] Θ_ok mixed (by kernel_rfl) (by kernel_rfl) ?_
    refine vcDraw_split 15 fun B hB => ?_
    simp [vcPre, vcTail, callA, isAlloc, isLoad, effOp, obl, obA, mkOK, valA, lm, lA, lB]
    refine hB _ _ _ ?_
    clear hB B
    refine vcPre_split 1 fun B hB => ?_
    simp [vcPre, vcTail, callA, isAlloc, isLoad, effOp, obl, obA, mkOK, valA]
    refine ⟨_, sW.wk (by simp [G.av]), ?_⟩
    refine hB _ _ _ ?_
    clear hB B
    refine vcPre_split 3 fun B hB => ?_
    simp [vcPre, vcTail, callA, isAlloc, isLoad, effOp, obl, obA, mkOK, valA]
    refine ⟨_, sV.wk (by simp [G.av]), ?_⟩
    refine hB _ _ _ ?_
    clear hB B
    refine vcPre_split 1 fun B hB => ?_
    simp [vcPre, vcTail, callA, isAlloc, isLoad, effOp, obl, obA, mkOK, valA]
    refine ⟨_, sE.wk (by simp), ?_⟩
    refine hB _ _ _ ?_
    clear hB B
    simp [vcPre, vcTail, callA, isAlloc, isLoad, effOp, obl, obA, mkOK, valA]
    refine k2 _ ?_
    refine AW.cond false (by simp [Int.natCast_inj]) (fun h => by cases h) (fun _ => ?_)
    refine AW.skip ?_
    simp
    refine k1 _ ?_
    refine AW.seq fun _ k1 => ?_
    refine AW.seq fun _ k2 => AW.region [] Θ_ok ?_
    simp [lm]
    refine k2 _ ?_
    refine AW.block ?_
    refine AW.loopI (X := Nat) (fun x => x ≤ L.length) (fun x => ⟨113, [(5, .ro true (rows A)), (6, .ro true (bools B)), (54, .ro true (mss L)), (55, .int .i64 L.length), (56, .int .i64 x)], h⟩) (fun x => L.length - x) 0 (Nat.zero_le _) (GStep.eq (by simp) (subH.refl _)) fun x hx => ?_
    refine AW.seq fun _ k2 => AW.region [] Θ_ok ?_
    simp
    refine k2 _ ?_
    by_cases hlt : x < L.length
    · have inc := wrap_succ (show x < 9223372036854775807 by omega)
      have hltA : x < A.length := by omega
      have hltB : x < B.length := by omega
      have hltm : x < (mss L).length := by omega
      obtain ⟨p, q, s, t, e1, e2, e3, e4⟩ := key x hlt hltA hltB hltm
      refine AW.seq fun _ k2 => AW.cond true (by simp [Int.natCast_inj, hlt]) (fun _ => ?_) (fun h => by cases h)
      refine AW.skip ?_
      simp
      refine k2 _ ?_
      refine AW.seq fun _ k2 => ?_
      refine AW.block ?_
      refine AW.seq fun _ k3 => AW.region [9] Θ_ok ?_
      simp [newA, hlt, lm, hltm, e1, agg_flat, setAt]
      refine fun c hc => k3 _ ?_
      refine AW.box 9 rfl (upd_same _ _ _) ?_
      simp only [updN _ hc]
      clear hc key
      refine AW.seq fun _ k3 => ?_
      refine AW.seq fun _ k4 => AW.draw [] 15 [] Θ_ok mixed (by kernel_rfl) (by kernel_rfl) ?_
      simp [vcDraw, vcPre, vcTail, callA, isAlloc, isLoad, effOp, obl, obA, mkOK, valA, hltA, hltB, e2, e3]
      refine k4 _ ?_
      refine AW.cond false (by simp [Int.natCast_inj]) (fun h => by cases h) (fun _ => ?_)
      refine AW.skip ?_
      simp
      refine k3 _ ?_
      refine AW.seq fun _ k3 => AW.region [] Θ_ok ?_
      simp
      refine k3 _ ?_
      refine AW.block ?_
      refine AW.loopI (X := Nat) (fun i => i ≤ 3) (fun i => ⟨113, [(5, .ro true (rows A)), (6, .ro true (bools B)), (8, .int .i64 x), (9, .rop [.int .i64 p, .int .i64 q, .int .i64 s, .bool t]), (54, .ro true (mss L)), (55, .int .i64 L.length), (56, .int .i64 x), (77, .agg [.int .i64 p, .int .i64 q, .int .i64 s]), (78, .int .i64 i)], h⟩) (fun i => 3 - i) 0 (Nat.zero_le _) (GStep.eq (by simp) (subH.refl _)) fun i hi => ?_
      refine AW.seq fun _ k3 => AW.region [] Θ_ok ?_
      simp
      refine k3 _ ?_
      by_cases hi3 : i < 3
      · have hi3' : (i : Int) < 3 := by omega
        have inc2 := wrap_succ (show i < 9223372036854775807 by omega)
        refine AW.seq fun _ k3 => AW.cond true (by simp [Int.natCast_inj, hi3']) (fun _ => ?_) (fun h => by cases h)
        refine AW.skip ?_
        simp
        refine k3 _ ?_
        refine AW.seq fun _ k3 => ?_
        refine AW.block ?_
        obtain ⟨y, d, e5, e6⟩ : ∃ y, List.drop i [AV.int IntKind.i64 p, AV.int IntKind.i64 q, AV.int IntKind.i64 s] = .int .i64 y :: List.drop (i + 1) [AV.int IntKind.i64 p, AV.int IntKind.i64 q, AV.int IntKind.i64 s] ∧ (∀ (h : i < A[x].length), A[x][i] = y) ∧ (t = true → y = 0) := by
          simp only [e2]
          have : i = 0 ∨ i = 1 ∨ i = 2 := by omega
          rcases this with rfl | rfl | rfl
          · exact ⟨p, rfl, fun _ => rfl, fun h => (e4 h).1⟩
          · exact ⟨q, rfl, fun _ => rfl, fun h => (e4 h).2.1⟩
          · exact ⟨s, rfl, fun _ => rfl, fun h => (e4 h).2.2⟩
        have le : A[x].length = 3 := by rw [e2]; rfl
        refine AW.seq fun _ k4 => AW.region [] Θ_ok ?_
        simp [hi3', d]
        refine k4 _ ?_
        cases t with
        | true =>
          have y0 := e6 rfl
          subst y0
          refine AW.seq fun _ k4 => AW.region [] Θ_ok ?_
          simp [hltA, le, e5, hi3, hi3']
          refine k4 _ ?_
          refine AW.cond false (by simp [Int.natCast_inj]) (fun h => by cases h) (fun _ => ?_)
          refine AW.skip ?_
          simp
          refine k3 _ ?_
          refine AW.region [] Θ_ok ?_
          simp
          exact ⟨i + 1, by omega, by omega, GStep.eq (by simp [inc2]) (subH.refl _)⟩
        | false =>
          refine AW.seq fun _ k4 => AW.region [] Θ_ok ?_
          simp [hltA, le, e5, hi3, hi3']
          refine k4 _ ?_
          refine AW.cond false (by simp [Int.natCast_inj]) (fun h => by cases h) (fun _ => ?_)
          refine AW.skip ?_
          simp
          refine k3 _ ?_
          refine AW.region [] Θ_ok ?_
          simp
          exact ⟨i + 1, by omega, by omega, GStep.eq (by simp [inc2]) (subH.refl _)⟩
      have hii : i = 3 := by omega
      subst hii
      refine AW.seq fun _ k3 => AW.cond false (by simp [Int.natCast_inj]) (fun h => by cases h) (fun _ => ?_)
      refine AW.exit ?_
      simp
      refine k2 _ ?_
      refine AW.region [] Θ_ok ?_
      simp
      exact ⟨x + 1, by omega, by omega, GStep.eq (by simp [inc]) (subH.refl _)⟩
    have hxx : x = L.length := by omega
    subst hxx
    refine AW.seq fun _ k2 => AW.cond false (by simp [Int.natCast_inj]) (fun h => by cases h) (fun _ => ?_)
    refine AW.exit ?_
    simp
    refine k1 _ ?_
    refine AW.seq fun _ kr => AW.region [] Θ_ok ?_
    simp
    refine (l16_awake).use (by simp [G.av]) ?_
    try simp
    refine kr _ (AW.ret ?_)
    simp [Try.f7]
    exact Fin.refl ⟨rfl, rfl⟩
  · rw [smA, if_neg hm] at sM
    rw [measRA, if_neg hm] at sR
    rw [smW, if_neg hm] at sW
    rw [winRA, if_neg hm] at sV
    have sE := r9_SameInts [] [] (by simp)
    rw [decide_eq_true rfl] at sE
    refine AW.seq fun _ k1 => AW.regionAt 3 [] Θ_ok fun B hB => ?_
    simp
    refine sM.use (by simp [G.av]) ?_
    refine hB _ ?_
    clear hB B
    simp
    refine k1 _ ?_
    refine AW.seq fun _ k1 => AW.regionAt 3 [] Θ_ok fun B hB => ?_
    simp
    refine sR.use (by simp [G.av]) ?_
    refine hB _ ?_
    clear hB B
    simp
    refine k1 _ ?_
    refine AW.seq fun _ k1 => ?_
    refine AW.seq fun _ k2 => AW.draw [] 22 [] Θ_ok mixed (by kernel_rfl) (by kernel_rfl) ?_
    refine vcDraw_split 15 fun B hB => ?_
    simp [vcPre, vcTail, callA, isAlloc, isLoad, effOp, obl, obA, mkOK, valA]
    refine hB _ _ _ ?_
    clear hB B
    refine vcPre_split 1 fun B hB => ?_
    simp [vcPre, vcTail, callA, isAlloc, isLoad, effOp, obl, obA, mkOK, valA]
    refine ⟨_, sW.wk (by simp [G.av]), ?_⟩
    refine hB _ _ _ ?_
    clear hB B
    refine vcPre_split 3 fun B hB => ?_
    simp [vcPre, vcTail, callA, isAlloc, isLoad, effOp, obl, obA, mkOK, valA]
    refine ⟨_, sV.wk (by simp [G.av]), ?_⟩
    refine hB _ _ _ ?_
    clear hB B
    refine vcPre_split 1 fun B hB => ?_
    simp [vcPre, vcTail, callA, isAlloc, isLoad, effOp, obl, obA, mkOK, valA]
    refine ⟨_, sE.wk (by simp), ?_⟩
    refine hB _ _ _ ?_
    clear hB B
    simp [vcPre, vcTail, callA, isAlloc, isLoad, effOp, obl, obA, mkOK, valA]
    refine k2 _ ?_
    refine AW.cond false (by simp [Int.natCast_inj]) (fun h => by cases h) (fun _ => ?_)
    refine AW.skip ?_
    simp
    refine k1 _ ?_
    refine AW.seq fun _ k1 => ?_
    refine AW.seq fun _ k2 => AW.region [] Θ_ok ?_
    simp
    refine k2 _ ?_
    refine AW.block ?_
    refine AW.loopI (X := Nat) (fun x => x = 0) (fun x => ⟨113, [(55, .int .i64 0), (56, .int .i64 0)], h⟩) (fun x => 0) 0 rfl (GStep.eq (by simp) (subH.refl _)) fun x hx => ?_
    refine AW.seq fun _ k2 => AW.region [] Θ_ok ?_
    simp
    refine k2 _ ?_
    refine AW.seq fun _ k2 => AW.cond false (by simp [Int.natCast_inj]) (fun h => by cases h) (fun _ => ?_)
    refine AW.exit ?_
    simp
    refine k1 _ ?_
    refine AW.seq fun _ kr => AW.region [] Θ_ok ?_
    simp
    refine (l16_awake).use (by simp [G.av]) ?_
    try simp
    refine kr _ (AW.ret ?_)
    simp [Try.f7]
    exact Fin.refl ⟨rfl, rfl⟩
end Go.Par
