import Derived.Test.YtihlpchiomkinaaSpL
import Derived.Test.YtihlpchiomkinaaPhA
set_option linter.unusedSimpArgs false
set_option linter.unusedVariables false
set_option maxRecDepth 8000
set_option maxHeartbeats 2000000
namespace Go.Par
open Go.Proofs

def anyT (l : List Int) (f : Int → Bool) (j : Nat) : Bool := (l.take j).any f
def allT (l : List Int) (f : Int → Bool) (j : Nat) : Bool := (l.take j).all f
theorem anyT_zero (l : List Int) (f : Int → Bool) : anyT l f 0 = false := rfl
theorem allT_zero (l : List Int) (f : Int → Bool) : allT l f 0 = true := rfl
theorem anyT_full (l : List Int) (f : Int → Bool) : anyT l f l.length = l.any f := by rw [anyT, List.take_length]
theorem allT_full (l : List Int) (f : Int → Bool) : allT l f l.length = l.all f := by rw [allT, List.take_length]
theorem any_take {l : List Int} {f : Int → Bool} {j : Nat} (h : j < l.length) : anyT l f (j + 1) = (anyT l f j || f l[j]) := by
  rw [anyT, List.take_add_one, List.getElem?_eq_getElem h, List.any_append]; simp [anyT]
theorem all_take {l : List Int} {f : Int → Bool} {j : Nat} (h : j < l.length) : allT l f (j + 1) = (allT l f j && f l[j]) := by
  rw [allT, List.take_add_one, List.getElem?_eq_getElem h, List.all_append]; simp [allT]

theorem law_SmallFalls (g : G) (hg : g.wide) (P : List Int) (hP : (DK.sl .int).fits P) : Pure Try.prog 8 [g.av, .ro false (ints P)] (.bool true) := by
  have hf := hg.f
  have hPl : P.length ≤ 1152921504606846976 := by
    have : P.length * 8 ≤ reachBytes := hP.1
    unfold reachBytes at this
    omega
  have sH := l15_Heavy g hf P
  have sY := r9_MayPrio g hf P hPl
  have sM := small_Measures g hf P hPl
  intro h
  refine AC.body Θ_ok Try.func8 rfl rfl (Nat.le_of_ble_eq_true rfl) ?_
  refine AW.seq fun _ k1 => AW.region [] Θ_ok ?_
  simp
  refine k1 _ ?_
  refine AW.seq fun _ k1 => ?_
  by_cases h1 : 0 < heavy15 g P
  · refine AW.seq fun _ k2 => AW.regionAt 3 [] Θ_ok fun B hB => ?_
    simp
    refine sH.use (by simp [G.av]) ?_
    refine hB _ ?_
    clear hB B
    simp [h1]
    refine k2 _ ?_
    refine AW.cond true (by simp [Int.natCast_inj]) (fun _ => ?_) (fun h => by cases h)
    refine AW.seq fun _ kr => AW.region [] Θ_ok ?_
    simp
    refine (l16_awake).use (by simp [G.av]) ?_
    try simp
    refine kr _ (AW.ret ?_)
    simp [Try.f8]
    exact Fin.refl ⟨rfl, rfl⟩
  have h1' := Int.not_lt.1 h1
  by_cases hm : mayP g P = true
  · rw [smA, if_pos hm] at sM
    rw [hm] at sY
    have ok := mayP_mg hm
    have hn := (may_ok ok.m).1
    have hn2 := (may_ok ok.m).2.1
    have lP := ok.len
    have hX := meas_least ok
    have lL : (measL g P).length = g.owner.length := meas_len ok
    obtain ⟨L, hL⟩ : ∃ L, L = measL g P := ⟨_, rfl⟩
    rw [← hL] at sM lL hX
    clear hL
    have lA : (L.map numM).length = L.length := by simp
    have lB : (L.map topM).length = L.length := by simp
    have key : ∀ x (hx : x < L.length) (h1 : x < (L.map numM).length) (h2 : x < (L.map topM).length), (L.map numM)[x].length = 3 ∧ ((xM L x = none ∧ (L.map topM)[x] = true) ∨ ∃ t, xM L x = some t ∧ (L.map numM)[x] = triI t ∧ (L.map topM)[x] = false) := by
      intro x hx h1 h2
      have e : xM L x = L[x] := by simp [xM, hx]
      simp only [List.getElem_map, e]
      cases L[x] with
      | none => exact ⟨rfl, .inl ⟨rfl, rfl⟩⟩
      | some t => obtain ⟨a, b, c⟩ := t; exact ⟨rfl, .inr ⟨(a, b, c), rfl, rfl, rfl⟩⟩
    generalize L.map numM = A at *
    generalize L.map topM = B at *
    refine AW.seq fun _ k2 => AW.regionAt 3 [] Θ_ok fun B hB => ?_
    simp
    refine sH.use (by simp [G.av]) ?_
    refine hB _ ?_
    clear hB B
    refine vcOps_split 5 fun B hB => ?_
    simp [h1, h1']
    refine sY.use (by simp [G.av]) ?_
    refine hB _ ?_
    clear hB B
    simp
    refine k2 _ ?_
    refine AW.cond false (by simp [Int.natCast_inj]) (fun h => by cases h) (fun _ => ?_)
    refine AW.skip ?_
    simp
    refine k1 _ ?_
    refine AW.seq fun _ k1 => AW.regionAt 3 [] Θ_ok fun B hB => ?_
    simp
    refine sM.use (by simp [G.av]) ?_
    refine hB _ ?_
    clear hB B
    simp
    refine k1 _ ?_
    refine AW.seq fun _ k1 => ?_
    refine AW.seq fun _ k2 => AW.region [] Θ_ok ?_
    simp [lA, lB, lL, lP]
    refine k2 _ ?_
    refine AW.cond false (by simp [Int.natCast_inj]) (fun h => by cases h) (fun _ => ?_)
    refine AW.skip ?_
    simp
    refine k1 _ ?_
    refine AW.seq fun _ k1 => ?_
    refine AW.seq fun _ k2 => AW.region [] Θ_ok ?_
    simp [lA]
    refine k2 _ ?_
    refine AW.block ?_
    refine AW.loopI (X := Nat) (fun x => x ≤ L.length) (fun x => ⟨136, [(1, .ro false (ints P)), (2, .rop [.ro false (ints g.owner), .ro false (rows g.next)]), (5, .ro true (rows A)), (6, .ro true (bools B)), (44, .int .i64 L.length), (45, .int .i64 x)], h⟩) (fun x => L.length - x) 0 (Nat.zero_le _) (GStep.eq (by simp) (subH.refl _)) fun x hx => ?_
    refine AW.seq fun _ k2 => AW.region [] Θ_ok ?_
    simp
    refine k2 _ ?_
    by_cases hlt : x < L.length
    · have inc := wrap_succ (show x < 9223372036854775807 by omega)
      have hltA : x < A.length := by omega
      have l3 := (key x hlt hltA (by omega)).1
      refine AW.seq fun _ k2 => AW.cond true (by simp [Int.natCast_inj, hlt]) (fun _ => ?_) (fun h => by cases h)
      refine AW.skip ?_
      simp
      refine k2 _ ?_
      refine AW.seq fun _ k2 => ?_
      refine AW.block ?_
      refine AW.seq fun _ k3 => AW.region [] Θ_ok ?_
      simp
      refine k3 _ ?_
      refine AW.seq fun _ k3 => AW.region [] Θ_ok ?_
      simp [hltA, l3]
      refine k3 _ ?_
      refine AW.cond false (by simp [Int.natCast_inj]) (fun h => by cases h) (fun _ => ?_)
      refine AW.skip ?_
      simp
      refine k2 _ ?_
      refine AW.region [] Θ_ok ?_
      simp
      exact ⟨x + 1, by omega, by omega, GStep.eq (by simp [inc]) (subH.refl _)⟩
    have hxx : x = L.length := by omega
    subst hxx
    refine AW.seq fun _ k2 => AW.cond false (by simp [Int.natCast_inj]) (fun h => by cases h) (fun _ => ?_)
    refine AW.exit ?_
    simp
    refine k1 _ ?_
    clear hx hlt
    refine AW.seq fun _ k1 => ?_
    refine AW.seq fun _ k2 => AW.region [] Θ_ok ?_
    simp [lA]
    refine k2 _ ?_
    refine AW.block ?_
    refine AW.loopI (X := Nat) (fun x => x ≤ L.length) (fun x => ⟨136, [(1, .ro false (ints P)), (2, .rop [.ro false (ints g.owner), .ro false (rows g.next)]), (5, .ro true (rows A)), (6, .ro true (bools B)), (56, .int .i64 L.length), (57, .int .i64 x)], h⟩) (fun x => L.length - x) 0 (Nat.zero_le _) (GStep.eq (by simp) (subH.refl _)) fun v hv0 => ?_
    refine AW.seq fun _ k2 => AW.region [] Θ_ok ?_
    simp
    refine k2 _ ?_
    by_cases hlt : v < L.length
    · have inc := wrap_succ (show v < 9223372036854775807 by omega)
      have hltA : v < A.length := by omega
      have hltB : v < B.length := by omega
      have hv : v < g.owner.length := by omega
      have hvn : v < g.next.length := by omega
      have hvP : v < P.length := by omega
      obtain ⟨l3, hkv⟩ := key v hlt hltA hltB
      have fs := falls_sys ok hX hv
      have fe := falls_env ok hX hv
      have eo : ow g v = g.owner[v] := by simp [ow, hv]
      have en : nx g v = g.next[v] := by simp [nx, hvn]
      have oo := ow_ok ok.m hv
      have nxk := (nx_ok ok.m hv).2
      have hrow := hf.row _ (List.getElem_mem hvn)
      have p0 := ok.lo v hv
      have p5 := ok.hi v hv
      have ep : P.getD v 0 = P[v] := by simp [hvP]
      rw [ep] at p0 p5
      obtain ⟨p, hp⟩ : ∃ p : Nat, P[v] = p := ⟨P[v].toNat, by omega⟩
      have hp5 : p ≤ 5 := by omega
      have epp : prP P v = p := by rw [prP, ep, hp]; omega
      rw [eo] at oo fs fe
      rw [en] at fs fe nxk
      have hfP : ∀ w : Int, fallP L P v w = match xM L v, xM L w.toNat with
        | none, _ => true
        | some _, none => false
        | some t, some u => fallsM t u p := fun w => by rw [← epp]; rfl
      refine AW.seq fun _ k2 => AW.cond true (by simp [Int.natCast_inj, hlt]) (fun _ => ?_) (fun h => by cases h)
      refine AW.skip ?_
      simp
      refine k2 _ ?_
      refine AW.seq fun _ k2 => ?_
      refine AW.block ?_
      refine AW.seq fun _ k3 => AW.region [] Θ_ok ?_
      simp
      refine k3 _ ?_
      refine AW.seq fun _ k3 => AW.region [] Θ_ok ?_
      simp
      refine k3 _ ?_
      refine AW.seq fun _ k3 => ?_
      refine AW.seq fun _ k4 => AW.region [] Θ_ok ?_
      simp [hvn]
      refine k4 _ ?_
      refine AW.block ?_
      refine AW.loopI (X := Nat) (fun j => j ≤ (g.next[v]).length) (fun j => ⟨136, [(1, .ro false (ints P)), (2, .rop [.ro false (ints g.owner), .ro false (rows g.next)]), (5, .ro true (rows A)), (6, .ro true (bools B)), (8, .int .i64 v), (9, .bool (anyT g.next[v] (fallP L P v) j)), (10, .bool (allT g.next[v] (fallP L P v) j)), (56, .int .i64 L.length), (57, .int .i64 v), (64, .ro false (ints g.next[v])), (65, .int .i64 (g.next[v]).length), (66, .int .i64 j)], h⟩) (fun j => (g.next[v]).length - j) 0 (Nat.zero_le _) (GStep.eq (by simp [anyT_zero, allT_zero]) (subH.refl _)) fun j hj => ?_
      refine AW.seq fun _ k4 => AW.region [] Θ_ok ?_
      simp
      refine k4 _ ?_
      by_cases hlj : j < (g.next[v]).length
      · have incj := wrap_succ (show j < 9223372036854775807 by omega)
        have at1 := any_take (f := fallP L P v) hlj
        have at2 := all_take (f := fallP L P v) hlj
        have hwm := nxk (g.next[v])[j] (List.getElem_mem _)
        have hfw := hfP (g.next[v])[j]
        obtain ⟨u, hu⟩ : ∃ u : Nat, (g.next[v])[j] = u := ⟨(g.next[v])[j].toNat, by omega⟩
        rw [hu] at hwm hfw at1 at2
        have hun : u < L.length := by omega
        have huA : u < A.length := by omega
        have huB : u < B.length := by omega
        obtain ⟨_, hku⟩ := key u hun huA huB
        rw [show ((u : Nat) : Int).toNat = u by omega] at hfw
        refine AW.seq fun _ k4 => AW.cond true (by simp [Int.natCast_inj, hlj]) (fun _ => ?_) (fun h => by cases h)
        refine AW.skip ?_
        simp
        refine k4 _ ?_
        refine AW.seq fun _ k4 => ?_
        refine AW.block ?_
        refine AW.seq fun _ k5 => AW.region [] Θ_ok ?_
        simp [hlj]
        refine k5 _ ?_
        generalize anyT g.next[v] (fallP L P v) j = a at *
        generalize allT g.next[v] (fallP L P v) j = b at *
        generalize fallP L P v (u : Int) = c at *
        refine AW.seqTo ⟨136, [(1, .ro false (ints P)), (2, .rop [.ro false (ints g.owner), .ro false (rows g.next)]), (5, .ro true (rows A)), (6, .ro true (bools B)), (8, .int .i64 v), (9, .bool a), (10, .bool b), (13, .bool c), (56, .int .i64 L.length), (57, .int .i64 v), (64, .ro false (ints g.next[v])), (65, .int .i64 (g.next[v]).length), (66, .int .i64 j)], h⟩ (fun _ k5 => ?_) ?_
        · rcases hkv with ⟨x1, b1⟩ | ⟨t, x1, a1, b1⟩
          · have hc : c = true := by rw [hfw, x1]
            subst hc
            refine AW.draw [] 27 [] Θ_ok mixed (by kernel_rfl) (by kernel_rfl) ?_
            simp [vcDraw, vcPre, vcTail, callA, isAlloc, isLoad, effOp, obl, obA, mkOK, valA, hltB, b1]
            exact k5 _ (GStep.eq (by simp) (subH.refl _))
          · rcases hku with ⟨x2, d1⟩ | ⟨t', x2, a2', d1⟩
            · have hc : c = false := by rw [hfw, x1, x2]
              subst hc
              refine AW.draw [] 27 [] Θ_ok mixed (by kernel_rfl) (by kernel_rfl) ?_
              simp [vcDraw, vcPre, vcTail, callA, isAlloc, isLoad, effOp, obl, obA, mkOK, valA, hltB, b1, hu, huB, d1]
              exact k5 _ (GStep.eq (by simp) (subH.refl _))
            · have hc : fallsM t t' p = c := by rw [hfw, x1, x2]
              have sF := l16_falls t t' p hp5
              rw [hc] at sF
              refine AW.draw [] 27 [] Θ_ok mixed (by kernel_rfl) (by kernel_rfl) ?_
              refine vcDraw_split 23 fun B hB => ?_
              simp [vcPre, vcTail, callA, isAlloc, isLoad, effOp, obl, obA, mkOK, valA, hltB, b1, hu, huB, d1, hltA, huA, a1, a2', hvP, hp]
              refine hB _ _ _ ?_
              clear hB B
              simp [vcPre, vcTail, callA, isAlloc, isLoad, effOp, obl, obA, mkOK, valA]
              refine ⟨_, sF.wk (by simp), ?_⟩
              try simp
              exact k5 _ (GStep.eq (by simp) (subH.refl _))
        · cases a <;> cases b
          all_goals
            refine AW.region [] Θ_ok ?_
            simp
            refine k4 _ ?_
            refine AW.region [] Θ_ok ?_
            simp
            exact ⟨j + 1, by omega, by omega, GStep.eq (by simp [incj, at1, at2]) (subH.refl _)⟩
      have hjj : j = (g.next[v]).length := by omega
      subst hjj
      refine AW.seq fun _ k4 => AW.cond false (by simp [Int.natCast_inj]) (fun h => by cases h) (fun _ => ?_)
      refine AW.exit ?_
      simp
      refine k3 _ ?_
      rw [anyT_full, allT_full]
      rcases hkv with ⟨x1, b1⟩ | ⟨t, x1, a1, b1⟩
      · generalize (g.next[v]).any (fallP L P v) = a at *
        generalize (g.next[v]).all (fallP L P v) = b at *
        refine AW.seq fun _ k3 => AW.region [] Θ_ok ?_
        simp [hltB, b1]
        refine k3 _ ?_
        refine AW.cond false (by simp [Int.natCast_inj]) (fun h => by cases h) (fun _ => ?_)
        refine AW.skip ?_
        simp
        refine k2 _ ?_
        refine AW.region [] Θ_ok ?_
        simp
        exact ⟨v + 1, by omega, by omega, GStep.eq (by simp [inc]) (subH.refl _)⟩
      · have hne : xM L v ≠ none := by rw [x1]; simp
        rcases oo with o | o
        · have e := fe (by rw [o]; decide) hne
          generalize (g.next[v]).any (fallP L P v) = a at *
          generalize (g.next[v]).all (fallP L P v) = b at *
          subst e
          refine AW.seq fun _ k3 => AW.region [] Θ_ok ?_
          simp [hltB, b1, hv, o]
          refine k3 _ ?_
          refine AW.cond false (by simp [Int.natCast_inj]) (fun h => by cases h) (fun _ => ?_)
          refine AW.skip ?_
          simp
          refine k2 _ ?_
          refine AW.region [] Θ_ok ?_
          simp
          exact ⟨v + 1, by omega, by omega, GStep.eq (by simp [inc]) (subH.refl _)⟩
        · have e := fs o hne
          generalize (g.next[v]).any (fallP L P v) = a at *
          generalize (g.next[v]).all (fallP L P v) = b at *
          subst e
          refine AW.seq fun _ k3 => AW.region [] Θ_ok ?_
          simp [hltB, b1, hv, o]
          refine k3 _ ?_
          refine AW.cond false (by simp [Int.natCast_inj]) (fun h => by cases h) (fun _ => ?_)
          refine AW.skip ?_
          simp
          refine k2 _ ?_
          refine AW.region [] Θ_ok ?_
          simp
          exact ⟨v + 1, by omega, by omega, GStep.eq (by simp [inc]) (subH.refl _)⟩
    have hxx : v = L.length := by omega
    subst hxx
    refine AW.seq fun _ k2 => AW.cond false (by simp [Int.natCast_inj]) (fun h => by cases h) (fun _ => ?_)
    refine AW.exit ?_
    simp
    refine k1 _ ?_
    refine AW.seq fun _ kr => AW.region [] Θ_ok ?_
    simp
    refine (l16_awake).use (by simp [G.av]) ?_
    try simp
    refine kr _ (AW.ret ?_)
    simp [Try.f8]
    exact Fin.refl ⟨rfl, rfl⟩
  · rw [show mayP g P = false by simpa using hm] at sY
    refine AW.seq fun _ k2 => AW.regionAt 3 [] Θ_ok fun B hB => ?_
    simp
    refine sH.use (by simp [G.av]) ?_
    refine hB _ ?_
    clear hB B
    refine vcOps_split 5 fun B hB => ?_
    simp [h1, h1']
    refine sY.use (by simp [G.av]) ?_
    refine hB _ ?_
    clear hB B
    simp
    refine k2 _ ?_
    refine AW.cond true (by simp [Int.natCast_inj]) (fun _ => ?_) (fun h => by cases h)
    refine AW.seq fun _ kr => AW.region [] Θ_ok ?_
    simp
    refine (l16_awake).use (by simp [G.av]) ?_
    try simp
    refine kr _ (AW.ret ?_)
    simp [Try.f8]
    exact Fin.refl ⟨rfl, rfl⟩
end Go.Par
