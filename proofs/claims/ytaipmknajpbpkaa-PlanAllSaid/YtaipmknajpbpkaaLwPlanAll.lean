import Derived.Test.YtaipmknajpbpkaaPnI
import Derived.Test.YtaipmknajpbpkaaCgA
set_option linter.unusedSimpArgs false
set_option linter.unusedVariables false
set_option maxRecDepth 8000
set_option maxHeartbeats 2000000
namespace Go.Par
open Go.Proofs

theorem law_PlanAll (g : G) (hg : g.wide) (la : List (List Bool)) (hA : (DK.sl (.sl .bool)).fits la) (lb : List (List Bool)) (hB : (DK.sl (.sl .bool)).fits lb) : Pure Try.prog 5 [g.av, .ro false (bools2 la), .ro false (bools2 lb)] (.bool true) := by
  have hf := hg.f
  have sH := l18_Heavy g hf la lb (G.wide.rows2 hA) (G.wide.rows2 hB)
  have sS := plan_Steps g hf la lb
  have sG := gr1_Region g hf la lb
  have sM := r9_May g hf
  have im1 : (if (1 : Int) < (lb.length : Int) then (lb.length : Int) else 1) = ((max 1 lb.length : Nat) : Int) := imax1 _
  have im2 : (if 1 < lb.length then (lb.length : Int) else 1) = ((max 1 lb.length : Nat) : Int) := imax1' _
  intro h
  refine AC.body Θ_ok Try.func5 rfl rfl (Nat.le_of_ble_eq_true rfl) ?_
  refine AW.seq fun _ k1 => AW.region [] Θ_ok ?_
  simp
  refine k1 _ ?_
  refine AW.seq fun _ k1 => ?_
  by_cases h1 : 0 < heavy18 g la lb
  · skip
    refine AW.seq fun _ k2 => AW.regionAt 4 [] Θ_ok fun B hB => ?_
    simp
    refine sH.use (by simp [G.av]) ?_
    refine hB _ ?_
    clear hB B
    simp [h1]
    refine k2 _ ?_
    refine AW.cond true (by simp [Int.natCast_inj]) (fun _ => ?_) (fun h => by cases h)
    refine AW.seq fun _ kr => AW.region [] Θ_ok ?_
    simp
    refine (l19_awake).use (by simp [G.av]) ?_
    try simp
    refine kr _ (AW.ret ?_)
    simp [Try.f5]
    exact Fin.refl ⟨rfl, rfl⟩
  have h1' := Int.not_lt.1 h1
  by_cases hm : mayE g = 0
  rotate_left
  · skip
    refine AW.seq fun _ k2 => AW.regionAt 4 [] Θ_ok fun B hB => ?_
    simp
    refine sH.use (by simp [G.av]) ?_
    refine hB _ ?_
    clear hB B
    refine vcOps_split 4 fun B hB => ?_
    simp [h1, h1', hm]
    refine sM.use (by simp [G.av]) ?_
    refine hB _ ?_
    clear hB B
    simp [h1, h1', hm]
    refine k2 _ ?_
    refine AW.cond true (by simp [Int.natCast_inj]) (fun _ => ?_) (fun h => by cases h)
    refine AW.seq fun _ kr => AW.region [] Θ_ok ?_
    simp
    refine (l19_awake).use (by simp [G.av]) ?_
    try simp
    refine kr _ (AW.ret ?_)
    simp [Try.f5]
    exact Fin.refl ⟨rfl, rfl⟩
  rw [hm] at sM
  by_cases a4 : 4 < la.length
  · have a4' : (4 : Int) < (la.length : Int) := by omega
    refine AW.seq fun _ k2 => AW.regionAt 4 [] Θ_ok fun B hB => ?_
    simp
    refine sH.use (by simp [G.av]) ?_
    refine hB _ ?_
    clear hB B
    refine vcOps_split 4 fun B hB => ?_
    simp [h1, h1', a4, a4']
    refine sM.use (by simp [G.av]) ?_
    refine hB _ ?_
    clear hB B
    simp [h1, h1', a4, a4']
    refine k2 _ ?_
    refine AW.cond true (by simp [Int.natCast_inj]) (fun _ => ?_) (fun h => by cases h)
    refine AW.seq fun _ kr => AW.region [] Θ_ok ?_
    simp
    refine (l19_awake).use (by simp [G.av]) ?_
    try simp
    refine kr _ (AW.ret ?_)
    simp [Try.f5]
    exact Fin.refl ⟨rfl, rfl⟩
  have a4' : ¬ (4 : Int) < (la.length : Int) := by omega
  by_cases e4 : 4 < lb.length
  · have e4' : (4 : Int) < (lb.length : Int) := by omega
    refine AW.seq fun _ k2 => AW.regionAt 4 [] Θ_ok fun B hB => ?_
    simp
    refine sH.use (by simp [G.av]) ?_
    refine hB _ ?_
    clear hB B
    refine vcOps_split 4 fun B hB => ?_
    simp [h1, h1', a4, a4', e4, e4']
    refine sM.use (by simp [G.av]) ?_
    refine hB _ ?_
    clear hB B
    simp [h1, h1', a4, a4', e4, e4']
    refine k2 _ ?_
    refine AW.cond true (by simp [Int.natCast_inj]) (fun _ => ?_) (fun h => by cases h)
    refine AW.seq fun _ kr => AW.region [] Θ_ok ?_
    simp
    refine (l19_awake).use (by simp [G.av]) ?_
    try simp
    refine kr _ (AW.ret ?_)
    simp [Try.f5]
    exact Fin.refl ⟨rfl, rfl⟩
  have e4' : ¬ (4 : Int) < (lb.length : Int) := by omega
  refine AW.seq fun _ k2 => AW.regionAt 4 [] Θ_ok fun B hB => ?_
  simp
  refine sH.use (by simp [G.av]) ?_
  refine hB _ ?_
  clear hB B
  refine vcOps_split 4 fun B hB => ?_
  simp [h1, h1']
  refine sM.use (by simp [G.av]) ?_
  refine hB _ ?_
  clear hB B
  simp [h1, h1', a4, a4', e4, e4']
  refine k2 _ ?_
  refine AW.cond false (by simp [Int.natCast_inj]) (fun h => by cases h) (fun _ => ?_)
  refine AW.skip ?_
  simp
  refine k1 _ ?_
  have hok : pnOk g la lb := ⟨hm, by omega, by omega⟩
  have hok2 : mayE g = 0 ∧ la.length ≤ 4 ∧ lb.length ≤ 4 := hok
  rw [pnA, if_pos hok] at sS
  rw [regionA, if_pos hok2] at sG
  have hn := (may_ok hm).1
  have lZ : (solveL g la lb).1.length = g.owner.length := (solve_spec hm la lb).2.1.1
  obtain ⟨o1, o2⟩ := pnV_ok hm la lb g.owner.length (Nat.le_refl _)
  have cnt := pnV_cnt (g := g) (solveL g la lb).1 (planTL g (rowsL g la) (rowsL g lb) (solveL g la lb).1) (rowsL g lb)
  have lV := pnV_len g (solveL g la lb).1 (planTL g (rowsL g la) (rowsL g lb) (solveL g la lb).1) (rowsL g lb)
  have eLg : pnL g la lb = pnV g (solveL g la lb).1 (planTL g (rowsL g la) (rowsL g lb) (solveL g la lb).1) (rowsL g lb) g.owner.length := rfl
  have eL2 := congrArg List.length eLg
  rw [← eLg] at o1 o2
  rw [rows_len] at cnt lV o1
  obtain ⟨f, hf'⟩ : ∃ f : Nat → Nat, ∀ x, f x = (pnV g (solveL g la lb).1 (planTL g (rowsL g la) (rowsL g lb) (solveL g la lb).1) (rowsL g lb) x).length := ⟨_, fun x => rfl⟩
  simp only [← hf'] at lV cnt eL2
  have f0 : f 0 = 0 := by rw [hf']; rfl
  clear hf' eLg
  obtain ⟨K, eK⟩ : ∃ K, K = max 1 lb.length := ⟨_, rfl⟩
  simp only [← eK] at im1 im2 cnt lV o1
  have hK4 : K ≤ 4 := by omega
  generalize pnL g la lb = L at *
  generalize (solveL g la lb).1 = Z at *
  refine AW.seq fun _ k1 => AW.regionAt 4 [] Θ_ok fun B hB => ?_
  simp
  refine sG.use (by simp [G.av]) ?_
  refine hB _ ?_
  clear hB B
  simp
  refine k1 _ ?_
  refine AW.seq fun _ k1 => AW.regionAt 4 [] Θ_ok fun B hB => ?_
  simp
  refine sS.use (by simp [G.av]) ?_
  refine hB _ ?_
  clear hB B
  simp
  refine k1 _ ?_
  refine AW.seq fun _ k1 => ?_
  refine AW.seq fun _ k2 => AW.region [] Θ_ok ?_
  simp [lZ]
  refine k2 _ ?_
  refine AW.cond false (by simp [Int.natCast_inj]) (fun h => by cases h) (fun _ => ?_)
  refine AW.skip ?_
  simp
  refine k1 _ ?_
  refine AW.seq fun _ k1 => AW.region [] Θ_ok ?_
  simp
  refine k1 _ ?_
  refine AW.seq fun _ k1 => ?_
  refine AW.seq fun _ k2 => AW.region [] Θ_ok ?_
  simp [lZ]
  refine k2 _ ?_
  refine AW.block ?_
  refine AW.loopI (X := Nat) (fun x => x ≤ g.owner.length) (fun x => ⟨161, [(2, .ro false (bools2 lb)), (3, .rop [.ro false (ints g.owner), .ro false (rows g.next)]), (7, .ro false (bools Z)), (8, .ro false (avS L)), (9, .int .i64 (f x)), (49, .ro false (bools Z)), (50, .int .i64 g.owner.length), (51, .int .i64 x)], h⟩) (fun x => g.owner.length - x) 0 (Nat.zero_le _) (GStep.eq (by simp [f0]) (subH.refl _)) fun x hx => ?_
  refine AW.seq fun _ k2 => AW.region [] Θ_ok ?_
  simp
  refine k2 _ ?_
  by_cases hlt : x < g.owner.length
  · have inc := wrap_succ (show x < 9223372036854775807 by omega)
    have hltZ : x < Z.length := by omega
    have cx := cnt x
    have lx := lV x
    rw [show hasN Z x = Z[x] by simp [hasN, hltZ], show ow g x = g.owner[x] by simp [ow, hlt]] at cx
    have lx2 : x * K ≤ 3000 * 4 := Nat.mul_le_mul (by omega) hK4
    have wf : IntKind.i64.wrap ((f x : Int) + (K : Int)) = ((f x + K : Nat) : Int) := by
      rw [show ((f x : Int) + (K : Int)) = ((f x + K : Nat) : Int) by push_cast; rfl]; exact wrap_nat (by omega)
    obtain ⟨y, hy⟩ : ∃ y, y = f x + K := ⟨_, rfl⟩
    rw [← hy] at wf
    refine AW.seq fun _ k2 => AW.cond true (by simp [Int.natCast_inj, hlt]) (fun _ => ?_) (fun h => by cases h)
    refine AW.skip ?_
    simp
    refine k2 _ ?_
    refine AW.seq fun _ k2 => ?_
    refine AW.block ?_
    refine AW.seq fun _ k3 => AW.region [] Θ_ok ?_
    simp [hltZ]
    refine k3 _ ?_
    cases hz : Z[x] with
    | false =>
      rw [hz] at cx
      simp only [Bool.false_eq_true, false_and, if_false, Nat.add_zero] at cx
      refine AW.seq fun _ k3 => AW.region [] Θ_ok ?_
      simp [hltZ, hz]
      refine k3 _ ?_
      refine AW.cond false (by simp [Int.natCast_inj]) (fun h => by cases h) (fun _ => ?_)
      refine AW.skip ?_
      simp
      refine k2 _ ?_
      refine AW.region [] Θ_ok ?_
      simp
      exact ⟨x + 1, by omega, by omega, GStep.eq (by simp [inc, cx]) (subH.refl _)⟩
    | true =>
      rw [hz] at cx
      by_cases ho : g.owner[x] = 1
      · rw [if_pos ⟨rfl, ho⟩, ← hy] at cx
        refine AW.seq fun _ k3 => AW.region [] Θ_ok ?_
        simp [hltZ, hz, hlt, ho]
        refine k3 _ ?_
        refine AW.cond true (by simp [Int.natCast_inj, ho]) (fun _ => ?_) (fun h => by cases h)
        refine AW.region [] Θ_ok ?_
        simp [im1, im2, wf]
        refine k2 _ ?_
        refine AW.region [] Θ_ok ?_
        simp
        exact ⟨x + 1, by omega, by omega, GStep.eq (by simp [inc, cx]) (subH.refl _)⟩
      · rw [if_neg (fun z => ho z.2), Nat.add_zero] at cx
        refine AW.seq fun _ k3 => AW.region [] Θ_ok ?_
        simp [hltZ, hz, hlt, ho]
        refine k3 _ ?_
        refine AW.cond false (by simp [Int.natCast_inj, ho]) (fun h => by cases h) (fun _ => ?_)
        refine AW.skip ?_
        simp
        refine k2 _ ?_
        refine AW.region [] Θ_ok ?_
        simp
        exact ⟨x + 1, by omega, by omega, GStep.eq (by simp [inc, cx]) (subH.refl _)⟩
  have hxx : x = g.owner.length := by omega
  subst hxx
  refine AW.seq fun _ k2 => AW.cond false (by simp [Int.natCast_inj]) (fun h => by cases h) (fun _ => ?_)
  refine AW.exit ?_
  simp
  refine k1 _ ?_
  rw [← eL2]
  have lS : (avS L).length = L.length := by simp [avS]
  have gS : ∀ i (h : i < (avS L).length) (h2 : i < L.length), (avS L)[i] = .agg [.int .i64 L[i].a, .int .i64 L[i].b, .int .i64 L[i].c, .int .i64 L[i].d] := fun i h h2 => by simp [avS, S4.l]
  have hL3 : L.length ≤ 12000 := by
    have := lV g.owner.length
    have h2 : g.owner.length * K ≤ 3000 * 4 := Nat.mul_le_mul hn hK4
    omega
  have pw := List.pairwise_iff_getElem.1 o2
  clear cnt lV f0 eL2
  refine AW.seq fun _ k1 => ?_
  refine AW.seq fun _ k2 => AW.region [] Θ_ok ?_
  simp [lS]
  refine k2 _ ?_
  refine AW.block ?_
  refine AW.loopI (X := Nat) (fun x => x ≤ L.length) (fun x => ⟨161, [(7, .ro false (bools Z)), (8, .ro false (avS L)), (9, .int .i64 L.length), (71, .ro false (avS L)), (72, .int .i64 L.length), (73, .int .i64 x)], h⟩) (fun x => L.length - x) 0 (Nat.zero_le _) (GStep.eq (by simp) (subH.refl _)) fun x hx => ?_
  refine AW.seq fun _ k2 => AW.region [] Θ_ok ?_
  simp
  refine k2 _ ?_
  by_cases hlt : x < L.length
  · have inc := wrap_succ (show x < 9223372036854775807 by omega)
    have hltS : x < (avS L).length := by omega
    have gx := gS x hltS hlt
    obtain ⟨a, b, c, e1, e2, e3, e4, e5, e6, e7, e8⟩ := o1 L[x] (List.getElem_mem hlt)
    have haZ : a < Z.length := by omega
    have hcZ : c < Z.length := by omega
    rw [show hasN Z a = Z[a] by simp [hasN, haZ]] at e7
    rw [show hasN Z c = Z[c] by simp [hasN, hcZ]] at e8
    rw [e1, e3, e5] at gx
    refine AW.seq fun _ k2 => AW.cond true (by simp [Int.natCast_inj, hlt]) (fun _ => ?_) (fun h => by cases h)
    refine AW.skip ?_
    simp
    refine k2 _ ?_
    refine AW.seq fun _ k2 => ?_
    refine AW.block ?_
    refine AW.seq fun _ k3 => AW.region [13] Θ_ok ?_
    simp [newA, hltS, hlt, lS, gx, setAt]
    refine fun o ho => k3 _ ?_
    refine AW.box 13 rfl (upd_same _ _ _) ?_
    simp only [updNF _ ho]
    have n1 : ¬ (a : Int) < 0 := by omega
    have n1' : (0 : Int) ≤ (a : Int) := by omega
    have n2 : ¬ (g.owner.length : Int) ≤ (a : Int) := by omega
    have n2' : ¬ g.owner.length ≤ a := by omega
    have n3 : ¬ (c : Int) < 0 := by omega
    have n4 : ¬ (g.owner.length : Int) ≤ (c : Int) := by omega
    have n4' : ¬ g.owner.length ≤ c := by omega
    have n5 : ¬ (b : Int) < 0 := by omega
    have n6 : ¬ (K : Int) ≤ (b : Int) := by omega
    have n6' : ¬ K ≤ b := by omega
    by_cases hx0 : x = 0
    · subst hx0
      refine AW.seq fun _ k3 => AW.draw [] 75 [] Θ_ok mixed (by kernel_rfl) (by kernel_rfl) ?_
      refine vcDraw_split 18 fun B hB => ?_
      simp [vcPre, vcTail, callA, isAlloc, isLoad, effOp, obl, obA, mkOK, valA, lZ, n1, n1', n2, n2', n3, n4, n4', n5, n6, n6', e2, e6, e7, e8, haZ, hcZ]
      refine hB _ _ _ ?_
      clear hB B
      refine vcPre_split 19 fun B hB => ?_
      simp [vcPre, vcTail, callA, isAlloc, isLoad, effOp, obl, obA, mkOK, valA, lZ, n1, n1', n2, n2', n3, n4, n4', n5, n6, n6', e2, e6, e7, e8, haZ, hcZ]
      refine hB _ _ _ ?_
      clear hB B
      refine vcPre_split 11 fun B hB => ?_
      simp [vcPre, vcTail, callA, isAlloc, isLoad, effOp, obl, obA, mkOK, valA, lZ, n1, n1', n2, n2', n3, n4, n4', n5, n6, n6', e2, e6, e7, e8, haZ, hcZ]
      refine hB _ _ _ ?_
      clear hB B
      refine vcPre_split 14 fun B hB => ?_
      simp [vcPre, vcTail, callA, isAlloc, isLoad, effOp, obl, obA, mkOK, valA, lZ, n1, n1', n2, n2', n3, n4, n4', n5, n6, n6', e2, e6, e7, e8, haZ, hcZ]
      refine hB _ _ _ ?_
      clear hB B
      simp [vcPre, vcTail, callA, isAlloc, isLoad, effOp, obl, obA, mkOK, valA, lZ, n1, n1', n2, n2', n3, n4, n4', n5, n6, n6', e2, e6, e7, e8, haZ, hcZ]
      refine k3 _ ?_
      refine AW.cond false (by simp [Int.natCast_inj]) (fun h => by cases h) (fun _ => ?_)
      refine AW.skip ?_
      simp
      refine k2 _ ?_
      refine AW.region [] Θ_ok ?_
      simp
      exact ⟨0 + 1, by omega, by omega, GStep.eq (by simp [show IntKind.i64.wrap 1 = 1 from rfl]) (subH.refl _)⟩
    · obtain ⟨j, hj⟩ : ∃ j, x = j + 1 := ⟨x - 1, by omega⟩
      have hjL : j < L.length := by omega
      have hjS : j < (avS L).length := by omega
      have gj := gS j hjS hjL
      obtain ⟨a', b', c', f1, f2, f3, f4, f5, f6, f7, f8⟩ := o1 L[j] (List.getElem_mem hjL)
      have lx := pw j x hjL hlt (by omega)
      unfold lexS at lx
      rw [f1, f3, e1, e3] at lx
      rw [f1, f3, f5] at gj
      have wj : IntKind.i64.wrap ((x : Int) - 1) = (j : Int) := by
        rw [show ((x : Int) - 1) = (j : Int) by omega]; exact wrap_nat (by omega)
      have n7 : (0 : Int) < (x : Int) := by omega
      have n7' : 0 < x := by omega
      rcases lx with q | ⟨q1, q2⟩
      · have n8 : ¬ (a : Int) < (a' : Int) := by omega
        have n8' : ¬ a < a' := by omega
        have n9 : ¬ a = a' := by omega
        have n9' : ((a : Int) == (a' : Int)) = false := by simp; omega
        refine AW.seq fun _ k3 => AW.draw [] 75 [] Θ_ok mixed (by kernel_rfl) (by kernel_rfl) ?_
        refine vcDraw_split 18 fun B hB => ?_
        simp [vcPre, vcTail, callA, isAlloc, isLoad, effOp, obl, obA, mkOK, valA, lZ, n1, n1', n2, n2', n3, n4, n4', n5, n6, n6', e2, e6, e7, e8, haZ, hcZ, n7, n7', wj, hjS, hjL, gj, lS, n8, n8', n9, n9']
        refine hB _ _ _ ?_
        clear hB B
        refine vcPre_split 19 fun B hB => ?_
        simp [vcPre, vcTail, callA, isAlloc, isLoad, effOp, obl, obA, mkOK, valA, lZ, n1, n1', n2, n2', n3, n4, n4', n5, n6, n6', e2, e6, e7, e8, haZ, hcZ, n7, n7', wj, hjS, hjL, gj, lS, n8, n8', n9, n9']
        refine hB _ _ _ ?_
        clear hB B
        refine vcPre_split 11 fun B hB => ?_
        simp [vcPre, vcTail, callA, isAlloc, isLoad, effOp, obl, obA, mkOK, valA, lZ, n1, n1', n2, n2', n3, n4, n4', n5, n6, n6', e2, e6, e7, e8, haZ, hcZ, n7, n7', wj, hjS, hjL, gj, lS, n8, n8', n9, n9']
        refine hB _ _ _ ?_
        clear hB B
        refine vcPre_split 14 fun B hB => ?_
        simp [vcPre, vcTail, callA, isAlloc, isLoad, effOp, obl, obA, mkOK, valA, lZ, n1, n1', n2, n2', n3, n4, n4', n5, n6, n6', e2, e6, e7, e8, haZ, hcZ, n7, n7', wj, hjS, hjL, gj, lS, n8, n8', n9, n9']
        refine hB _ _ _ ?_
        clear hB B
        simp [vcPre, vcTail, callA, isAlloc, isLoad, effOp, obl, obA, mkOK, valA, lZ, n1, n1', n2, n2', n3, n4, n4', n5, n6, n6', e2, e6, e7, e8, haZ, hcZ, n7, n7', wj, hjS, hjL, gj, lS, n8, n8', n9, n9']
        refine k3 _ ?_
        refine AW.cond false (by simp [Int.natCast_inj]) (fun h => by cases h) (fun _ => ?_)
        refine AW.skip ?_
        simp
        refine k2 _ ?_
        refine AW.region [] Θ_ok ?_
        simp
        exact ⟨x + 1, by omega, by omega, GStep.eq (by simp [inc]) (subH.refl _)⟩
      · have qa : a' = a := by omega
        subst qa
        have n8 : ¬ (b : Int) ≤ (b' : Int) := by omega
        have n8' : ¬ b ≤ b' := by omega
        refine AW.seq fun _ k3 => AW.draw [] 75 [] Θ_ok mixed (by kernel_rfl) (by kernel_rfl) ?_
        refine vcDraw_split 18 fun B hB => ?_
        simp [vcPre, vcTail, callA, isAlloc, isLoad, effOp, obl, obA, mkOK, valA, lZ, n1, n1', n2, n2', n3, n4, n4', n5, n6, n6', e2, e6, e7, e8, haZ, hcZ, n7, n7', wj, hjS, hjL, gj, lS, n8, n8']
        refine hB _ _ _ ?_
        clear hB B
        refine vcPre_split 19 fun B hB => ?_
        simp [vcPre, vcTail, callA, isAlloc, isLoad, effOp, obl, obA, mkOK, valA, lZ, n1, n1', n2, n2', n3, n4, n4', n5, n6, n6', e2, e6, e7, e8, haZ, hcZ, n7, n7', wj, hjS, hjL, gj, lS, n8, n8']
        refine hB _ _ _ ?_
        clear hB B
        refine vcPre_split 11 fun B hB => ?_
        simp [vcPre, vcTail, callA, isAlloc, isLoad, effOp, obl, obA, mkOK, valA, lZ, n1, n1', n2, n2', n3, n4, n4', n5, n6, n6', e2, e6, e7, e8, haZ, hcZ, n7, n7', wj, hjS, hjL, gj, lS, n8, n8']
        refine hB _ _ _ ?_
        clear hB B
        refine vcPre_split 14 fun B hB => ?_
        simp [vcPre, vcTail, callA, isAlloc, isLoad, effOp, obl, obA, mkOK, valA, lZ, n1, n1', n2, n2', n3, n4, n4', n5, n6, n6', e2, e6, e7, e8, haZ, hcZ, n7, n7', wj, hjS, hjL, gj, lS, n8, n8']
        refine hB _ _ _ ?_
        clear hB B
        simp [vcPre, vcTail, callA, isAlloc, isLoad, effOp, obl, obA, mkOK, valA, lZ, n1, n1', n2, n2', n3, n4, n4', n5, n6, n6', e2, e6, e7, e8, haZ, hcZ, n7, n7', wj, hjS, hjL, gj, lS, n8, n8']
        refine k3 _ ?_
        refine AW.cond false (by simp [Int.natCast_inj]) (fun h => by cases h) (fun _ => ?_)
        refine AW.skip ?_
        simp
        refine k2 _ ?_
        refine AW.region [] Θ_ok ?_
        simp
        exact ⟨x + 1, by omega, by omega, GStep.eq (by simp [inc]) (subH.refl _)⟩
  have hxx : x = L.length := by omega
  subst hxx
  refine AW.seq fun _ k2 => AW.cond false (by simp [Int.natCast_inj]) (fun h => by cases h) (fun _ => ?_)
  refine AW.exit ?_
  simp
  refine k1 _ ?_
  refine AW.seq fun _ kr => AW.regionAt 6 [] Θ_ok fun B hB => ?_
  simp [lS]
  refine l19_awake.use (by simp) ?_
  refine hB _ ?_
  clear hB B
  simp
  refine kr _ (AW.ret ?_)
  simp [Try.f5]
  exact Fin.refl ⟨rfl, rfl⟩
end Go.Par
