import Derived.Test.YtdicfaplohdopaaPlG
import Derived.Test.YtdicfaplohdopaaFnK
set_option linter.unusedSimpArgs false
set_option maxRecDepth 8000
namespace Go.Par
open Go.Proofs

theorem countP_step {α : Type} (p : α → Bool) (l : List α) {y : Nat} (h : y < l.length) : (l.take (y + 1)).countP p = (l.take y).countP p + if p l[y] then 1 else 0 := by
  rw [List.take_succ_eq_append_getElem h, List.countP_append]
  simp [List.countP_cons]

set_option maxHeartbeats 1000000 in
theorem law_GraphCuts (g : G) (hg : g.wide) (la : List Bool) (_ : (DK.sl .bool).fits la) (p : Int) (_ : DK.fits .int p) (lt : List Int) (_ : (DK.sl .int).fits lt) : Pure Try.prog 10 [g.av, .ro false (bools la), .int .i64 p, .ro false (ints lt)] (.bool true) := by
  have hf := hg.f
  intro h
  refine AC.body Θ_ok Try.func10 rfl rfl (Nat.le_of_ble_eq_true rfl) ?_
  refine AW.seq fun _ k1 => AW.region [] Θ_ok ?_
  simp
  refine k1 _ ?_
  refine AW.seq fun _ k1 => ?_
  by_cases hall : ¬ 0 < heavyE g ∧ mayE g = 0 ∧ la.length ≤ 300 ∧ lt.length ≤ 300
  · obtain ⟨h1, hm, h3, h4⟩ := hall
    have hn := (may_ok hm).2.1
    have hn3 := (may_ok hm).1
    refine AW.seq fun _ k2 => AW.regionAt 2 [] Θ_ok fun B hB => ?_
    simp
    refine (l9_Heavy g hf).use (by simp [G.av]) ?_
    refine hB _ ?_
    clear hB B
    refine vcOps_split 4 fun B hB => ?_
    simp [h1, Int.not_lt.1 h1]
    refine (r9_May g hf).use (by simp [G.av]) ?_
    refine hB _ ?_
    clear hB B
    simp [hm, show ¬ 300 < (la.length : Int) by omega, show ¬ 300 < (lt.length : Int) by omega, show (la.length : Int) ≤ 300 by omega, show (lt.length : Int) ≤ 300 by omega, h3, h4]
    refine k2 _ ?_
    refine AW.cond false (by simp [Int.natCast_inj]) (fun h => by cases h) (fun _ => ?_)
    refine AW.skip ?_
    simp
    refine k1 _ ?_
    refine AW.seq fun _ k1 => AW.region [] Θ_ok ?_
    simp
    refine k1 _ ?_
    have hw := who2_cases p
    change AW _ _ _ ⟨_, (2, .int .i64 (who2 p)) :: _, _⟩
    generalize who2 p = W at hw
    have fA := graph_Only g hf la
    have fB := graph_Follow g hf W lt
    rw [waysA, if_pos hm] at fA fB
    have fMA := graph_May _ (waysG_fits hf (onlyP la))
    have fMB := graph_May _ (waysG_fits hf (followP g W lt))
    rw [waysG_may hm, waysG_eq hm] at fMA fMB
    have eA := waysL_len g (onlyP la)
    have eB := waysL_len g (followP g W lt)
    have rA : ∀ v (h : v < (waysL g (onlyP la)).length) (h' : v < g.next.length), (waysL g (onlyP la))[v].length = g.next[v].countP (onlyP la v) := by
      intro v h h'; rw [waysL_get g _ h h', List.countP_eq_length_filter]
    have rB : ∀ v (h : v < (waysL g (followP g W lt)).length) (h' : v < g.next.length), (waysL g (followP g W lt))[v].length = g.next[v].countP (followP g W lt v) := by
      intro v h h'; rw [waysL_get g _ h h', List.countP_eq_length_filter]
    generalize waysL g (onlyP la) = LA at fA fMA eA rA
    generalize waysL g (followP g W lt) = LB at fB fMB eB rB
    refine AW.seq fun _ k1 => AW.draw [9, 10] 9 [0, 3] Θ_ok mixed (by kernel_rfl) (by kernel_rfl) ?_
    simp [vcDraw, vcPre, vcTail, callA, isAlloc, isLoad, effOp, obl, obA, mkOK, valA]
    refine ⟨_, fA.wk (by simp [G.av]), ?_⟩
    try simp
    refine ⟨_, fB.wk (by simp [G.av]), ?_⟩
    try simp
    refine fun a ha b hb => ?_
    obtain ⟨hba, hb0⟩ := ne_of_none hb (by simp)
    simp [upd_at, hba, Ne.symm hba]
    refine k1 _ ?_
    refine AW.box 9 (x := ⟨[.ro false (ints g.owner), .ro true (rows LA)], 25, 2, true⟩) rfl (by simp [upd_at, Ne.symm hba]) ?_
    refine AW.box 10 (x := ⟨[.ro false (ints g.owner), .ro true (rows LB)], 25, 2, true⟩) rfl (by simp [upd_at, hba]) ?_
    have hh : ∀ A B C D, upd (upd (upd (upd (upd (upd h a A) b B) a C) b D) a none) b none = h := by
      intro A B C D
      funext z
      simp only [upd_at]
      by_cases e1 : z = b
      · subst e1; simp [hb0]
      · by_cases e2 : z = a
        · subst e2; simp [ha]
        · simp [e1, e2]
    simp only [hh]
    refine AW.seq fun _ k1 => AW.region [54] Θ_ok ?_
    simp
    refine ⟨by omega, fun o ho => k1 _ ?_⟩
    rw [replicate_tab, flat_tab (fun _ _ => rfl)]
    refine AW.seq fun _ k1 => ?_
    refine AW.seq fun _ k2 => AW.region [] Θ_ok ?_
    simp
    refine k2 _ ?_
    refine AW.block ?_
    refine AW.loopI (X := Nat) (fun x => x ≤ g.owner.length) (fun x => ⟨210, [(57, .int .i64 x), (56, .int .i64 g.owner.length), (11, .mu o g.owner.length), (1, .ro false (bools la)), (2, .int .i64 W), (3, .ro false (ints lt)), (4, .rop [.ro false (ints g.owner), .ro false (rows g.next)]), (9, .rop [.ro false (ints g.owner), .ro true (rows LA)]), (10, .rop [.ro false (ints g.owner), .ro true (rows LB)])],
      upd h o (some ⟨tab g.owner.length fun i => .bool (decide (i < x)), 4, 1, true⟩)⟩) (fun x => g.owner.length - x) 0 (Nat.zero_le _) (GStep.eq (by simp) ?_) fun x hx => ?_
    · simp; exact subH.refl _
    refine AW.seq fun _ k2 => AW.region [] Θ_ok ?_
    simp
    refine k2 _ ?_
    by_cases hlt : x < g.owner.length
    · have inc := wrap_succ (show x < 9223372036854775807 by omega)
      have hset : (tab g.owner.length fun i => AV.bool (decide (i < x))).set x (.bool true) = tab g.owner.length fun i => .bool (decide (i < x + 1)) := by
        rw [set_tab]
        refine tab_congr fun i hi => ?_
        by_cases e : i = x
        · subst e; simp
        · by_cases h1 : i < x
          · simp [e, h1, show i < x + 1 by omega]
          · simp [e, h1, show ¬ i < x + 1 by omega]
      refine AW.seq fun _ k2 => AW.cond true (by simp [Int.natCast_inj, hlt]) (fun _ => ?_) (fun h => by cases h)
      refine AW.skip ?_
      simp
      refine k2 _ ?_
      refine AW.seq fun _ k2 => ?_
      refine AW.block ?_
      refine AW.seq fun _ k3 => AW.region [] Θ_ok ?_
      simp
      refine k3 _ ?_
      refine AW.region [] Θ_ok ?_
      simp [hlt]
      refine ⟨by omega, k2 _ ?_⟩
      refine AW.region [] Θ_ok ?_
      simp
      exact ⟨x + 1, by omega, by omega, GStep.eq (by simp [inc]) (subH_of_eq (congrArg (fun c => upd h o (some ⟨c, 4, 1, true⟩)) hset))⟩
    obtain rfl : x = g.owner.length := by omega
    refine AW.seq fun _ k2 => AW.cond false (by simp [Int.natCast_inj]) (fun h => by cases h) (fun _ => ?_)
    refine AW.exit ?_
    simp
    refine k1 _ ?_
    clear hx hlt
    refine AW.freeze 11 true rfl (upd_same _ _ _) (fun _ => rfl) rfl (by simp) (ones_bools _ _) ?_
    simp only [upd_upd_none ho]
    have hBB : (tab g.owner.length fun i => AV.bool (decide (i < g.owner.length))) = bools (allL g.owner.length) := by
      simp only [bools, allL, map_tab]
      exact tab_congr fun i hi => by simp [hi]
    rw [hBB]
    have fAA := graph_Only g hf (allL g.owner.length)
    have wAA := waysA_weak g (onlyP (allL g.owner.length))
    rw [only_all hm] at wAA
    generalize waysA g (onlyP (allL g.owner.length)) = AA at fAA wAA
    refine AW.seq fun _ k1 => ?_
    refine AW.seq fun _ k2 => AW.draw [] 34 [] Θ_ok mixed (by kernel_rfl) (by kernel_rfl) ?_
    refine vcDraw_split 2 fun B hB => ?_
    simp [vcPre, vcTail, callA, isAlloc, isLoad, effOp, obl, obA, mkOK, valA]
    refine ⟨_, fMA.wk (by simp [G.av]), ?_⟩
    refine hB _ _ _ ?_
    clear hB B
    refine vcPre_split 4 fun B hB => ?_
    simp [vcPre, vcTail, callA, isAlloc, isLoad, effOp, obl, obA, mkOK, valA]
    refine ⟨_, fMB.wk (by simp [G.av]), ?_⟩
    refine hB _ _ _ ?_
    clear hB B
    refine vcPre_split 6 fun B hB => ?_
    simp [vcPre, vcTail, callA, isAlloc, isLoad, effOp, obl, obA, mkOK, valA]
    refine ⟨_, fAA.wk (by simp [G.av]), ?_⟩
    refine hB _ _ _ ?_
    clear hB B
    refine vcPre_split 2 fun B hB => ?_
    simp [vcPre, vcTail, callA, isAlloc, isLoad, effOp, obl, obA, mkOK, valA]
    refine ⟨_, (graph_Same g g hf).wk (by simp [wAA, G.av]), ?_⟩
    refine hB _ _ _ ?_
    clear hB B
    simp [vcPre, vcTail, callA, isAlloc, isLoad, effOp, obl, obA, mkOK, valA, eA, eB]
    refine k2 _ ?_
    refine AW.cond false (by simp [Int.natCast_inj]) (fun h => by cases h) (fun _ => ?_)
    refine AW.skip ?_
    simp
    refine k1 _ ?_
    refine AW.seq fun _ k1 => ?_
    refine AW.seq fun _ k2 => AW.region [] Θ_ok ?_
    simp
    refine k2 _ ?_
    refine AW.block ?_
    refine AW.loopI (X := Nat) (fun x => x ≤ g.next.length) (fun x => ⟨210, [(101, .int .i64 x), (100, .int .i64 g.next.length), (99, .ro false (rows g.next)), (1, .ro false (bools la)), (2, .int .i64 W), (3, .ro false (ints lt)), (4, .rop [.ro false (ints g.owner), .ro false (rows g.next)]), (9, .rop [.ro false (ints g.owner), .ro true (rows LA)]), (10, .rop [.ro false (ints g.owner), .ro true (rows LB)])], h⟩) (fun x => g.next.length - x) 0 (Nat.zero_le _) (GStep.eq (by simp) (subH.refl _)) fun x hx => ?_
    refine AW.seq fun _ k2 => AW.region [] Θ_ok ?_
    simp
    refine k2 _ ?_
    by_cases hlt : x < g.next.length
    · have inc := wrap_succ (show x < 9223372036854775807 by omega)
      have hv : x < g.owner.length := by omega
      have lA : x < LA.length := by omega
      have lB : x < LB.length := by omega
      have rA' := rA x lA hlt
      have rB' := rB x lB hlt
      have hone : g.owner[x] = W → g.next[x].countP (followP g W lt x) ≤ 1 := fun ho => follow_one hm hv hlt ho
      have hlr := hf.row _ (List.getElem_mem hlt)
      obtain ⟨_, hr⟩ := may_row hm hv hlt
      refine AW.seq fun _ k2 => AW.cond true (by simp [Int.natCast_inj, hlt]) (fun _ => ?_) (fun h => by cases h)
      refine AW.skip ?_
      simp
      refine k2 _ ?_
      refine AW.seq fun _ k2 => ?_
      refine AW.block ?_
      refine AW.seq fun _ k3 => AW.region [] Θ_ok ?_
      simp [hlt]
      refine k3 _ ?_
      refine AW.seq fun _ k3 => AW.region [] Θ_ok ?_
      simp
      refine k3 _ ?_
      refine AW.seq fun _ k3 => ?_
      refine AW.seq fun _ k4 => AW.region [] Θ_ok ?_
      simp
      refine k4 _ ?_
      refine AW.block ?_
      refine AW.loopI (X := Nat) (fun y => y ≤ g.next[x].length) (fun y => ⟨210, [(108, .int .i64 y), (107, .int .i64 g.next[x].length), (106, .ro false (ints g.next[x])), (13, .int .i64 x), (15, .int .i64 ((g.next[x].take y).countP (onlyP la x) : Nat)), (16, .int .i64 ((g.next[x].take y).countP (followP g W lt x) : Nat)), (101, .int .i64 x), (100, .int .i64 g.next.length), (99, .ro false (rows g.next)), (1, .ro false (bools la)), (2, .int .i64 W), (3, .ro false (ints lt)), (4, .rop [.ro false (ints g.owner), .ro false (rows g.next)]), (9, .rop [.ro false (ints g.owner), .ro true (rows LA)]), (10, .rop [.ro false (ints g.owner), .ro true (rows LB)])], h⟩) (fun y => g.next[x].length - y) 0 (Nat.zero_le _) (GStep.eq (by simp) (subH.refl _)) fun y hy => ?_
      refine AW.seq fun _ k4 => AW.region [] Θ_ok ?_
      simp
      refine k4 _ ?_
      by_cases hly : y < g.next[x].length
      · have incy := wrap_succ (show y < 9223372036854775807 by omega)
        have cA := countP_step (onlyP la x) g.next[x] hly
        have cB := countP_step (followP g W lt x) g.next[x] hly
        have bA : (g.next[x].take y).countP (onlyP la x) ≤ y := Nat.le_trans List.countP_le_length (by simp; omega)
        have bB : (g.next[x].take y).countP (followP g W lt x) ≤ y := Nat.le_trans List.countP_le_length (by simp; omega)
        have incn := wrap_succ (show (g.next[x].take y).countP (onlyP la x) < 9223372036854775807 by omega)
        have inck := wrap_succ (show (g.next[x].take y).countP (followP g W lt x) < 9223372036854775807 by omega)
        obtain ⟨w, hw⟩ : ∃ w : Nat, g.next[x][y] = (w : Int) := ⟨g.next[x][y].toNat, by have := (hr _ (List.getElem_mem hly)).1; omega⟩
        rw [hw] at cA cB
        have ea : (decide (0 ≤ (x : Int)) && hasI la x) = hasN la x := by simp
        have eb : (decide (0 ≤ (w : Int)) && hasI la w) = hasN la w := by simp
        have sa := r9_Has la x
        have sb := r9_Has la w
        rw [ea] at sa
        rw [eb] at sb
        have hP : hasN la x = false ∧ True ∧ onlyP la x w = false ∨ hasN la x = true ∧ hasN la w = false ∧ onlyP la x w = false ∨ hasN la x = true ∧ hasN la w = true ∧ onlyP la x w = true := by
          simp only [onlyP, hasI_nat]
          cases hasN la x <;> cases hasN la w <;> simp
        have hF : (¬ g.owner[x] = W ∧ True ∧ True ∧ followP g W lt x w = true) ∨ (g.owner[x] = W ∧ ¬ x < lt.length ∧ True ∧ followP g W lt x w = false) ∨ (g.owner[x] = W ∧ x < lt.length ∧ (∀ h, (lt[x]'h == (w : Int)) = false) ∧ followP g W lt x w = false) ∨ (g.owner[x] = W ∧ x < lt.length ∧ (∀ h, (lt[x]'h == (w : Int)) = true) ∧ followP g W lt x w = true) := by
          by_cases q1 : g.owner[x] = W
          · by_cases q2 : x < lt.length
            · by_cases q3 : lt[x] = (w : Int)
              · exact .inr (.inr (.inr ⟨q1, q2, fun _ => by simpa using q3, by simp [followP, hv, q1, q2, q3]⟩))
              · exact .inr (.inr (.inl ⟨q1, q2, fun _ => by simpa using q3, by simp [followP, hv, q1, q2, q3]⟩))
            · exact .inr (.inl ⟨q1, q2, trivial, by simp [followP, hv, q1, q2]⟩)
          · exact .inl ⟨q1, trivial, trivial, by simp [followP, hv, q1]⟩
        refine AW.seq fun _ k4 => AW.cond true (by simp [Int.natCast_inj, hly]) (fun _ => ?_) (fun h => by cases h)
        refine AW.skip ?_
        simp
        refine k4 _ ?_
        refine AW.seq fun _ k4 => ?_
        refine AW.block ?_
        refine AW.seq fun _ k5 => AW.region [] Θ_ok ?_
        simp [hly, hw]
        refine k5 _ ?_
        refine AW.seq fun _ k5 => ?_
        refine AW.seq fun _ k6 => AW.regionAt 3 [] Θ_ok fun B hB => ?_
        simp
        refine sa.use (by simp) ?_
        rcases hP with ⟨p1, p2, p3⟩ | ⟨p1, p2, p3⟩ | ⟨p1, p2, p3⟩
        · refine hB _ ?_
          clear hB B
          simp [p1]
          refine k6 _ ?_
          refine AW.cond false (by simp [Int.natCast_inj]) (fun h => by cases h) (fun _ => ?_)
          refine AW.skip ?_
          simp
          refine k5 _ ?_
          rcases hF with ⟨f1, f2, f3, f4⟩ | ⟨f1, f2, f3, f4⟩ | ⟨f1, f2, f3, f4⟩ | ⟨f1, f2, f3, f4⟩
          · refine AW.seq fun _ k5 => AW.region [] Θ_ok ?_
            simp [hv, f1]
            refine k5 _ ?_
            refine AW.cond true (by simp [Int.natCast_inj]) (fun _ => ?_) (fun h => by cases h)
            refine AW.region [] Θ_ok ?_
            simp
            refine k4 _ ?_
            refine AW.region [] Θ_ok ?_
            simp
            exact ⟨y + 1, by omega, by omega, GStep.eq (by simp [incy, incn, inck, cA, cB, p3, f4]) (subH.refl _)⟩
          · refine AW.seq fun _ k5 => AW.region [] Θ_ok ?_
            simp [hv, f1, f2]
            refine k5 _ ?_
            refine AW.cond false (by simp [Int.natCast_inj]) (fun h => by cases h) (fun _ => ?_)
            refine AW.skip ?_
            simp
            refine k4 _ ?_
            refine AW.region [] Θ_ok ?_
            simp
            exact ⟨y + 1, by omega, by omega, GStep.eq (by simp [incy, incn, inck, cA, cB, p3, f4]) (subH.refl _)⟩
          · refine AW.seq fun _ k5 => AW.region [] Θ_ok ?_
            simp [hv, f1, f2, f3]
            refine k5 _ ?_
            refine AW.cond false (by simp [Int.natCast_inj]) (fun h => by cases h) (fun _ => ?_)
            refine AW.skip ?_
            simp
            refine k4 _ ?_
            refine AW.region [] Θ_ok ?_
            simp
            exact ⟨y + 1, by omega, by omega, GStep.eq (by simp [incy, incn, inck, cA, cB, p3, f4]) (subH.refl _)⟩
          · refine AW.seq fun _ k5 => AW.region [] Θ_ok ?_
            simp [hv, f1, f2, f3]
            refine k5 _ ?_
            refine AW.cond true (by simp [Int.natCast_inj]) (fun _ => ?_) (fun h => by cases h)
            refine AW.region [] Θ_ok ?_
            simp
            refine k4 _ ?_
            refine AW.region [] Θ_ok ?_
            simp
            exact ⟨y + 1, by omega, by omega, GStep.eq (by simp [incy, incn, inck, cA, cB, p3, f4]) (subH.refl _)⟩
        · refine hB _ ?_
          clear hB B
          refine vcOps_split 4 fun B hB => ?_
          simp [p1]
          refine sb.use (by simp) ?_
          refine hB _ ?_
          clear hB B
          simp [p2]
          refine k6 _ ?_
          refine AW.cond false (by simp [Int.natCast_inj]) (fun h => by cases h) (fun _ => ?_)
          refine AW.skip ?_
          simp
          refine k5 _ ?_
          rcases hF with ⟨f1, f2, f3, f4⟩ | ⟨f1, f2, f3, f4⟩ | ⟨f1, f2, f3, f4⟩ | ⟨f1, f2, f3, f4⟩
          · refine AW.seq fun _ k5 => AW.region [] Θ_ok ?_
            simp [hv, f1]
            refine k5 _ ?_
            refine AW.cond true (by simp [Int.natCast_inj]) (fun _ => ?_) (fun h => by cases h)
            refine AW.region [] Θ_ok ?_
            simp
            refine k4 _ ?_
            refine AW.region [] Θ_ok ?_
            simp
            exact ⟨y + 1, by omega, by omega, GStep.eq (by simp [incy, incn, inck, cA, cB, p3, f4]) (subH.refl _)⟩
          · refine AW.seq fun _ k5 => AW.region [] Θ_ok ?_
            simp [hv, f1, f2]
            refine k5 _ ?_
            refine AW.cond false (by simp [Int.natCast_inj]) (fun h => by cases h) (fun _ => ?_)
            refine AW.skip ?_
            simp
            refine k4 _ ?_
            refine AW.region [] Θ_ok ?_
            simp
            exact ⟨y + 1, by omega, by omega, GStep.eq (by simp [incy, incn, inck, cA, cB, p3, f4]) (subH.refl _)⟩
          · refine AW.seq fun _ k5 => AW.region [] Θ_ok ?_
            simp [hv, f1, f2, f3]
            refine k5 _ ?_
            refine AW.cond false (by simp [Int.natCast_inj]) (fun h => by cases h) (fun _ => ?_)
            refine AW.skip ?_
            simp
            refine k4 _ ?_
            refine AW.region [] Θ_ok ?_
            simp
            exact ⟨y + 1, by omega, by omega, GStep.eq (by simp [incy, incn, inck, cA, cB, p3, f4]) (subH.refl _)⟩
          · refine AW.seq fun _ k5 => AW.region [] Θ_ok ?_
            simp [hv, f1, f2, f3]
            refine k5 _ ?_
            refine AW.cond true (by simp [Int.natCast_inj]) (fun _ => ?_) (fun h => by cases h)
            refine AW.region [] Θ_ok ?_
            simp
            refine k4 _ ?_
            refine AW.region [] Θ_ok ?_
            simp
            exact ⟨y + 1, by omega, by omega, GStep.eq (by simp [incy, incn, inck, cA, cB, p3, f4]) (subH.refl _)⟩
        · refine hB _ ?_
          clear hB B
          refine vcOps_split 4 fun B hB => ?_
          simp [p1]
          refine sb.use (by simp) ?_
          refine hB _ ?_
          clear hB B
          simp [p2]
          refine k6 _ ?_
          refine AW.cond true (by simp [Int.natCast_inj]) (fun _ => ?_) (fun h => by cases h)
          refine AW.region [] Θ_ok ?_
          simp
          refine k5 _ ?_
          rcases hF with ⟨f1, f2, f3, f4⟩ | ⟨f1, f2, f3, f4⟩ | ⟨f1, f2, f3, f4⟩ | ⟨f1, f2, f3, f4⟩
          · refine AW.seq fun _ k5 => AW.region [] Θ_ok ?_
            simp [hv, f1]
            refine k5 _ ?_
            refine AW.cond true (by simp [Int.natCast_inj]) (fun _ => ?_) (fun h => by cases h)
            refine AW.region [] Θ_ok ?_
            simp
            refine k4 _ ?_
            refine AW.region [] Θ_ok ?_
            simp
            exact ⟨y + 1, by omega, by omega, GStep.eq (by simp [incy, incn, inck, cA, cB, p3, f4]) (subH.refl _)⟩
          · refine AW.seq fun _ k5 => AW.region [] Θ_ok ?_
            simp [hv, f1, f2]
            refine k5 _ ?_
            refine AW.cond false (by simp [Int.natCast_inj]) (fun h => by cases h) (fun _ => ?_)
            refine AW.skip ?_
            simp
            refine k4 _ ?_
            refine AW.region [] Θ_ok ?_
            simp
            exact ⟨y + 1, by omega, by omega, GStep.eq (by simp [incy, incn, inck, cA, cB, p3, f4]) (subH.refl _)⟩
          · refine AW.seq fun _ k5 => AW.region [] Θ_ok ?_
            simp [hv, f1, f2, f3]
            refine k5 _ ?_
            refine AW.cond false (by simp [Int.natCast_inj]) (fun h => by cases h) (fun _ => ?_)
            refine AW.skip ?_
            simp
            refine k4 _ ?_
            refine AW.region [] Θ_ok ?_
            simp
            exact ⟨y + 1, by omega, by omega, GStep.eq (by simp [incy, incn, inck, cA, cB, p3, f4]) (subH.refl _)⟩
          · refine AW.seq fun _ k5 => AW.region [] Θ_ok ?_
            simp [hv, f1, f2, f3]
            refine k5 _ ?_
            refine AW.cond true (by simp [Int.natCast_inj]) (fun _ => ?_) (fun h => by cases h)
            refine AW.region [] Θ_ok ?_
            simp
            refine k4 _ ?_
            refine AW.region [] Θ_ok ?_
            simp
            exact ⟨y + 1, by omega, by omega, GStep.eq (by simp [incy, incn, inck, cA, cB, p3, f4]) (subH.refl _)⟩
      · obtain rfl : y = g.next[x].length := by omega
        rw [List.take_of_length_le (Nat.le_refl _)]
        refine AW.seq fun _ k4 => AW.cond false (by simp [Int.natCast_inj]) (fun h => by cases h) (fun _ => ?_)
        refine AW.exit ?_
        simp
        refine k3 _ ?_
        by_cases ho : g.owner[x] = W
        · have h1 := hone ho
          refine AW.seq fun _ k3 => AW.region [] Θ_ok ?_
          simp [hlt, lA, lB, rA', rB', hv, ho, show ¬ (1 : Int) < (g.next[x].countP (followP g W lt x) : Nat) by omega, show ((g.next[x].countP (followP g W lt x) : Nat) : Int) ≤ 1 by omega, h1]
          refine k3 _ ?_
          refine AW.cond false (by simp [Int.natCast_inj]) (fun h => by cases h) (fun _ => ?_)
          refine AW.skip ?_
          simp
          refine k2 _ ?_
          refine AW.region [] Θ_ok ?_
          simp
          exact ⟨x + 1, by omega, by omega, GStep.eq (by simp [inc]) (subH.refl _)⟩
        · refine AW.seq fun _ k3 => AW.region [] Θ_ok ?_
          simp [hlt, lA, lB, rA', rB', hv, ho]
          refine k3 _ ?_
          refine AW.cond false (by simp [Int.natCast_inj, ho]) (fun h => by cases h) (fun _ => ?_)
          refine AW.skip ?_
          simp
          refine k2 _ ?_
          refine AW.region [] Θ_ok ?_
          simp
          exact ⟨x + 1, by omega, by omega, GStep.eq (by simp [inc]) (subH.refl _)⟩
    obtain rfl : x = g.next.length := by omega
    refine AW.seq fun _ k2 => AW.cond false (by simp [Int.natCast_inj]) (fun h => by cases h) (fun _ => ?_)
    refine AW.exit ?_
    simp
    refine k1 _ ?_
    clear hx hlt
    have fF := graph_Follow g hf W []
    have wF := waysA_weak g (followP g W [])
    have fD := graph_Dead _ (waysG_fits hf (followP g W [])) W
    rw [follow_none hm] at fD
    generalize waysA g (followP g W []) = FF at fF wF
    obtain ⟨D, hD⟩ : ∃ D, D = tab g.owner.length fun v => decide (g.owner.getD v 0 = W) := ⟨_, rfl⟩
    have eD : D.length = g.owner.length := by rw [hD]; exact length_tab _ _
    have vD : ∀ v (h : v < D.length) (hv : v < g.owner.length), D[v] = decide (g.owner[v] = W) := by
      subst hD; intro v h hv; simp [hv]
    rw [← hD] at fD
    clear hD
    refine AW.seq fun _ k1 => AW.regionAt 3 [] Θ_ok fun B hB => ?_
    simp
    refine fF.use (by simp [G.av]) ?_
    refine hB _ ?_
    clear hB B
    refine vcOps_split 2 fun B hB => ?_
    simp
    refine fD.use (by simp [wF]) ?_
    refine hB _ ?_
    clear hB B
    simp
    refine k1 _ ?_
    refine AW.seq fun _ k1 => ?_
    refine AW.seq fun _ k2 => AW.region [] Θ_ok ?_
    simp
    refine k2 _ ?_
    refine AW.block ?_
    refine AW.loopI (X := Nat) (fun x => x ≤ D.length) (fun x => ⟨210, [(185, .int .i64 x), (184, .int .i64 D.length), (19, .ro true (bools D)), (2, .int .i64 W), (4, .rop [.ro false (ints g.owner), .ro false (rows g.next)])], h⟩) (fun x => D.length - x) 0 (Nat.zero_le _) (GStep.eq (by simp) (subH.refl _)) fun x hx => ?_
    refine AW.seq fun _ k2 => AW.region [] Θ_ok ?_
    simp
    refine k2 _ ?_
    by_cases hlt : x < D.length
    · have inc := wrap_succ (show x < 9223372036854775807 by omega)
      have hv : x < g.owner.length := by omega
      have q := vD x hlt hv
      refine AW.seq fun _ k2 => AW.cond true (by simp [Int.natCast_inj, hlt]) (fun _ => ?_) (fun h => by cases h)
      refine AW.skip ?_
      simp
      refine k2 _ ?_
      refine AW.seq fun _ k2 => ?_
      refine AW.block ?_
      refine AW.seq fun _ k3 => AW.region [] Θ_ok ?_
      simp
      refine k3 _ ?_
      by_cases ho : g.owner[x] = W
      · rw [decide_eq_true ho] at q
        refine AW.seq fun _ k3 => AW.draw [] 12 [] Θ_ok mixed (by kernel_rfl) (by kernel_rfl) ?_
        simp [vcDraw, vcPre, vcTail, callA, isAlloc, isLoad, effOp, obl, obA, mkOK, valA, hlt, hv, ho, q]
        refine k3 _ ?_
        refine AW.cond false (by simp [Int.natCast_inj]) (fun h => by cases h) (fun _ => ?_)
        refine AW.skip ?_
        simp
        refine k2 _ ?_
        refine AW.region [] Θ_ok ?_
        simp
        exact ⟨x + 1, by omega, by omega, GStep.eq (by simp [inc]) (subH.refl _)⟩
      · rw [decide_eq_false ho] at q
        refine AW.seq fun _ k3 => AW.draw [] 12 [] Θ_ok mixed (by kernel_rfl) (by kernel_rfl) ?_
        simp [vcDraw, vcPre, vcTail, callA, isAlloc, isLoad, effOp, obl, obA, mkOK, valA, hlt, hv, ho, q]
        refine k3 _ ?_
        refine AW.cond false (by simp [Int.natCast_inj, ho]) (fun h => by cases h) (fun _ => ?_)
        refine AW.skip ?_
        simp
        refine k2 _ ?_
        refine AW.region [] Θ_ok ?_
        simp
        exact ⟨x + 1, by omega, by omega, GStep.eq (by simp [inc]) (subH.refl _)⟩
    obtain rfl : x = D.length := by omega
    refine AW.seq fun _ k2 => AW.cond false (by simp [Int.natCast_inj]) (fun h => by cases h) (fun _ => ?_)
    refine AW.exit ?_
    simp
    refine k1 _ ?_
    refine AW.seq fun _ kr => AW.regionAt 8 [] Θ_ok fun B hB => ?_
    simp [eD]
    refine l9_awake.use (by simp) ?_
    refine hB _ ?_
    clear hB B
    simp
    refine kr _ (AW.ret ?_)
    simp [Try.f10]
    exact Fin.refl ⟨rfl, rfl⟩
  · have hb : 0 < heavyE g ∨ ¬ 0 < heavyE g ∧ ¬ mayE g = 0 ∨ ¬ 0 < heavyE g ∧ mayE g = 0 ∧ 300 < (la.length : Int) ∨ ¬ 0 < heavyE g ∧ mayE g = 0 ∧ ¬ 300 < (la.length : Int) ∧ 300 < (lt.length : Int) := by
      by_cases a1 : 0 < heavyE g
      · exact .inl a1
      · by_cases a2 : mayE g = 0
        · by_cases a3 : 300 < (la.length : Int)
          · exact .inr (.inr (.inl ⟨a1, a2, a3⟩))
          · exact .inr (.inr (.inr ⟨a1, a2, a3, by
              by_cases a4 : 300 < (lt.length : Int)
              · exact a4
              · exact absurd ⟨a1, a2, by omega, by omega⟩ hall⟩))
        · exact .inr (.inl ⟨a1, a2⟩)
    rcases hb with h1 | ⟨h1, h2⟩ | ⟨h1, h2, h3⟩ | ⟨h1, h2, h3, h4⟩
    · refine AW.seq fun _ k2 => AW.regionAt 2 [] Θ_ok fun B hB => ?_
      simp
      refine (l9_Heavy g hf).use (by simp [G.av]) ?_
      refine hB _ ?_
      clear hB B
      simp [h1]
      refine k2 _ ?_
      refine AW.cond true (by simp [Int.natCast_inj]) (fun _ => ?_) (fun h => by cases h)
      refine AW.seq fun _ kr => AW.region [] Θ_ok ?_
      simp
      refine (l9_awake).use (by simp [G.av]) ?_
      try simp
      refine kr _ (AW.ret ?_)
      simp [Try.f10]
      exact Fin.refl ⟨rfl, rfl⟩
    · refine AW.seq fun _ k2 => AW.regionAt 2 [] Θ_ok fun B hB => ?_
      simp
      refine (l9_Heavy g hf).use (by simp [G.av]) ?_
      refine hB _ ?_
      clear hB B
      refine vcOps_split 4 fun B hB => ?_
      simp [h1, Int.not_lt.1 h1]
      refine (r9_May g hf).use (by simp [G.av]) ?_
      refine hB _ ?_
      clear hB B
      simp [h2]
      refine k2 _ ?_
      refine AW.cond true (by simp [Int.natCast_inj]) (fun _ => ?_) (fun h => by cases h)
      refine AW.seq fun _ kr => AW.region [] Θ_ok ?_
      simp
      refine (l9_awake).use (by simp [G.av]) ?_
      try simp
      refine kr _ (AW.ret ?_)
      simp [Try.f10]
      exact Fin.refl ⟨rfl, rfl⟩
    · refine AW.seq fun _ k2 => AW.regionAt 2 [] Θ_ok fun B hB => ?_
      simp
      refine (l9_Heavy g hf).use (by simp [G.av]) ?_
      refine hB _ ?_
      clear hB B
      refine vcOps_split 4 fun B hB => ?_
      simp [h1, Int.not_lt.1 h1]
      refine (r9_May g hf).use (by simp [G.av]) ?_
      refine hB _ ?_
      clear hB B
      simp [h2, h3]
      refine k2 _ ?_
      refine AW.cond true (by simp [Int.natCast_inj]) (fun _ => ?_) (fun h => by cases h)
      refine AW.seq fun _ kr => AW.region [] Θ_ok ?_
      simp
      refine (l9_awake).use (by simp [G.av]) ?_
      try simp
      refine kr _ (AW.ret ?_)
      simp [Try.f10]
      exact Fin.refl ⟨rfl, rfl⟩
    · refine AW.seq fun _ k2 => AW.regionAt 2 [] Θ_ok fun B hB => ?_
      simp
      refine (l9_Heavy g hf).use (by simp [G.av]) ?_
      refine hB _ ?_
      clear hB B
      refine vcOps_split 4 fun B hB => ?_
      simp [h1, Int.not_lt.1 h1]
      refine (r9_May g hf).use (by simp [G.av]) ?_
      refine hB _ ?_
      clear hB B
      simp [h2, h3, Int.not_lt.1 h3, h4]
      refine k2 _ ?_
      refine AW.cond true (by simp [Int.natCast_inj]) (fun _ => ?_) (fun h => by cases h)
      refine AW.seq fun _ kr => AW.region [] Θ_ok ?_
      simp
      refine (l9_awake).use (by simp [G.av]) ?_
      try simp
      refine kr _ (AW.ret ?_)
      simp [Try.f10]
      exact Fin.refl ⟨rfl, rfl⟩
end Go.Par
