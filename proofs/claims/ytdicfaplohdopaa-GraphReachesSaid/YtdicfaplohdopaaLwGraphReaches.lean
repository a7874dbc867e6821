import Derived.Test.YtdicfaplohdopaaFnK
import Derived.Test.YtdicfaplohdopaaPlC
set_option linter.unusedSimpArgs false
set_option maxRecDepth 8000
namespace Go.Par
open Go.Proofs

theorem law_GraphReaches (g : G) (hg : g.wide) (la : List Bool) (_ : (DK.sl .bool).fits la) (lb : List Bool) (_ : (DK.sl .bool).fits lb) : Pure Try.prog 8 [g.av, .ro false (bools la), .ro false (bools lb)] (.bool true) := by
  have hf := hg.f
  intro h
  refine AC.body Θ_ok Try.func8 rfl rfl (Nat.le_of_ble_eq_true rfl) ?_
  refine AW.seq fun _ k1 => AW.region [] Θ_ok ?_
  simp
  refine k1 _ ?_
  refine AW.seq fun _ k1 => ?_
  by_cases hall : ¬ 0 < heavyE g ∧ mayE g = 0 ∧ la.length ≤ 300 ∧ lb.length ≤ 300
  · obtain ⟨h1, hm, h3, h4⟩ := hall
    have hn := (may_ok hm).2.1
    have hn3 := (may_ok hm).1
    refine AW.seq fun _ k2 => AW.regionAt 2 [] Θ_ok fun B hB => ?_
    simp
    refine (l9_Heavy g hf).use (by simp [G.av]) ?_
    refine hB _ ?_
    clear hB B
    refine vcOps_split 4 fun B hB => ?_
    simp [h1, Int.not_lt.1 h1]
    refine (r9_May g hf).use (by simp [G.av]) ?_
    refine hB _ ?_
    clear hB B
    simp [hm, show ¬ 300 < (la.length : Int) by omega, show ¬ 300 < (lb.length : Int) by omega, show (la.length : Int) ≤ 300 by omega, show (lb.length : Int) ≤ 300 by omega, h3, h4]
    refine k2 _ ?_
    refine AW.cond false (by simp [Int.natCast_inj]) (fun h => by cases h) (fun _ => ?_)
    refine AW.skip ?_
    simp
    refine k1 _ ?_
    obtain ⟨R, hR⟩ : ∃ R, R = reachL g la := ⟨_, rfl⟩
    obtain ⟨M, hM⟩ : ∃ M, M = reachL g lb := ⟨_, rfl⟩
    obtain ⟨B, hB⟩ : ∃ B, B = tab g.owner.length fun v => hasN la v || hasN lb v := ⟨_, rfl⟩
    obtain ⟨K, hK⟩ : ∃ K, K = reachL g B := ⟨_, rfl⟩
    have eR : R.length = g.owner.length := by rw [hR]; exact reachL_len _ _
    have eM : M.length = g.owner.length := by rw [hM]; exact reachL_len _ _
    have eB : B.length = g.owner.length := by rw [hB]; exact length_tab _ _
    have eK : K.length = g.owner.length := by rw [hK]; exact reachL_len _ _
    have sR : ∀ v (h : v < R.length), hasN la v = true → R[v] = true := by subst hR; intro v h q; exact reachL_start h q
    have tR : ∀ v (h : v < R.length) w (h' : w < R.length), R[v] = true → (w : Int) ∈ g.next.getD v [] → R[w] = true := by subst hR; intro v h w h' q; exact reachL_step h h' q
    have sK : ∀ v (h : v < K.length) (h1 : v < R.length) (h2 : v < M.length), K[v] = (R[v] || M[v]) := by
      subst hK; subst hR; subst hM
      intro v h h1 h2
      exact reachL_or (fun v hv => by rw [hB, hasN_tab hv]) h1 h2 h
    have fR := graph_Reach g hf la
    have fM := graph_Reach g hf lb
    have fK := graph_Reach g hf B
    have fRR := graph_Reach g hf R
    rw [reachA, if_pos hm] at fR fM fK fRR
    rw [hR, reachL_twice, ← hR] at fRR
    rw [← hR] at fR
    rw [← hM] at fM
    rw [← hK] at fK
    clear hR hM hK
    refine AW.seq fun _ k2 => AW.region [] Θ_ok ?_
    simp
    refine fR.use (by simp [G.av]) ?_
    refine k2 _ ?_
    refine AW.seq fun _ k1 => ?_
    refine AW.seq fun _ k2 => AW.region [] Θ_ok ?_
    simp [eR]
    refine k2 _ ?_
    refine AW.cond false (by simp [Int.natCast_inj]) (fun h => by cases h) (fun _ => ?_)
    refine AW.skip ?_
    simp
    refine k1 _ ?_
    refine AW.seq fun _ k1 => ?_
    refine AW.seq fun _ k2 => AW.region [] Θ_ok ?_
    simp
    refine k2 _ ?_
    refine AW.block ?_
    refine AW.loopI (X := Nat) (fun x => x ≤ R.length) (fun x => ⟨149, [(46, .int .i64 x), (45, .int .i64 R.length), (7, .ro true (bools R)), (3, .rop [.ro false (ints g.owner), .ro false (rows g.next)]), (1, .ro false (bools la)), (2, .ro false (bools lb))], h⟩) (fun x => R.length - x) 0 (Nat.zero_le _) (GStep.eq (by simp) (subH.refl _)) fun x hx => ?_
    refine AW.seq fun _ k2 => AW.region [] Θ_ok ?_
    simp
    refine k2 _ ?_
    by_cases hlt : x < R.length
    · have inc := wrap_succ (show x < 9223372036854775807 by omega)
      have hv : x < g.next.length := by omega
      have hlr := hf.row _ (List.getElem_mem hv)
      obtain ⟨_, hr⟩ := may_row hm (show x < g.owner.length by omega) hv
      have q1 := sR x hlt
      have ea : (decide (0 ≤ (x : Int)) && hasI la x) = hasN la x := by simp
      have sa := r9_Has la x
      rw [ea] at sa
      refine AW.seq fun _ k2 => AW.cond true (by simp [Int.natCast_inj, hlt]) (fun _ => ?_) (fun h => by cases h)
      refine AW.skip ?_
      simp
      refine k2 _ ?_
      refine AW.seq fun _ k2 => ?_
      refine AW.block ?_
      refine AW.seq fun _ k3 => AW.region [] Θ_ok ?_
      simp
      refine k3 _ ?_
      refine AW.seq fun _ k3 => ?_
      refine AW.seq fun _ k4 => AW.regionAt 3 [] Θ_ok fun B hB => ?_
      simp
      refine sa.use (by simp) ?_
      have q2 : hasN la x = false ∧ True ∨ hasN la x = true ∧ R[x] = true := by
        cases e : hasN la x
        · exact .inl ⟨rfl, trivial⟩
        · exact .inr ⟨rfl, q1 e⟩
      rcases q2 with ⟨q2, q3⟩ | ⟨q2, q3⟩
      all_goals
        refine hB _ ?_
        clear hB B
        simp [q2, hlt, q3]
        refine k4 _ ?_
        refine AW.cond false (by simp [Int.natCast_inj]) (fun h => by cases h) (fun _ => ?_)
        refine AW.skip ?_
        simp
        refine k3 _ ?_
        refine AW.seq fun _ k3 => AW.region [] Θ_ok ?_
        simp [hv]
        refine k3 _ ?_
        refine AW.block ?_
        refine AW.loopI (X := Nat) (fun y => y ≤ g.next[x].length) (fun y => ⟨149, [(65, .int .i64 y), (64, .int .i64 g.next[x].length), (63, .ro false (ints g.next[x])), (8, .int .i64 x), (46, .int .i64 x), (45, .int .i64 R.length), (7, .ro true (bools R)), (3, .rop [.ro false (ints g.owner), .ro false (rows g.next)]), (1, .ro false (bools la)), (2, .ro false (bools lb))], h⟩) (fun y => g.next[x].length - y) 0 (Nat.zero_le _) (GStep.eq (by simp) (subH.refl _)) fun y hy => ?_
        refine AW.seq fun _ k3 => AW.region [] Θ_ok ?_
        simp
        refine k3 _ ?_
        by_cases hly : y < g.next[x].length
        · obtain ⟨w, hw⟩ : ∃ w : Nat, g.next[x][y] = (w : Int) := ⟨g.next[x][y].toNat, by have := (hr _ (List.getElem_mem hly)).1; omega⟩
          have hwn : w < R.length := by have := (hr _ (List.getElem_mem hly)).2; omega
          have incy := wrap_succ (show y < 9223372036854775807 by omega)
          have tw := tR x hlt w hwn
          rw [List.getD_eq_getElem?_getD, List.getElem?_eq_getElem hv, Option.getD_some, ← hw] at tw
          have tw2 : R[x] = false ∧ True ∨ R[x] = true ∧ R[w] = true := by
            cases e : R[x]
            · exact .inl ⟨rfl, trivial⟩
            · exact .inr ⟨rfl, tw e (List.getElem_mem hly)⟩
          refine AW.seq fun _ k3 => AW.cond true (by simp [Int.natCast_inj, hly]) (fun _ => ?_) (fun h => by cases h)
          refine AW.skip ?_
          simp
          refine k3 _ ?_
          refine AW.seq fun _ k3 => ?_
          refine AW.block ?_
          refine AW.seq fun _ k4 => AW.region [] Θ_ok ?_
          simp [hly, hw]
          refine k4 _ ?_
          rcases tw2 with ⟨tw2, tw3⟩ | ⟨tw2, tw3⟩
          all_goals
            refine AW.seq fun _ k4 => AW.region [] Θ_ok ?_
            simp [hlt, hwn, tw2, tw3]
            refine k4 _ ?_
            refine AW.cond false (by simp [Int.natCast_inj]) (fun h => by cases h) (fun _ => ?_)
            refine AW.skip ?_
            simp
            refine k3 _ ?_
            refine AW.region [] Θ_ok ?_
            simp
            exact ⟨y + 1, by omega, by omega, GStep.eq (by simp [incy]) (subH.refl _)⟩
        · obtain rfl : y = g.next[x].length := by omega
          refine AW.seq fun _ k3 => AW.cond false (by simp [Int.natCast_inj]) (fun h => by cases h) (fun _ => ?_)
          refine AW.exit ?_
          simp
          refine k2 _ ?_
          refine AW.region [] Θ_ok ?_
          simp
          exact ⟨x + 1, by omega, by omega, GStep.eq (by simp [inc]) (subH.refl _)⟩
    · obtain rfl : x = R.length := by omega
      refine AW.seq fun _ k2 => AW.cond false (by simp [Int.natCast_inj]) (fun h => by cases h) (fun _ => ?_)
      refine AW.exit ?_
      simp
      refine k1 _ ?_
      refine AW.seq fun _ k1 => AW.region [84] Θ_ok ?_
      simp
      refine ⟨by omega, fun o ho => k1 _ ?_⟩
      rw [replicate_tab, flat_tab (fun _ _ => rfl)]
      refine AW.seq fun _ k1 => ?_
      refine AW.seq fun _ k2 => AW.region [] Θ_ok ?_
      simp
      refine k2 _ ?_
      refine AW.block ?_
      refine AW.loopI (X := Nat) (fun x => x ≤ R.length) (fun x => ⟨149, [(87, .int .i64 x), (86, .int .i64 R.length), (11, .mu o R.length), (7, .ro true (bools R)), (3, .rop [.ro false (ints g.owner), .ro false (rows g.next)]), (1, .ro false (bools la)), (2, .ro false (bools lb))],
        upd h o (some ⟨tab R.length fun i => .bool (decide (i < x) && (hasN la i || hasN lb i)), 4, 1, true⟩)⟩) (fun x => R.length - x) 0 (Nat.zero_le _) (GStep.eq (by simp) ?_) fun x hx => ?_
      · simp; exact subH.refl _
      refine AW.seq fun _ k2 => AW.region [] Θ_ok ?_
      simp
      refine k2 _ ?_
      by_cases hlt : x < R.length
      · have inc := wrap_succ (show x < 9223372036854775807 by omega)
        have ea : (decide (0 ≤ (x : Int)) && hasI la x) = hasN la x := by simp
        have eb : (decide (0 ≤ (x : Int)) && hasI lb x) = hasN lb x := by simp
        have sa := r9_Has la x
        have sb := r9_Has lb x
        rw [ea] at sa
        rw [eb] at sb
        have hset : (tab R.length fun i => AV.bool (decide (i < x) && (hasN la i || hasN lb i))).set x (.bool (hasN la x || hasN lb x)) = tab R.length fun i => .bool (decide (i < x + 1) && (hasN la i || hasN lb i)) := by
          rw [set_tab]
          refine tab_congr fun i hi => ?_
          by_cases e : i = x
          · subst e; simp
          · by_cases h1 : i < x
            · simp [e, h1, show i < x + 1 by omega]
            · simp [e, h1, show ¬ i < x + 1 by omega]
        refine AW.seq fun _ k2 => AW.cond true (by simp [Int.natCast_inj, hlt]) (fun _ => ?_) (fun h => by cases h)
        refine AW.skip ?_
        simp
        refine k2 _ ?_
        refine AW.seq fun _ k2 => ?_
        refine AW.block ?_
        refine AW.seq fun _ k3 => AW.region [] Θ_ok ?_
        simp
        refine k3 _ ?_
        refine AW.regionAt 5 [] Θ_ok fun B hB => ?_
        simp
        refine sa.use (by simp) ?_
        cases e : hasN la x
        · rw [e, Bool.false_or] at hset
          refine hB _ ?_
          clear hB B
          refine vcOps_split 4 fun B hB => ?_
          simp
          refine sb.use (by simp) ?_
          refine hB _ ?_
          clear hB B
          simp [hlt]
          refine ⟨by omega, k2 _ ?_⟩
          refine AW.region [] Θ_ok ?_
          simp
          exact ⟨x + 1, by omega, by omega, GStep.eq (by simp [inc]) (subH_of_eq (congrArg (fun c => upd h o (some ⟨c, 4, 1, true⟩)) hset))⟩
        · rw [e, Bool.true_or] at hset
          refine hB _ ?_
          clear hB B
          simp [hlt]
          refine ⟨by omega, k2 _ ?_⟩
          refine AW.region [] Θ_ok ?_
          simp
          exact ⟨x + 1, by omega, by omega, GStep.eq (by simp [inc]) (subH_of_eq (congrArg (fun c => upd h o (some ⟨c, 4, 1, true⟩)) hset))⟩
      · obtain rfl : x = R.length := by omega
        refine AW.seq fun _ k2 => AW.cond false (by simp [Int.natCast_inj]) (fun h => by cases h) (fun _ => ?_)
        refine AW.exit ?_
        simp
        refine k1 _ ?_
        refine AW.freeze 11 true rfl (upd_same _ _ _) (fun _ => rfl) rfl (by simp) (ones_bools _ _) ?_
        simp only [upd_upd_none ho]
        have hBB : (tab R.length fun i => AV.bool (decide (i < R.length) && (hasN la i || hasN lb i))) = bools B := by
          rw [hB, eR]; simp only [bools, map_tab]
          exact tab_congr fun i hi => by simp [hi]
        rw [hBB]
        refine AW.seq fun _ k1 => AW.draw [] 8 [] Θ_ok mixed (by kernel_rfl) (by kernel_rfl) ?_
        simp [vcDraw, vcPre, vcAllocs, vcTail, callA, isAlloc, isLoad, effOp, obl, obA]
        refine ⟨_, fM.wk (by simp [G.av]), ?_⟩
        try simp
        refine ⟨_, fK.wk (by simp [G.av]), ?_⟩
        try simp
        refine k1 _ ?_
        refine AW.seq fun _ k1 => ?_
        refine AW.seq fun _ k2 => AW.region [] Θ_ok ?_
        simp [eM, eK, eR]
        refine k2 _ ?_
        refine AW.cond false (by simp [Int.natCast_inj]) (fun h => by cases h) (fun _ => ?_)
        refine AW.skip ?_
        simp
        refine k1 _ ?_
        refine AW.seq fun _ k1 => ?_
        refine AW.seq fun _ k2 => AW.region [] Θ_ok ?_
        simp
        refine k2 _ ?_
        refine AW.block ?_
        refine AW.loopI (X := Nat) (fun x => x ≤ R.length) (fun x => ⟨149, [(122, .int .i64 x), (121, .int .i64 R.length), (13, .ro true (bools M)), (14, .ro true (bools K)), (7, .ro true (bools R)), (3, .rop [.ro false (ints g.owner), .ro false (rows g.next)])], h⟩) (fun x => R.length - x) 0 (Nat.zero_le _) (GStep.eq (by simp) (subH.refl _)) fun x hx => ?_
        refine AW.seq fun _ k2 => AW.region [] Θ_ok ?_
        simp
        refine k2 _ ?_
        by_cases hlt : x < R.length
        · have inc := wrap_succ (show x < 9223372036854775807 by omega)
          have lK : x < K.length := by omega
          have lM : x < M.length := by omega
          have q := sK x lK hlt lM
          refine AW.seq fun _ k2 => AW.cond true (by simp [Int.natCast_inj, hlt]) (fun _ => ?_) (fun h => by cases h)
          refine AW.skip ?_
          simp
          refine k2 _ ?_
          refine AW.seq fun _ k2 => ?_
          refine AW.block ?_
          refine AW.seq fun _ k3 => AW.region [] Θ_ok ?_
          simp
          refine k3 _ ?_
          cases e : R[x]
          all_goals
            refine AW.seq fun _ k3 => AW.draw [] 15 [] Θ_ok mixed (by kernel_rfl) (by kernel_rfl) ?_
            simp [vcDraw, vcPre, vcAllocs, vcTail, callA, isAlloc, isLoad, effOp, obl, obA, hlt, lK, lM, q, e]
            refine k3 _ ?_
            refine AW.cond false (by simp [Int.natCast_inj]) (fun h => by cases h) (fun _ => ?_)
            refine AW.skip ?_
            simp
            refine k2 _ ?_
            refine AW.region [] Θ_ok ?_
            simp
            exact ⟨x + 1, by omega, by omega, GStep.eq (by simp [inc]) (subH.refl _)⟩
        · obtain rfl : x = R.length := by omega
          refine AW.seq fun _ k2 => AW.cond false (by simp [Int.natCast_inj]) (fun h => by cases h) (fun _ => ?_)
          refine AW.exit ?_
          simp
          refine k1 _ ?_
          refine AW.seq fun _ kr => AW.regionAt 5 [] Θ_ok fun B hB => ?_
          simp
          refine fRR.use (by simp [G.av]) ?_
          try simp
          refine (r9_SameRow R R (by omega)).use (by simp) ?_
          refine hB _ ?_
          clear hB B
          simp
          refine l9_awake.use (by simp) ?_
          try simp
          refine kr _ (AW.ret ?_)
          simp [Try.f8]
          exact Fin.refl ⟨rfl, rfl⟩
  · have hb : 0 < heavyE g ∨ ¬ 0 < heavyE g ∧ ¬ mayE g = 0 ∨ ¬ 0 < heavyE g ∧ mayE g = 0 ∧ 300 < (la.length : Int) ∨ ¬ 0 < heavyE g ∧ mayE g = 0 ∧ ¬ 300 < (la.length : Int) ∧ 300 < (lb.length : Int) := by
      by_cases a1 : 0 < heavyE g
      · exact .inl a1
      · by_cases a2 : mayE g = 0
        · by_cases a3 : 300 < (la.length : Int)
          · exact .inr (.inr (.inl ⟨a1, a2, a3⟩))
          · exact .inr (.inr (.inr ⟨a1, a2, a3, by
              by_cases a4 : 300 < (lb.length : Int)
              · exact a4
              · exact absurd ⟨a1, a2, by omega, by omega⟩ hall⟩))
        · exact .inr (.inl ⟨a1, a2⟩)
    rcases hb with h1 | ⟨h1, h2⟩ | ⟨h1, h2, h3⟩ | ⟨h1, h2, h3, h4⟩
    · refine AW.seq fun _ k2 => AW.regionAt 2 [] Θ_ok fun B hB => ?_
      simp
      refine (l9_Heavy g hf).use (by simp [G.av]) ?_
      refine hB _ ?_
      clear hB B
      simp [h1]
      refine k2 _ ?_
      refine AW.cond true (by simp [Int.natCast_inj]) (fun _ => ?_) (fun h => by cases h)
      refine AW.seq fun _ kr => AW.region [] Θ_ok ?_
      simp
      refine (l9_awake).use (by simp [G.av]) ?_
      try simp
      refine kr _ (AW.ret ?_)
      simp [Try.f8]
      exact Fin.refl ⟨rfl, rfl⟩
    · refine AW.seq fun _ k2 => AW.regionAt 2 [] Θ_ok fun B hB => ?_
      simp
      refine (l9_Heavy g hf).use (by simp [G.av]) ?_
      refine hB _ ?_
      clear hB B
      refine vcOps_split 4 fun B hB => ?_
      simp [h1, Int.not_lt.1 h1]
      refine (r9_May g hf).use (by simp [G.av]) ?_
      refine hB _ ?_
      clear hB B
      simp [h2]
      refine k2 _ ?_
      refine AW.cond true (by simp [Int.natCast_inj]) (fun _ => ?_) (fun h => by cases h)
      refine AW.seq fun _ kr => AW.region [] Θ_ok ?_
      simp
      refine (l9_awake).use (by simp [G.av]) ?_
      try simp
      refine kr _ (AW.ret ?_)
      simp [Try.f8]
      exact Fin.refl ⟨rfl, rfl⟩
    · refine AW.seq fun _ k2 => AW.regionAt 2 [] Θ_ok fun B hB => ?_
      simp
      refine (l9_Heavy g hf).use (by simp [G.av]) ?_
      refine hB _ ?_
      clear hB B
      refine vcOps_split 4 fun B hB => ?_
      simp [h1, Int.not_lt.1 h1]
      refine (r9_May g hf).use (by simp [G.av]) ?_
      refine hB _ ?_
      clear hB B
      simp [h2, h3]
      refine k2 _ ?_
      refine AW.cond true (by simp [Int.natCast_inj]) (fun _ => ?_) (fun h => by cases h)
      refine AW.seq fun _ kr => AW.region [] Θ_ok ?_
      simp
      refine (l9_awake).use (by simp [G.av]) ?_
      try simp
      refine kr _ (AW.ret ?_)
      simp [Try.f8]
      exact Fin.refl ⟨rfl, rfl⟩
    · refine AW.seq fun _ k2 => AW.regionAt 2 [] Θ_ok fun B hB => ?_
      simp
      refine (l9_Heavy g hf).use (by simp [G.av]) ?_
      refine hB _ ?_
      clear hB B
      refine vcOps_split 4 fun B hB => ?_
      simp [h1, Int.not_lt.1 h1]
      refine (r9_May g hf).use (by simp [G.av]) ?_
      refine hB _ ?_
      clear hB B
      simp [h2, h3, Int.not_lt.1 h3, h4]
      refine k2 _ ?_
      refine AW.cond true (by simp [Int.natCast_inj]) (fun _ => ?_) (fun h => by cases h)
      refine AW.seq fun _ kr => AW.region [] Θ_ok ?_
      simp
      refine (l9_awake).use (by simp [G.av]) ?_
      try simp
      refine kr _ (AW.ret ?_)
      simp [Try.f8]
      exact Fin.refl ⟨rfl, rfl⟩
end Go.Par
