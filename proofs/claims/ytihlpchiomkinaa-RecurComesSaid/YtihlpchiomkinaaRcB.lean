import Derived.Test.YtihlpchiomkinaaRcA
set_option linter.unusedSimpArgs false
set_option linter.unusedVariables false
set_option maxRecDepth 8000
set_option maxHeartbeats 1000000
namespace Go.Par
open Go.Proofs

theorem recur_Stay (g : G) (hf : g.fits) (who : Int) (s : List Bool) : Pure Try.prog 16 [g.av, .int .i64 who, .ro false (bools s)] (stA g who s) := by
  have sF := pre_Force g hf who []
  intro h
  refine AC.body Θ_ok Try.func16 rfl rfl (Nat.le_of_ble_eq_true rfl) ?_
  refine AW.seq fun _ k1 => AW.region [] Θ_ok ?_
  simp
  refine k1 _ ?_
  by_cases hok : okP g who
  · have hm := hok.1
    have hw := hok.2
    have hok2 : okForce g who := hok
    have hok3 : okP g (1 - who) := ⟨hm, by omega⟩
    rw [forceA, if_pos hok2] at sF
    have hw1 : IntKind.i64.wrap (1 - who) = 1 - who := wrap_id (by omega) (by omega)
    have sN := pre_Not g s hf.owner
    have sR := recur_Again g hf (1 - who) (notL g s)
    rw [agA, if_pos hok3] at sR
    have sN2 := pre_Not g (agL g (1 - who) (notL g s)) hf.owner
    have hfin : stA g who s = .ro true (bools (notL g (agL g (1 - who) (notL g s)))) := if_pos hok
    generalize forceL g who [] = F0 at *
    generalize notL g (agL g (1 - who) (notL g s)) = K at *
    generalize agL g (1 - who) (notL g s) = R at *
    generalize notL g s = S at *
    refine AW.seq fun _ k1 => ?_
    refine AW.seq fun _ k2 => AW.regionAt 3 [] Θ_ok fun B hB => ?_
    simp
    refine sF.use (by simp [G.av]) ?_
    refine hB _ ?_
    clear hB B
    simp
    refine k2 _ ?_
    refine AW.cond false (by simp [Int.natCast_inj]) (fun h => by cases h) (fun _ => ?_)
    refine AW.skip ?_
    simp
    refine k1 _ ?_
    refine AW.seq fun _ kr => AW.draw [] 10 [] Θ_ok mixed (by kernel_rfl) (by kernel_rfl) ?_
    refine vcDraw_split 7 fun B hB => ?_
    simp [vcPre, vcTail, callA, isAlloc, isLoad, effOp, obl, obA, mkOK, valA, hw1]
    refine ⟨_, sN.wk (by simp [G.av]), ?_⟩
    refine hB _ _ _ ?_
    clear hB B
    refine vcPre_split 1 fun B hB => ?_
    simp [vcPre, vcTail, callA, isAlloc, isLoad, effOp, obl, obA, mkOK, valA]
    refine ⟨_, sR.wk (by simp [G.av]), ?_⟩
    refine hB _ _ _ ?_
    clear hB B
    refine vcPre_split 1 fun B hB => ?_
    simp [vcPre, vcTail, callA, isAlloc, isLoad, effOp, obl, obA, mkOK, valA]
    refine ⟨_, sN2.wk (by simp [G.av]), ?_⟩
    refine hB _ _ _ ?_
    clear hB B
    simp [vcPre, vcTail, callA, isAlloc, isLoad, effOp, obl, obA, mkOK, valA]
    refine kr _ (AW.ret ?_)
    simp [Try.f16]
    exact Fin.refl ⟨hfin.symm, rfl⟩
  · have hok2 : ¬ okForce g who := hok
    rw [forceA, if_neg hok2] at sF
    have hfin : stA g who s = .nils := if_neg hok
    refine AW.seq fun _ k1 => ?_
    refine AW.seq fun _ k2 => AW.regionAt 3 [] Θ_ok fun B hB => ?_
    simp
    refine sF.use (by simp [G.av]) ?_
    refine hB _ ?_
    clear hB B
    simp
    refine k2 _ ?_
    refine AW.cond true (by simp [Int.natCast_inj]) (fun _ => ?_) (fun h => by cases h)
    refine AW.seq fun _ kr => AW.region [] Θ_ok ?_
    simp
    refine kr _ (AW.ret ?_)
    simp [Try.f16]
    exact Fin.refl ⟨hfin.symm, rfl⟩

theorem l14_light (g : G) (hf : g.fits) (s : List Bool) : Pure Try.prog 12 [g.av, .ro false (bools s)] (.bool (light12 g s)) := by
  unfold light12
  intro h
  refine AC.body Θ_ok Try.func12 rfl rfl (Nat.le_of_ble_eq_true rfl) ?_
  refine AW.seq fun _ k1 => AW.region [] Θ_ok ?_
  simp
  refine k1 _ ?_
  by_cases h1 : heavyE g = 0
  · by_cases h2 : s.length ≤ 300
    · have h3 : (s.length : Int) ≤ 300 := by omega
      refine AW.seq fun _ k1 => AW.regionAt 2 [] Θ_ok fun B hB => ?_
      simp
      refine (l9_Heavy g hf).use (by simp [G.av]) ?_
      refine hB _ ?_
      clear hB B
      simp [h1, h2, h3]
      refine k1 _ (AW.ret ?_)
      simp [Try.f12]
      exact Fin.refl ⟨by simp [h1, h2], rfl⟩
    · have h3 : ¬ (s.length : Int) ≤ 300 := by omega
      refine AW.seq fun _ k1 => AW.regionAt 2 [] Θ_ok fun B hB => ?_
      simp
      refine (l9_Heavy g hf).use (by simp [G.av]) ?_
      refine hB _ ?_
      clear hB B
      simp [h1, h2, h3]
      refine k1 _ (AW.ret ?_)
      simp [Try.f12]
      exact Fin.refl ⟨by simp [h1, h2], rfl⟩
  · refine AW.seq fun _ k1 => AW.regionAt 2 [] Θ_ok fun B hB => ?_
    simp
    refine (l9_Heavy g hf).use (by simp [G.av]) ?_
    refine hB _ ?_
    clear hB B
    simp [h1]
    refine k1 _ (AW.ret ?_)
    simp [Try.f12]
    exact Fin.refl ⟨by simp [h1], rfl⟩

def recR (g : G) (who : Int) (goal Y : List Bool) (A : List Int) (v : Nat) : Int := if hasN goal v = false ∨ ow g v ≠ who then A.getD v 0 else ((nx g v).find? (kpred Y)).getD (A.getD v 0)
def recsR (g : G) (who : Int) (goal Y : List Bool) (A : List Int) : List Int := tab g.owner.length (recR g who goal Y A)
def recX (g : G) (who : Int) (goal Y : List Bool) (A : List Int) (x : Nat) : List Int := tab g.owner.length fun v => if v < x then recR g who goal Y A v else A.getD v 0
noncomputable def goalR (g : G) (who : Int) (s : List Bool) : List Bool := andL g s (forceL g who (agL g who s))
noncomputable def recL (g : G) (who : Int) (s : List Bool) : List Int := recsR g who (goalR g who s) (agL g who s) (awayL g who (goalR g who s))
noncomputable def recA (g : G) (who : Int) (s : List Bool) : AV := if okP g who then .ro true (ints (recL g who s)) else .nils
theorem recX_len (g : G) (who : Int) (goal Y : List Bool) (A : List Int) (x : Nat) : (recX g who goal Y A x).length = g.owner.length := length_tab _ _
theorem recX_get {g : G} {who : Int} {goal Y : List Bool} {A : List Int} {x : Nat} (hx : x < g.owner.length) : (recX g who goal Y A x).getD x 0 = A.getD x 0 := by
  rw [recX, getD_tab, if_pos hx, if_neg (Nat.lt_irrefl x)]
theorem recX_set (g : G) (who : Int) (goal Y : List Bool) (A : List Int) (x : Nat) : (recX g who goal Y A x).set x (recR g who goal Y A x) = recX g who goal Y A (x + 1) := by
  rw [recX, set_tab]
  refine tab_congr fun v _ => ?_
  by_cases e : v = x
  · subst e; simp
  · by_cases h : v < x
    · simp [e, h, show v < x + 1 by omega]
    · simp [e, h, show ¬ v < x + 1 by omega]
theorem recX_skip {g : G} {who : Int} {goal Y : List Bool} {A : List Int} {x : Nat} (h : recR g who goal Y A x = A.getD x 0) : recX g who goal Y A (x + 1) = recX g who goal Y A x := by
  refine tab_congr fun v _ => ?_
  by_cases e : v = x
  · subst e; simp [h]
  · by_cases h : v < x
    · simp [h, show v < x + 1 by omega]
    · simp [h, show ¬ v < x + 1 by omega]
theorem awayL_len (g : G) (who : Int) (s : List Bool) : (awayL g who s).length = g.owner.length := length_tab _ _
theorem goalR_len (g : G) (who : Int) (s : List Bool) : (goalR g who s).length = g.owner.length := len_and _ _ _

theorem recur_Ways (g : G) (hf : g.fits) (who : Int) (s : List Bool) : Pure Try.prog 25 [g.av, .int .i64 who, .ro false (bools s)] (recA g who s) := by
  have sA := recur_Again g hf who s
  intro h
  refine AC.body Θ_ok Try.func25 rfl rfl (Nat.le_of_ble_eq_true rfl) ?_
  refine AW.seq fun _ k1 => AW.region [] Θ_ok ?_
  simp
  refine k1 _ ?_
  by_cases hok : okP g who
  · rw [agA, if_pos hok] at sA
    have hfin : recA g who s = .ro true (ints (recsR g who (goalR g who s) (agL g who s) (awayL g who (goalR g who s)))) := if_pos hok
    have hm := hok.1
    have hok2 : okForce g who := hok
    have hn3 := (may_ok hm).1
    have hn2 := (may_ok hm).2.1
    have sF := pre_Force g hf who (agL g who s)
    rw [forceA, if_pos hok2] at sF
    have sN := pre_And g s (forceL g who (agL g who s)) hf.owner
    rw [show andL g s (forceL g who (agL g who s)) = goalR g who s from rfl] at sN
    have lG := goalR_len g who s
    have lY : (agL g who s).length = g.owner.length := ag_len hm s
    have lA := awayL_len g who (goalR g who s)
    have sW := attract_WaysM g hf who (goalR g who s) (by rw [lG]; omega) hok h
    have eX : recX g who (goalR g who s) (agL g who s) (awayL g who (goalR g who s)) 0 = awayL g who (goalR g who s) := by
      refine (tab_ext lA fun i hi => ?_).symm
      rw [if_neg (Nat.not_lt_zero _)]
      simp [hi, lA]
    generalize goalR g who s = Go at *
    generalize agL g who s = Y at *
    generalize awayL g who Go = A at *
    generalize forceL g who Y = F0 at *
    refine AW.seq fun _ k1 => AW.regionAt 4 [] Θ_ok fun B hB => ?_
    simp
    refine sA.use (by simp [G.av]) ?_
    refine hB _ ?_
    clear hB B
    simp
    refine k1 _ ?_
    refine AW.seq fun _ k1 => ?_
    refine AW.seq fun _ k2 => AW.region [] Θ_ok ?_
    simp
    refine k2 _ ?_
    refine AW.cond false (by simp [Int.natCast_inj]) (fun h => by cases h) (fun _ => ?_)
    refine AW.skip ?_
    simp
    refine k1 _ ?_
    refine AW.seq fun _ k1 => AW.draw [] 8 [] Θ_ok mixed (by kernel_rfl) (by kernel_rfl) ?_
    refine vcDraw_split 6 fun B hB => ?_
    simp [vcPre, vcTail, callA, isAlloc, isLoad, effOp, obl, obA, mkOK, valA]
    refine ⟨_, sF.wk (by simp [G.av]), ?_⟩
    refine hB _ _ _ ?_
    clear hB B
    refine vcPre_split 1 fun B hB => ?_
    simp [vcPre, vcTail, callA, isAlloc, isLoad, effOp, obl, obA, mkOK, valA]
    refine ⟨_, sN.wk (by simp [G.av]), ?_⟩
    refine hB _ _ _ ?_
    clear hB B
    simp [vcPre, vcTail, callA, isAlloc, isLoad, effOp, obl, obA, mkOK, valA]
    refine k1 _ ?_
    refine AW.seq fun _ k1 => AW.regionAt 4 [] Θ_ok fun B hB => ?_
    simp
    refine (sW.wk (by simp [G.av])).mono ?_
    rintro r h' ⟨o, ho, rfl, rfl⟩
    rw [← eX]
    refine hB _ ?_
    clear hB B
    simp
    refine k1 _ ?_
    refine AW.seq fun _ k1 => ?_
    refine AW.seq fun _ k2 => AW.region [] Θ_ok ?_
    simp
    refine k2 _ ?_
    refine AW.block ?_
    refine AW.loopI (X := Nat) (fun x => x ≤ g.owner.length) (fun x => ⟨70, [(1, .int .i64 who), (3, .rop [.ro false (ints g.owner), .ro false (rows g.next)]), (7, .ro true (bools Y)), (8, .ro true (bools Go)), (9, .mu o g.owner.length), (31, .ro true (bools Go)), (32, .int .i64 g.owner.length), (33, .int .i64 x)], upd h o (some (obI (recX g who Go Y A x)))⟩) (fun x => g.owner.length - x) 0 (Nat.zero_le _) (GStep.eq (by simp [lG]) (subH.refl _)) fun x hx => ?_
    refine AW.seq fun _ k2 => AW.region [] Θ_ok ?_
    simp
    refine k2 _ ?_
    by_cases hlt : x < g.owner.length
    · have inc := wrap_succ (show x < 9223372036854775807 by omega)
      have hltG : x < Go.length := by omega
      have hltn : x < g.next.length := by omega
      have lX := recX_len g who Go Y A x
      have sX := recX_set g who Go Y A x
      have kX := recX_skip (g := g) (who := who) (goal := Go) (Y := Y) (A := A) (x := x)
      have en : nx g x = g.next[x] := by simp [nx, hltn]
      have eo : ow g x = g.owner[x] := by simp [ow, hlt]
      have eg : hasN Go x = Go[x] := by simp [hasN, hltG]
      have hw : recR g who Go Y A x = if Go[x] = false ∨ g.owner[x] ≠ who then A.getD x 0 else (g.next[x].find? (kpred Y)).getD (A.getD x 0) := by
        unfold recR; rw [en, eo, eg]
      have hnx := (nx_ok hm hlt).2
      rw [en] at hnx
      have hlen : g.next[x].length ≤ 17592186044416 := hf.row _ (List.getElem_mem _)
      generalize hWs : recX g who Go Y A (x + 1) = Ws at *
      generalize hW1 : recX g who Go Y A x = W at *
      generalize A.getD x 0 = a0 at *
      generalize recR g who Go Y A x = wv at *
      refine AW.seq fun _ k2 => AW.cond true (by simp [Int.natCast_inj, hlt]) (fun _ => ?_) (fun h => by cases h)
      refine AW.skip ?_
      simp
      refine k2 _ ?_
      refine AW.seq fun _ k2 => ?_
      refine AW.block ?_
      refine AW.seq fun _ k3 => AW.region [] Θ_ok ?_
      simp [hltG]
      refine k3 _ ?_
      refine AW.seq fun _ k3 => ?_
      cases hg : Go[x]
      · rw [if_pos (.inl hg)] at hw
        refine AW.seq fun _ k4 => AW.region [] Θ_ok ?_
        simp [hlt, hg]
        refine k4 _ ?_
        refine AW.cond true (by simp [Int.natCast_inj, hg]) (fun _ => ?_) (fun h => by cases h)
        refine AW.exit ?_
        simp
        refine k2 _ ?_
        refine AW.region [] Θ_ok ?_
        simp
        exact ⟨x + 1, by omega, by omega, GStep.eq (by simp [inc]) (subH_of_eq (by rw [hWs, kX hw]))⟩
      · by_cases ho1 : g.owner[x] = who
        · rw [if_neg (fun q => q.elim (fun q => by rw [hg] at q; cases q) (fun q => q ho1))] at hw
          refine AW.seq fun _ k4 => AW.region [] Θ_ok ?_
          simp [hlt, hg, ho1]
          refine k4 _ ?_
          refine AW.cond false (by simp [Int.natCast_inj, ho1]) (fun h => by cases h) (fun _ => ?_)
          refine AW.skip ?_
          simp
          refine k3 _ ?_
          refine AW.seq fun _ k3 => AW.region [] Θ_ok ?_
          simp [hltn]
          refine k3 _ ?_
          refine AW.block ?_
          refine AW.loopI (X := Nat) (fun y => y ≤ g.next[x].length ∧ ∀ j (h : j < g.next[x].length), j < y → kpred Y g.next[x][j] = false) (fun y => ⟨70, [(1, .int .i64 who), (3, .rop [.ro false (ints g.owner), .ro false (rows g.next)]), (7, .ro true (bools Y)), (8, .ro true (bools Go)), (9, .mu o g.owner.length), (10, .int .i64 x), (31, .ro true (bools Go)), (32, .int .i64 g.owner.length), (33, .int .i64 x), (53, .ro false (ints g.next[x])), (54, .int .i64 g.next[x].length), (55, .int .i64 y)], upd h o (some (obI W))⟩) (fun y => g.next[x].length - y) 0 ⟨Nat.zero_le _, fun j _ h => by omega⟩ (GStep.eq (by simp) (subH.refl _)) fun y hy => ?_
          obtain ⟨hy, hno⟩ := hy
          refine AW.seq fun _ k4 => AW.region [] Θ_ok ?_
          simp
          refine k4 _ ?_
          by_cases hlt2 : y < g.next[x].length
          · have inc2 := wrap_succ (show y < 9223372036854775807 by omega)
            obtain ⟨u0, u1⟩ := hnx _ (List.getElem_mem hlt2)
            obtain ⟨u, hu⟩ : ∃ u : Nat, g.next[x][y] = u := ⟨(g.next[x][y]).toNat, by omega⟩
            have hun : u < Y.length := by omega
            have eu : kpred Y g.next[x][y] = Y[u] := by rw [hu]; simp [kpred, hasI, hun]
            refine AW.seq fun _ k4 => AW.cond true (by simp [Int.natCast_inj, hlt2]) (fun _ => ?_) (fun h => by cases h)
            refine AW.skip ?_
            simp
            refine k4 _ ?_
            refine AW.seq fun _ k4 => ?_
            refine AW.block ?_
            refine AW.seq fun _ k5 => AW.region [] Θ_ok ?_
            simp [hlt2, hu]
            refine k5 _ ?_
            refine AW.seq fun _ k5 => AW.region [] Θ_ok ?_
            simp [hun]
            refine k5 _ ?_
            cases c1 : Y[u]
            · refine AW.cond false (by simp [Int.natCast_inj, c1]) (fun h => by cases h) (fun _ => ?_)
              refine AW.skip ?_
              simp
              refine k4 _ ?_
              refine AW.region [] Θ_ok ?_
              simp
              exact ⟨y + 1, ⟨by omega, fun j hj hj2 => by
                by_cases e : j = y
                · subst e; rw [eu, c1]
                · exact hno j hj (by omega)⟩, by omega, GStep.eq (by simp [inc2]) (subH.refl _)⟩
            · have hf1 : (g.next[x].find? (kpred Y)) = some (g.next[x][y]) := by
                rw [List.find?_eq_some_iff_getElem]
                refine ⟨by rw [eu, c1], y, hlt2, rfl, fun j hj => ?_⟩
                rw [hno j (by omega) hj]; rfl
              rw [hf1, Option.getD_some, hu] at hw
              have mY := map_set_int W x wv
              rw [sX] at mY
              rw [hw] at mY
              refine AW.cond true (by simp [Int.natCast_inj, c1]) (fun _ => ?_) (fun h => by cases h)
              refine AW.seq fun _ k5 => AW.region [] Θ_ok ?_
              simp [hlt, lX, mY, obI_mk]
              refine ⟨by omega, k5 _ ?_⟩
              refine AW.exit ?_
              simp
              refine k2 _ ?_
              refine AW.region [] Θ_ok ?_
              simp
              exact ⟨x + 1, by omega, by omega, GStep.eq (by simp [inc]) (subH_of_eq (by rw [hWs]))⟩
          · obtain rfl : y = g.next[x].length := by omega
            have hf1 : (g.next[x].find? (kpred Y)) = none := by
              rw [List.find?_eq_none]
              intro w hw
              obtain ⟨j, hj, rfl⟩ := List.getElem_of_mem hw
              rw [hno j hj hj]; simp
            rw [hf1, Option.getD_none] at hw
            refine AW.seq fun _ k4 => AW.cond false (by simp [Int.natCast_inj]) (fun h => by cases h) (fun _ => ?_)
            refine AW.exit ?_
            simp
            refine k2 _ ?_
            refine AW.region [] Θ_ok ?_
            simp
            exact ⟨x + 1, by omega, by omega, GStep.eq (by simp [inc]) (subH_of_eq (by rw [hWs, kX hw]))⟩
        · rw [if_pos (.inr ho1)] at hw
          refine AW.seq fun _ k4 => AW.region [] Θ_ok ?_
          simp [hlt, hg, ho1]
          refine k4 _ ?_
          refine AW.cond true (by simp [Int.natCast_inj, ho1]) (fun _ => ?_) (fun h => by cases h)
          refine AW.exit ?_
          simp
          refine k2 _ ?_
          refine AW.region [] Θ_ok ?_
          simp
          exact ⟨x + 1, by omega, by omega, GStep.eq (by simp [inc]) (subH_of_eq (by rw [hWs, kX hw]))⟩
    obtain rfl : x = g.owner.length := by omega
    refine AW.seq fun _ k2 => AW.cond false (by simp [Int.natCast_inj]) (fun h => by cases h) (fun _ => ?_)
    refine AW.exit ?_
    simp
    refine k1 _ ?_
    refine AW.seq fun _ kr => AW.region [] Θ_ok ?_
    simp
    refine kr _ (AW.ret ?_)
    simp [Try.f25]
    refine Fin.freeze (k := true) (upd_same _ _ _) (fun _ => rfl) rfl (by simp [recX_len]) (by
      intro u hu
      obtain ⟨z, _, rfl⟩ := List.mem_map.1 hu
      rfl) h (by simp [upd_none_id ho]; exact subH.refl _) ⟨?_, rfl⟩
    rw [hfin]
    congr 1
    simp only [obI_cells, ints, recX, recsR, map_tab]
    exact tab_congr fun i hi => by simp [hi]
  · rw [agA, if_neg hok] at sA
    have hfin : recA g who s = .nils := if_neg hok
    refine AW.seq fun _ k1 => AW.regionAt 4 [] Θ_ok fun B hB => ?_
    simp
    refine sA.use (by simp [G.av]) ?_
    refine hB _ ?_
    clear hB B
    simp
    refine k1 _ ?_
    refine AW.seq fun _ k1 => ?_
    refine AW.seq fun _ k2 => AW.region [] Θ_ok ?_
    simp
    refine k2 _ ?_
    refine AW.cond true (by simp [Int.natCast_inj]) (fun _ => ?_) (fun h => by cases h)
    refine AW.seq fun _ kr => AW.region [] Θ_ok ?_
    simp
    refine kr _ (AW.ret ?_)
    simp [Try.f25]
    exact Fin.refl ⟨hfin.symm, rfl⟩

def ring14 : G := ⟨[0, 1, 1], [[1], [0, 2], [2]]⟩
theorem ring14_fits : ring14.fits := ⟨by decide, by decide, by decide⟩
theorem ring14_ok : okP ring14 1 := ⟨rfl, .inr rfl⟩
theorem ring14_ok0 : okP ring14 0 := ⟨rfl, .inl rfl⟩

theorem ag_lev (g : G) (who : Int) (s : List Bool) : agL g who s = fixG (fun y => lev g who (andL g s (forceL g who y)) g.owner.length) (g.owner.length + 1) (notL g []) := by
  rw [agL, show agF g who s = fun y => lev g who (andL g s (forceL g who y)) g.owner.length from funext fun y => reg_lev _ _ _]
theorem ring14_ag : agL ring14 1 [true] = [true, true, false] := by rw [ag_lev]; rfl
theorem ring14_ag0 : agL ring14 0 [true, true, false] = [false, false, false] := by rw [ag_lev]; rfl
theorem ring14_st : stL ring14 1 [false, false, true] = [true, true, true] := by
  rw [stL, show notL ring14 [false, false, true] = [true, true, false] from rfl, show (1 : Int) - 1 = 0 from rfl, ring14_ag0]; rfl
theorem ring14_goal : goalR ring14 1 [true] = [true, false, false] := by rw [goalR, ring14_ag]; rfl
theorem ring14_way (h : 1 < (recL ring14 1 [true]).length) : (recL ring14 1 [true])[1] = 0 := by
  have h0 : atR ring14 1 [true, false, false] 0 0 := ⟨rfl, fun j hj => by omega⟩
  have h1 : atR ring14 1 [true, false, false] 1 1 := ⟨rfl, fun j hj => by
    obtain rfl : j = 0 := by omega
    intro h; cases h⟩
  have e : (recL ring14 1 [true]).getD 1 0 = 0 := by
    rw [recL, ring14_ag, ring14_goal, recsR, getD_tab, if_pos (by decide), recR, if_pos (.inl rfl), awayL, awaysR, getD_tab, if_pos (by decide), awayR]
    have r0 : (ranksL ring14 1 [true, false, false]).getD 0 0 = 0 := by rw [ranksL_getD (by decide), rk_at h0]; rfl
    have r1 : (ranksL ring14 1 [true, false, false]).getD 1 0 = 1 := by rw [ranksL_getD (by decide), rk_at h1]; rfl
    rw [r1, if_neg (by decide)]
    have : nx ring14 1 = [0, 2] := rfl
    rw [this, List.find?_cons_of_pos]
    · rfl
    · simp only [wpred, Int.toNat_zero, r0]; rfl
  simpa [h] using e

theorem l14_awake : Pure Try.prog 14 [] (.bool true) := by
  obtain ⟨a, ha⟩ : ∃ a, a = ([true, true, false] : List Bool) := ⟨_, rfl⟩
  obtain ⟨b, hb⟩ : ∃ b, b = recL ring14 1 [true] := ⟨_, rfl⟩
  obtain ⟨c, hc⟩ : ∃ c, c = ([true, true, true] : List Bool) := ⟨_, rfl⟩
  have al : a.length = 3 := by rw [ha]; rfl
  have bl : b.length = 3 := by rw [hb]; exact length_tab _ _
  have cl : c.length = 3 := by rw [hc]; rfl
  have a0 : ∀ h, a[0]'h = true := by subst ha; exact fun _ => rfl
  have a1 : ∀ h, a[1]'h = true := by subst ha; exact fun _ => rfl
  have a2 : ∀ h, a[2]'h = false := by subst ha; exact fun _ => rfl
  have b1 : ∀ h, b[1]'h = 0 := by subst hb; exact ring14_way
  have c0 : ∀ h, c[0]'h = true := by subst hc; exact fun _ => rfl
  have c2 : ∀ h, c[2]'h = true := by subst hc; exact fun _ => rfl
  have hA : agA ring14 1 [true] = .ro true (bools a) := by rw [agA, if_pos ring14_ok, ring14_ag, ha]
  have hB : recA ring14 1 [true] = .ro true (ints b) := by rw [recA, if_pos ring14_ok, hb]
  have hC : stA ring14 1 [false, false, true] = .ro true (bools c) := by rw [stA, if_pos ring14_ok, ring14_st, hc]
  clear ha hb hc
  have sR := recur_Again ring14 ring14_fits 1 [true]
  have sW := recur_Ways ring14 ring14_fits 1 [true]
  have sS := recur_Stay ring14 ring14_fits 1 [false, false, true]
  rw [hA] at sR
  rw [hB] at sW
  rw [hC] at sS
  intro h
  refine AC.body Θ_ok Try.func14 rfl rfl (Nat.le_of_ble_eq_true rfl) ?_
  refine AW.seq fun _ k1 => AW.region [] Θ_ok ?_
  simp
  refine k1 _ ?_
  refine AW.seq fun _ k1 => AW.region [1] Θ_ok ?_
  simp [newA]
  refine ⟨rfl, rfl, rfl, fun o ho => k1 _ ?_⟩
  refine AW.box 1 (o := o) rfl (upd_same _ _ _) ?_
  simp only [upd_upd, upd_none_id ho]
  refine AW.seq fun _ k1 => AW.draw [] 8 [] Θ_ok mixed (by kernel_rfl) (by kernel_rfl) ?_
  simp [vcDraw, vcPre, vcTail, callA, isAlloc, isLoad, effOp, obl, obA, mkOK, valA]
  refine ⟨_, sR.wk (by simp [G.av, ring14]), ?_⟩
  try simp
  refine ⟨_, sW.wk (by simp [G.av, ring14]), ?_⟩
  try simp
  refine k1 _ ?_
  refine AW.seq fun _ k1 => AW.regionAt 3 [] Θ_ok fun B hB => ?_
  simp
  refine ⟨rfl, ?_⟩
  refine sS.use (by simp [G.av, ring14]) ?_
  refine hB _ ?_
  clear hB B
  simp
  refine k1 _ ?_
  refine AW.seq fun _ kr => AW.region [] Θ_ok ?_
  simp [al, bl, cl, a0, a1, a2, b1, c0, c2]
  refine kr _ (AW.ret ?_)
  simp [Try.f14]
  exact Fin.refl ⟨rfl, rfl⟩
end Go.Par
