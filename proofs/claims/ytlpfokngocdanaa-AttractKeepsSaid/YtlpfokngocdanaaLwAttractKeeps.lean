import Derived.Test.YtlpfokngocdanaaAtF
import Derived.Test.YtlpfokngocdanaaAtG
set_option linter.unusedSimpArgs false
set_option linter.unusedVariables false
set_option maxRecDepth 8000
set_option maxHeartbeats 1000000
namespace Go.Par
open Go.Proofs

theorem law_AttractKeeps (g : G) (hg : g.wide) (p : Int) (hp : DK.fits .int p) (a : List Bool) (ha : (DK.sl .bool).fits a) : Pure Try.prog 9 [g.av, .int .i64 p, .ro false (bools a)] (.bool true) := by
  have hf := hg.f
  have sl := l12_light g hf a
  have hlb : light12 g a = true → (a : List Bool).length ≤ 300 := fun h => by
    simp only [light12, Bool.and_eq_true, decide_eq_true_eq] at h; exact h.2
  generalize light12 g a = lb at *
  intro h
  refine AC.body Θ_ok Try.func9 rfl rfl (Nat.le_of_ble_eq_true rfl) ?_
  refine AW.seq fun _ k1 => AW.region [] Θ_ok ?_
  simp
  refine k1 _ ?_
  by_cases h1 : lb = true
  · subst h1
    have ha3 := hlb rfl
    by_cases hm : mayE g = 0
    · have hn3 := (may_ok hm).1
      have hn2 := (may_ok hm).2.1
      refine AW.seq fun _ k1 => ?_
      refine AW.seq fun _ k2 => AW.regionAt 3 [] Θ_ok fun B hB => ?_
      simp
      refine sl.use (by simp [G.av]) ?_
      refine hB _ ?_
      clear hB B
      refine vcOps_split 4 fun B hB => ?_
      simp
      refine (r9_May g hf).use (by simp [G.av]) ?_
      refine hB _ ?_
      clear hB B
      simp [hm]
      refine k2 _ ?_
      refine AW.cond false (by simp [Int.natCast_inj]) (fun h => by cases h) (fun _ => ?_)
      refine AW.skip ?_
      simp
      refine k1 _ ?_
      refine AW.seq fun _ k1 => AW.region [] Θ_ok ?_
      simp
      refine k1 _ ?_
      have hw := who2_cases p
      change AW _ _ _ ⟨_, (1, .int .i64 (who2 p)) :: _, _⟩
      generalize who2 p = W at hw
      have hok : okP g W := ⟨hm, hw⟩
      have hokF : okForce g W := ⟨hm, hw⟩
      have hs : IntKind.i64.wrap (1 - W) = 1 - W := wrap_id (by omega) (by omega)
      have sA := attract_Region g hf W a (by omega)
      rw [regA, if_pos hok] at sA
      have lX := regL_len g W a
      have sAA := attract_Region g hf W (regL g W a) (by omega)
      rw [regA, if_pos hok, reg_reg] at sAA
      have sF := pre_Force g hf W (regL g W a)
      rw [forceA, if_pos hokF] at sF
      have sO := pre_Or g (regL g W a) (forceL g W (regL g W a)) hf.owner
      rw [reg_closed] at sO
      have hkeep : ∀ v, v < g.owner.length → hasN (regL g W a) v = false → hasN a v = false ∧ (ow g v = W → (nx g v).countP (fun w => !hasN (regL g W a) w.toNat) = (nx g v).length) ∧ (ow g v ≠ W → (nx g v).countP (fun w => !hasN (regL g W a) w.toNat) ≠ 0) := fun v hv q => keep_who hv q
      generalize forceL g W (regL g W a) = Fo at *
      generalize regL g W a = X at *
      refine AW.seq fun _ k1 => AW.regionAt 4 [] Θ_ok fun B hB => ?_
      simp
      refine sA.use (by simp [G.av]) ?_
      refine hB _ ?_
      clear hB B
      simp
      refine k1 _ ?_
      refine AW.seq fun _ k1 => ?_
      refine AW.seq fun _ k2 => AW.region [] Θ_ok ?_
      simp [lX]
      refine k2 _ ?_
      refine AW.cond false (by simp [Int.natCast_inj]) (fun h => by cases h) (fun _ => ?_)
      refine AW.skip ?_
      simp
      refine k1 _ ?_
      refine AW.seq fun _ k1 => ?_
      refine AW.seq fun _ k2 => AW.region [] Θ_ok ?_
      simp
      refine k2 _ ?_
      refine AW.block ?_
      refine AW.loopI (X := Nat) (fun x => x ≤ X.length) (fun x => ⟨119, [(1, .int .i64 W), (2, .ro false (bools a)), (3, .rop [.ro false (ints g.owner), .ro false (rows g.next)]), (7, .ro true (bools X)), (37, .ro true (bools X)), (38, .int .i64 X.length), (39, .int .i64 x)], h⟩) (fun x => X.length - x) 0 (Nat.zero_le _) (GStep.eq (by simp) (subH.refl _)) fun x hx => ?_
      refine AW.seq fun _ k2 => AW.region [] Θ_ok ?_
      simp
      refine k2 _ ?_
      by_cases hlt : x < X.length
      · have inc := wrap_succ (show x < 9223372036854775807 by omega)
        have hltg : x < g.owner.length := by omega
        have hltn : x < g.next.length := by omega
        refine AW.seq fun _ k2 => AW.cond true (by simp [Int.natCast_inj, hlt]) (fun _ => ?_) (fun h => by cases h)
        refine AW.skip ?_
        simp
        refine k2 _ ?_
        refine AW.seq fun _ k2 => ?_
        refine AW.block ?_
        refine AW.seq fun _ k3 => AW.region [] Θ_ok ?_
        simp [hlt]
        refine k3 _ ?_
        refine AW.seq fun _ k3 => ?_
        refine AW.seq fun _ k4 => AW.region [] Θ_ok ?_
        simp
        refine k4 _ ?_
        cases hx2 : X[x]
        · obtain ⟨q1, q2, q3⟩ := hkeep x hltg (by simp [hasN, hlt, hx2])
          have en : nx g x = g.next[x] := by simp [nx, hltn]
          have eo : ow g x = g.owner[x] := by simp [ow, hltg]
          rw [en, eo] at q2 q3
          have hnx := (nx_ok hm hltg).2
          rw [en] at hnx
          have hlen : g.next[x].length ≤ 17592186044416 := hf.row _ (List.getElem_mem _)
          obtain ⟨cn, hcn⟩ : ∃ cn : List Int → Nat, cn = fun l => l.countP (fun w => !hasN X w.toNat) := ⟨_, rfl⟩
          have q2' : g.owner[x] = W → cn g.next[x] = g.next[x].length := by rw [hcn]; exact q2
          have q3' : g.owner[x] ≠ W → cn g.next[x] ≠ 0 := by rw [hcn]; exact q3
          have cn0 : cn [] = 0 := by rw [hcn]; rfl
          have cns : ∀ (l : List Int) (w : Int), cn (l ++ [w]) = cn l + if hasN X w.toNat then 0 else 1 := by
            intro l w
            rw [hcn]
            simp only [List.countP_append, List.countP_singleton]
            cases hasN X w.toNat <;> rfl
          have cnl : ∀ l, cn l ≤ l.length := by intro l; rw [hcn]; exact List.countP_le_length
          clear hcn q2 q3 hkeep
          refine AW.cond false (by simp [Int.natCast_inj, hx2]) (fun h => by cases h) (fun _ => ?_)
          refine AW.skip ?_
          simp
          refine k3 _ ?_
          refine AW.seq fun _ k3 => AW.region [] Θ_ok ?_
          simp
          refine k3 _ ?_
          refine AW.seq fun _ k3 => ?_
          refine AW.seq fun _ k4 => AW.region [] Θ_ok ?_
          simp [hltn]
          refine k4 _ ?_
          refine AW.block ?_
          refine AW.loopI (X := Nat) (fun y => y ≤ g.next[x].length) (fun y => ⟨119, [(1, .int .i64 W), (2, .ro false (bools a)), (3, .rop [.ro false (ints g.owner), .ro false (rows g.next)]), (7, .ro true (bools X)), (8, .int .i64 x), (10, .int .i64 (cn (g.next[x].take y))), (37, .ro true (bools X)), (38, .int .i64 X.length), (39, .int .i64 x), (49, .ro false (ints g.next[x])), (50, .int .i64 g.next[x].length), (51, .int .i64 y)], h⟩) (fun y => g.next[x].length - y) 0 (Nat.zero_le _) (GStep.eq (by simp [cn0]) (subH.refl _)) fun y hy => ?_
          refine AW.seq fun _ k4 => AW.region [] Θ_ok ?_
          simp
          refine k4 _ ?_
          by_cases hlt2 : y < g.next[x].length
          · have inc2 := wrap_succ (show y < 9223372036854775807 by omega)
            obtain ⟨u0, u1⟩ := hnx _ (List.getElem_mem hlt2)
            obtain ⟨u, hu⟩ : ∃ u : Nat, g.next[x][y] = u := ⟨(g.next[x][y]).toNat, by omega⟩
            have hun : u < X.length := by omega
            have hst : cn (g.next[x].take (y + 1)) = cn (g.next[x].take y) + if X[u] then 0 else 1 := by
              rw [List.take_succ_eq_append_getElem hlt2, cns, hu]
              simp [hasN, hun]
            have hcl := cnl (g.next[x].take y)
            have hcl2 : (g.next[x].take y).length ≤ g.next[x].length := by simp; omega
            have inc3 := wrap_succ (show cn (g.next[x].take y) < 9223372036854775807 by omega)
            obtain ⟨c1, hc1⟩ : ∃ c1, c1 = cn (g.next[x].take y) := ⟨_, rfl⟩
            simp only [← hc1] at *
            refine AW.seq fun _ k4 => AW.cond true (by simp [Int.natCast_inj, hlt2]) (fun _ => ?_) (fun h => by cases h)
            refine AW.skip ?_
            simp
            refine k4 _ ?_
            refine AW.seq fun _ k4 => ?_
            refine AW.block ?_
            refine AW.seq fun _ k5 => AW.region [] Θ_ok ?_
            simp [hlt2, hu]
            refine k5 _ ?_
            refine AW.seq fun _ k5 => AW.region [] Θ_ok ?_
            simp [hun]
            refine k5 _ ?_
            cases hb : X[u]
            · rw [hb, if_neg (by simp)] at hst
              refine AW.cond true (by simp [Int.natCast_inj, hb]) (fun _ => ?_) (fun h => by cases h)
              refine AW.region [] Θ_ok ?_
              simp
              refine k4 _ ?_
              refine AW.region [] Θ_ok ?_
              simp
              exact ⟨y + 1, by omega, by omega, GStep.eq (by simp [inc2, inc3, hst]) (subH.refl _)⟩
            · rw [hb, if_pos rfl] at hst
              refine AW.cond false (by simp [Int.natCast_inj, hb]) (fun h => by cases h) (fun _ => ?_)
              refine AW.skip ?_
              simp
              refine k4 _ ?_
              refine AW.region [] Θ_ok ?_
              simp
              exact ⟨y + 1, by omega, by omega, GStep.eq (by simp [inc2, hst]) (subH.refl _)⟩
          · obtain rfl : y = g.next[x].length := by omega
            have ea : (decide (0 ≤ (x : Int)) && hasI a (x : Int)) = false := by simpa using q1
            have sH := r9_Has a x
            rw [ea] at sH
            refine AW.seq fun _ k4 => AW.cond false (by simp [Int.natCast_inj]) (fun h => by cases h) (fun _ => ?_)
            refine AW.exit ?_
            simp
            refine k3 _ ?_
            by_cases ho : g.owner[x] = W
            · have z1 := q2' ho
              refine AW.seq fun _ k3 => AW.regionAt 3 [] Θ_ok fun B hB => ?_
              simp
              refine sH.use (by simp) ?_
              refine hB _ ?_
              clear hB B
              simp [hltg, hltn, ho, z1]
              refine k3 _ ?_
              refine AW.cond false (by simp [Int.natCast_inj]) (fun h => by cases h) (fun _ => ?_)
              refine AW.skip ?_
              simp
              refine k2 _ ?_
              refine AW.region [] Θ_ok ?_
              simp
              exact ⟨x + 1, by omega, by omega, GStep.eq (by simp [inc]) (subH.refl _)⟩
            · have z1 := q3' ho
              have z2 : ¬ ((cn g.next[x] : Nat) : Int) = 0 := by omega
              refine AW.seq fun _ k3 => AW.regionAt 3 [] Θ_ok fun B hB => ?_
              simp
              refine sH.use (by simp) ?_
              refine hB _ ?_
              clear hB B
              simp [hltg, hltn, ho, z1, z2]
              refine k3 _ ?_
              refine AW.cond false (by simp [Int.natCast_inj, z1, z2]) (fun h => by cases h) (fun _ => ?_)
              refine AW.skip ?_
              simp
              refine k2 _ ?_
              refine AW.region [] Θ_ok ?_
              simp
              exact ⟨x + 1, by omega, by omega, GStep.eq (by simp [inc]) (subH.refl _)⟩
        · refine AW.cond true (by simp [Int.natCast_inj, hx2]) (fun _ => ?_) (fun h => by cases h)
          refine AW.exit ?_
          simp
          refine k2 _ ?_
          refine AW.region [] Θ_ok ?_
          simp
          exact ⟨x + 1, by omega, by omega, GStep.eq (by simp [inc]) (subH.refl _)⟩
      obtain rfl : x = X.length := by omega
      refine AW.seq fun _ k2 => AW.cond false (by simp [Int.natCast_inj]) (fun h => by cases h) (fun _ => ?_)
      refine AW.exit ?_
      simp
      refine k1 _ ?_
      refine AW.seq fun _ kr => AW.draw [] 21 [] Θ_ok mixed (by kernel_rfl) (by kernel_rfl) ?_
      refine vcDraw_split 4 fun B hB => ?_
      simp [vcPre, vcTail, callA, isAlloc, isLoad, effOp, obl, obA, mkOK, valA]
      refine ⟨_, sAA.wk (by simp [G.av]), ?_⟩
      refine hB _ _ _ ?_
      clear hB B
      refine vcPre_split 2 fun B hB => ?_
      simp [vcPre, vcTail, callA, isAlloc, isLoad, effOp, obl, obA, mkOK, valA]
      refine ⟨_, (r9_SameRow X X (by omega)).wk (by simp), ?_⟩
      refine hB _ _ _ ?_
      clear hB B
      refine vcPre_split 7 fun B hB => ?_
      simp [vcPre, vcTail, callA, isAlloc, isLoad, effOp, obl, obA, mkOK, valA]
      refine ⟨_, sF.wk (by simp [G.av]), ?_⟩
      refine hB _ _ _ ?_
      clear hB B
      refine vcPre_split 1 fun B hB => ?_
      simp [vcPre, vcTail, callA, isAlloc, isLoad, effOp, obl, obA, mkOK, valA]
      refine ⟨_, sO.wk (by simp [G.av]), ?_⟩
      refine hB _ _ _ ?_
      clear hB B
      refine vcPre_split 2 fun B hB => ?_
      simp [vcPre, vcTail, callA, isAlloc, isLoad, effOp, obl, obA, mkOK, valA]
      refine ⟨_, (r9_SameRow X X (by omega)).wk (by simp), ?_⟩
      refine hB _ _ _ ?_
      clear hB B
      refine vcPre_split 3 fun B hB => ?_
      simp [vcPre, vcTail, callA, isAlloc, isLoad, effOp, obl, obA, mkOK, valA]
      refine ⟨_, l12_awake.wk (by simp), ?_⟩
      refine hB _ _ _ ?_
      clear hB B
      simp [vcPre, vcTail, callA, isAlloc, isLoad, effOp, obl, obA, mkOK, valA]
      refine kr _ (AW.ret ?_)
      simp [Try.f9]
      exact Fin.refl ⟨rfl, rfl⟩
    · refine AW.seq fun _ k1 => ?_
      refine AW.seq fun _ k2 => AW.regionAt 3 [] Θ_ok fun B hB => ?_
      simp
      refine sl.use (by simp [G.av]) ?_
      refine hB _ ?_
      clear hB B
      refine vcOps_split 4 fun B hB => ?_
      simp
      refine (r9_May g hf).use (by simp [G.av]) ?_
      refine hB _ ?_
      clear hB B
      simp [hm]
      refine k2 _ ?_
      refine AW.cond true (by simp [Int.natCast_inj, hm]) (fun _ => ?_) (fun h => by cases h)
      refine AW.seq fun _ kr => AW.region [] Θ_ok ?_
      simp
      refine (l12_awake).use (by simp [G.av]) ?_
      try simp
      refine kr _ (AW.ret ?_)
      simp [Try.f9]
      exact Fin.refl ⟨rfl, rfl⟩
  · have h1 : lb = false := by simpa using h1
    subst h1
    refine AW.seq fun _ k1 => ?_
    refine AW.seq fun _ k2 => AW.regionAt 3 [] Θ_ok fun B hB => ?_
    simp
    refine sl.use (by simp [G.av]) ?_
    refine hB _ ?_
    clear hB B
    simp
    refine k2 _ ?_
    refine AW.cond true (by simp [Int.natCast_inj]) (fun _ => ?_) (fun h => by cases h)
    refine AW.seq fun _ kr => AW.region [] Θ_ok ?_
    simp
    refine (l12_awake).use (by simp [G.av]) ?_
    try simp
    refine kr _ (AW.ret ?_)
    simp [Try.f9]
    exact Fin.refl ⟨rfl, rfl⟩
end Go.Par
