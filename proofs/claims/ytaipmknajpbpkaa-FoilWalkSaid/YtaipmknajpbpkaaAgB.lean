/- Texts AtE AtF AtG AtH AtI AtJ AtK AtL, one behind another. -/
import Derived.Test.YtaipmknajpbpkaaAgA
import Derived.Test.YtaipmknajpbpkaaFgA
import Derived.Test.YtaipmknajpbpkaaFgB
set_option linter.unusedSimpArgs false
set_option linter.unusedVariables false
set_option maxRecDepth 8000
set_option maxHeartbeats 1000000
namespace Go.Par
open Go.Proofs

def okP (g : G) (who : Int) : Prop := mayE g = 0 ∧ (who = 0 ∨ who = 1)
instance (g : G) (who : Int) : Decidable (okP g who) := by unfold okP; infer_instance
theorem ranksL_len (g : G) (who : Int) (s : List Bool) : (ranksL g who s).length = g.owner.length := length_tab _ _
theorem ranksA_eq (g : G) (who : Int) (s : List Bool) : ranksA g who s = if okP g who then .ro true (ints (ranksL g who s)) else .nils := by
  unfold ranksA okP
  by_cases h : mayE g = 0 ∧ (who = 0 ∨ who = 1)
  · rw [if_pos h]
  · rw [if_neg h]
def regR (R : List Int) : List Bool := tab R.length fun v => decide (0 ≤ R.getD v 0)
noncomputable def regL (g : G) (who : Int) (s : List Bool) : List Bool := regR (ranksL g who s)
theorem regL_len (g : G) (who : Int) (s : List Bool) : (regL g who s).length = g.owner.length := by simp [regL, regR, ranksL_len]
noncomputable def regA (g : G) (who : Int) (s : List Bool) : AV := if okP g who then .ro true (bools (regL g who s)) else .nils
def wpred (R : List Int) (r w : Int) : Bool := decide (0 ≤ R.getD w.toNat 0) && decide (R.getD w.toNat 0 < r)
def awayR (g : G) (who : Int) (R : List Int) (v : Nat) : Int :=
  if ow g v ≠ who ∨ R.getD v 0 < 1 then -1 else ((nx g v).find? (wpred R (R.getD v 0))).getD (-1)
def awaysR (g : G) (who : Int) (R : List Int) : List Int := tab g.owner.length (awayR g who R)
noncomputable def awayL (g : G) (who : Int) (s : List Bool) : List Int := awaysR g who (ranksL g who s)
noncomputable def awayA (g : G) (who : Int) (s : List Bool) : AV := if okP g who then .ro true (ints (awayL g who s)) else .nils

def awayX (g : G) (who : Int) (R : List Int) (x : Nat) : List Int := tab g.owner.length fun v => if v < x then awayR g who R v else 0
theorem awayX_len (g : G) (who : Int) (R : List Int) (x : Nat) : (awayX g who R x).length = g.owner.length := length_tab _ _
theorem awayX_set (g : G) (who : Int) (R : List Int) (x : Nat) : (awayX g who R x).set x (awayR g who R x) = awayX g who R (x + 1) := by
  rw [awayX, set_tab]
  refine tab_congr fun v _ => ?_
  by_cases e : v = x
  · subst e; simp
  · by_cases h : v < x
    · simp [e, h, show v < x + 1 by omega]
    · simp [e, h, show ¬ v < x + 1 by omega]

theorem attract_Region (g : G) (hf : g.fits) (who : Int) (s : List Bool) (hs : s.length ≤ 1152921504606846976) : Pure Try.prog 65 [g.av, .int .i64 who, .ro false (bools s)] (regA g who s) := by
  have sR := attract_Ranks g hf who s hs
  rw [ranksA_eq] at sR
  intro h
  refine AC.body Θ_ok Try.func65 rfl rfl (Nat.le_of_ble_eq_true rfl) ?_
  refine AW.seq fun _ k1 => AW.region [] Θ_ok ?_
  simp
  refine k1 _ ?_
  by_cases hok : okP g who
  · rw [if_pos hok] at sR
    have hfin : regA g who s = .ro true (bools (regL g who s)) := if_pos hok
    have hn3 := (may_ok hok.1).1
    have lR := ranksL_len g who s
    rw [show regL g who s = regR (ranksL g who s) from rfl] at hfin
    generalize ranksL g who s = R at *
    refine AW.seq fun _ k1 => AW.regionAt 4 [] Θ_ok fun B hB => ?_
    simp
    refine sR.use (by simp [G.av]) ?_
    refine hB _ ?_
    clear hB B
    simp
    refine k1 _ ?_
    refine AW.seq fun _ k1 => ?_
    refine AW.seq fun _ k2 => AW.region [] Θ_ok ?_
    simp
    refine k2 _ ?_
    refine AW.cond false (by simp [Int.natCast_inj]) (fun h => by cases h) (fun _ => ?_)
    refine AW.skip ?_
    simp
    refine k1 _ ?_
    refine AW.seq fun _ k1 => AW.region [19] Θ_ok ?_
    simp
    refine ⟨by omega, fun o ho => k1 _ ?_⟩
    rw [replicate_tab, flat_tab (fun _ _ => rfl)]
    refine AW.seq fun _ k1 => ?_
    refine AW.seq fun _ k2 => AW.region [] Θ_ok ?_
    simp
    refine k2 _ ?_
    refine AW.block ?_
    refine AW.loopI (X := Nat) (fun x => x ≤ R.length) (fun x => ⟨37, [(3, .rop [.ro false (ints g.owner), .ro false (rows g.next)]), (8, .mu o R.length), (20, .ro true (ints R)), (21, .int .i64 R.length), (22, .int .i64 x)], upd h o (some ⟨tab R.length fun i => .bool (decide (i < x) && decide (0 ≤ R.getD i 0)), 4, 1, true⟩)⟩) (fun x => R.length - x) 0 (Nat.zero_le _) (GStep.eq (by simp) ?_) fun x hx => ?_
    · simp; exact subH.refl _
    refine AW.seq fun _ k2 => AW.region [] Θ_ok ?_
    simp
    refine k2 _ ?_
    by_cases hlt : x < R.length
    · have inc := wrap_succ (show x < 9223372036854775807 by omega)
      have hset : (tab R.length fun i => AV.bool (decide (i < x) && decide (0 ≤ R.getD i 0))).set x (.bool (decide (0 ≤ R[x]))) = tab R.length fun i => .bool (decide (i < x + 1) && decide (0 ≤ R.getD i 0)) := by
        rw [set_tab]
        refine tab_congr fun i hi => ?_
        by_cases e : i = x
        · subst e; simp [hlt]
        · by_cases h1 : i < x
          · simp [e, h1, show i < x + 1 by omega]
          · simp [e, h1, show ¬ i < x + 1 by omega]
      refine AW.seq fun _ k2 => AW.cond true (by simp [Int.natCast_inj, hlt]) (fun _ => ?_) (fun h => by cases h)
      refine AW.skip ?_
      simp
      refine k2 _ ?_
      refine AW.seq fun _ k2 => ?_
      refine AW.block ?_
      refine AW.seq fun _ k3 => AW.region [] Θ_ok ?_
      simp [hlt]
      refine k3 _ ?_
      refine AW.region [] Θ_ok ?_
      simp [hlt]
      refine ⟨by omega, k2 _ ?_⟩
      refine AW.region [] Θ_ok ?_
      simp
      exact ⟨x + 1, by omega, by omega, GStep.eq (by simp [inc]) (subH_of_eq (congrArg (fun c => upd h o (some ⟨c, 4, 1, true⟩)) (by simpa using hset)))⟩
    obtain rfl : x = R.length := by omega
    refine AW.seq fun _ k2 => AW.cond false (by simp [Int.natCast_inj]) (fun h => by cases h) (fun _ => ?_)
    refine AW.exit ?_
    simp
    refine k1 _ ?_
    refine AW.freeze 8 true rfl (upd_same _ _ _) (fun _ => rfl) rfl (by simp) (ones_bools _ _) ?_
    have sA := pre_And g (regR R) (regR R) hf.owner
    have e1 : andL g (regR R) (regR R) = regR R := by
      unfold andL regR
      rw [lR]
      exact tab_congr fun v hv => by simp [hasN, hv]
    rw [e1] at sA
    have e2 : (tab R.length fun i => AV.bool (decide (i < R.length) && decide (0 ≤ R.getD i 0))) = bools (regR R) := by
      simp only [bools, regR, map_tab]
      exact tab_congr fun i hi => by simp [hi]
    simp only [upd_upd, upd_none_id ho]
    generalize regR R = X at *
    have e3 : (tab R.length fun i => AV.bool (decide (i < R.length) && decide (0 ≤ R[i]?.getD 0))) = bools X := by simpa using e2
    refine AW.seq fun _ k1 => AW.region [] Θ_ok ?_
    simp [e3]
    refine sA.use (by simp [G.av]) ?_
    refine k1 _ (AW.ret ?_)
    simp [Try.f65]
    exact Fin.refl ⟨hfin.symm, rfl⟩
  · rw [if_neg hok] at sR
    have hfin : regA g who s = .nils := if_neg hok
    refine AW.seq fun _ k1 => AW.regionAt 4 [] Θ_ok fun B hB => ?_
    simp
    refine sR.use (by simp [G.av]) ?_
    refine hB _ ?_
    clear hB B
    simp
    refine k1 _ ?_
    refine AW.seq fun _ k1 => ?_
    refine AW.seq fun _ k2 => AW.region [] Θ_ok ?_
    simp
    refine k2 _ ?_
    refine AW.cond true (by simp [Int.natCast_inj]) (fun _ => ?_) (fun h => by cases h)
    refine AW.seq fun _ kr => AW.region [] Θ_ok ?_
    simp
    refine kr _ (AW.ret ?_)
    simp [Try.f65]
    exact Fin.refl ⟨hfin.symm, rfl⟩

theorem attract_Ways (g : G) (hf : g.fits) (who : Int) (s : List Bool) (hs : s.length ≤ 1152921504606846976) : Pure Try.prog 66 [g.av, .int .i64 who, .ro false (bools s)] (awayA g who s) := by
  have sR := attract_Ranks g hf who s hs
  rw [ranksA_eq] at sR
  intro h
  refine AC.body Θ_ok Try.func66 rfl rfl (Nat.le_of_ble_eq_true rfl) ?_
  refine AW.seq fun _ k1 => AW.region [] Θ_ok ?_
  simp
  refine k1 _ ?_
  by_cases hok : okP g who
  · rw [if_pos hok] at sR
    have hfin : awayA g who s = .ro true (ints (awayL g who s)) := if_pos hok
    have hm := hok.1
    have hn3 := (may_ok hm).1
    have hn2 := (may_ok hm).2.1
    have lR := ranksL_len g who s
    rw [show awayL g who s = awaysR g who (ranksL g who s) from rfl] at hfin
    generalize ranksL g who s = R at *
    refine AW.seq fun _ k1 => AW.regionAt 4 [] Θ_ok fun B hB => ?_
    simp
    refine sR.use (by simp [G.av]) ?_
    refine hB _ ?_
    clear hB B
    simp
    refine k1 _ ?_
    refine AW.seq fun _ k1 => ?_
    refine AW.seq fun _ k2 => AW.region [] Θ_ok ?_
    simp
    refine k2 _ ?_
    refine AW.cond false (by simp [Int.natCast_inj]) (fun h => by cases h) (fun _ => ?_)
    refine AW.skip ?_
    simp
    refine k1 _ ?_
    refine AW.seq fun _ k1 => AW.region [21] Θ_ok ?_
    simp
    refine ⟨⟨by omega, by omega⟩, fun o ho => k1 _ ?_⟩
    have e0 : ((List.replicate R.length (AV.int IntKind.i64 0)).flatMap AV.flat) = (awayX g who R 0).map (AV.int .i64) := by
      rw [replicate_tab, flat_tab (fun _ _ => rfl), lR, awayX, map_tab]
      exact tab_congr fun v _ => by simp
    rw [e0, obI_mk]
    refine AW.seq fun _ k1 => ?_
    refine AW.seq fun _ k2 => AW.region [] Θ_ok ?_
    simp
    refine k2 _ ?_
    refine AW.block ?_
    refine AW.loopI (X := Nat) (fun x => x ≤ g.owner.length) (fun x => ⟨73, [(1, .int .i64 who), (3, .rop [.ro false (ints g.owner), .ro false (rows g.next)]), (7, .ro true (ints R)), (8, .mu o g.owner.length), (22, .ro true (ints R)), (23, .int .i64 g.owner.length), (24, .int .i64 x)], upd h o (some (obI (awayX g who R x)))⟩) (fun x => g.owner.length - x) 0 (Nat.zero_le _) (GStep.eq (by simp [lR]) (subH.refl _)) fun x hx => ?_
    refine AW.seq fun _ k2 => AW.region [] Θ_ok ?_
    simp
    refine k2 _ ?_
    by_cases hlt : x < g.owner.length
    · have inc := wrap_succ (show x < 9223372036854775807 by omega)
      have hltR : x < R.length := by omega
      have hltn : x < g.next.length := by omega
      have lX := awayX_len g who R x
      have sX := awayX_set g who R x
      have mX := map_set_int (awayX g who R x) x (-1)
      have sX2 : ((awayX g who R x).set x (-1)).set x (awayR g who R x) = awayX g who R (x + 1) := by rw [List.set_set]; exact sX
      have en : nx g x = g.next[x] := by simp [nx, hltn]
      have eo : ow g x = g.owner[x] := by simp [ow, hlt]
      have er : R.getD x 0 = R[x] := by simp [hltR]
      have hw : awayR g who R x = if g.owner[x] ≠ who ∨ R[x] < 1 then -1 else (g.next[x].find? (wpred R R[x])).getD (-1) := by
        unfold awayR; rw [en, eo, er]
      have hnx := (nx_ok hm hlt).2
      rw [en] at hnx
      have hlen : g.next[x].length ≤ 17592186044416 := hf.row _ (List.getElem_mem _)
      generalize hWs : awayX g who R (x + 1) = Ws at *
      generalize awayX g who R x = W at *
      have lX1 : (W.set x (-1)).length = g.owner.length := by simp [lX]
      generalize hW1 : W.set x (-1) = W1 at *
      generalize hway : awayR g who R x = wv at *
      refine AW.seq fun _ k2 => AW.cond true (by simp [Int.natCast_inj, hlt]) (fun _ => ?_) (fun h => by cases h)
      refine AW.skip ?_
      simp
      refine k2 _ ?_
      refine AW.seq fun _ k2 => ?_
      refine AW.block ?_
      refine AW.seq fun _ k3 => AW.region [] Θ_ok ?_
      simp [hltR]
      refine k3 _ ?_
      refine AW.seq fun _ k3 => AW.region [] Θ_ok ?_
      simp [hlt, lX, mX, obI_mk]
      refine ⟨by omega, k3 _ ?_⟩
      refine AW.seq fun _ k3 => ?_
      by_cases ho1 : g.owner[x] = who
      · by_cases hr1 : R[x] < 1
        · rw [if_pos (.inr hr1)] at hw
          subst hw
          refine AW.seq fun _ k4 => AW.region [] Θ_ok ?_
          simp [hlt, ho1, hr1]
          refine k4 _ ?_
          refine AW.cond true (by simp [Int.natCast_inj, ho1, hr1]) (fun _ => ?_) (fun h => by cases h)
          refine AW.exit ?_
          simp
          refine k2 _ ?_
          refine AW.region [] Θ_ok ?_
          simp
          exact ⟨x + 1, by omega, by omega, GStep.eq (by simp [inc]) (subH_of_eq (by rw [hWs, ← sX, hW1]))⟩
        · rw [if_neg (fun q => q.elim (fun q => q ho1) hr1)] at hw
          have hr2 : 1 ≤ R[x] := by omega
          refine AW.seq fun _ k4 => AW.region [] Θ_ok ?_
          simp [hlt, ho1, hr1, hr2]
          refine k4 _ ?_
          refine AW.cond false (by simp [Int.natCast_inj, ho1, hr1, hr2]) (fun h => by cases h) (fun _ => ?_)
          refine AW.skip ?_
          simp
          refine k3 _ ?_
          refine AW.seq fun _ k3 => AW.region [] Θ_ok ?_
          simp [hltn]
          refine k3 _ ?_
          refine AW.block ?_
          refine AW.loopI (X := Nat) (fun y => y ≤ g.next[x].length ∧ ∀ j (h : j < g.next[x].length), j < y → wpred R R[x] g.next[x][j] = false) (fun y => ⟨73, [(1, .int .i64 who), (3, .rop [.ro false (ints g.owner), .ro false (rows g.next)]), (7, .ro true (ints R)), (8, .mu o g.owner.length), (9, .int .i64 x), (10, .int .i64 R[x]), (22, .ro true (ints R)), (23, .int .i64 g.owner.length), (24, .int .i64 x), (47, .ro false (ints g.next[x])), (48, .int .i64 g.next[x].length), (49, .int .i64 y)], upd h o (some (obI W1))⟩) (fun y => g.next[x].length - y) 0 ⟨Nat.zero_le _, fun j _ h => by omega⟩ (GStep.eq (by simp) (subH.refl _)) fun y hy => ?_
          obtain ⟨hy, hno⟩ := hy
          refine AW.seq fun _ k4 => AW.region [] Θ_ok ?_
          simp
          refine k4 _ ?_
          by_cases hlt2 : y < g.next[x].length
          · have inc2 := wrap_succ (show y < 9223372036854775807 by omega)
            obtain ⟨u0, u1⟩ := hnx _ (List.getElem_mem hlt2)
            obtain ⟨u, hu⟩ : ∃ u : Nat, g.next[x][y] = u := ⟨(g.next[x][y]).toNat, by omega⟩
            have hun : u < R.length := by omega
            have eu : wpred R R[x] g.next[x][y] = (decide (0 ≤ R[u]) && decide (R[u] < R[x])) := by rw [hu]; simp [wpred, hun]
            refine AW.seq fun _ k4 => AW.cond true (by simp [Int.natCast_inj, hlt2]) (fun _ => ?_) (fun h => by cases h)
            refine AW.skip ?_
            simp
            refine k4 _ ?_
            refine AW.seq fun _ k4 => ?_
            refine AW.block ?_
            refine AW.seq fun _ k5 => AW.region [] Θ_ok ?_
            simp [hlt2, hu]
            refine k5 _ ?_
            by_cases c1 : 0 ≤ R[u]
            · by_cases c2 : R[u] < R[x]
              · have hf1 : (g.next[x].find? (wpred R R[x])) = some (g.next[x][y]) := by
                  rw [List.find?_eq_some_iff_getElem]
                  refine ⟨by rw [eu]; simp [c1, c2], y, hlt2, rfl, fun j hj => ?_⟩
                  rw [hno j (by omega) hj]; rfl
                rw [hf1, Option.getD_some, hu] at hw
                have mY := map_set_int W1 x wv
                rw [sX2] at mY
                rw [hw] at mY
                refine AW.seq fun _ k5 => AW.region [] Θ_ok ?_
                simp [hun, c1, c2]
                refine k5 _ ?_
                refine AW.cond true (by simp [Int.natCast_inj, c1, c2]) (fun _ => ?_) (fun h => by cases h)
                refine AW.seq fun _ k5 => AW.region [] Θ_ok ?_
                simp [hlt, lX1, mY, obI_mk]
                refine ⟨by omega, k5 _ ?_⟩
                refine AW.exit ?_
                simp
                refine k2 _ ?_
                refine AW.region [] Θ_ok ?_
                simp
                exact ⟨x + 1, by omega, by omega, GStep.eq (by simp [inc]) (subH_of_eq (by rw [hWs]))⟩
              · have c2' : R[x] ≤ R[u] := by omega
                refine AW.seq fun _ k5 => AW.region [] Θ_ok ?_
                simp [hun, c1, c2, c2']
                refine k5 _ ?_
                refine AW.cond false (by simp [Int.natCast_inj, c1, c2, c2']) (fun h => by cases h) (fun _ => ?_)
                refine AW.skip ?_
                simp
                refine k4 _ ?_
                refine AW.region [] Θ_ok ?_
                simp
                exact ⟨y + 1, ⟨by omega, fun j hj hj2 => by
                  by_cases e : j = y
                  · subst e; rw [eu]; simp [c2]
                  · exact hno j hj (by omega)⟩, by omega, GStep.eq (by simp [inc2]) (subH.refl _)⟩
            · have c1' : R[u] < 0 := by omega
              refine AW.seq fun _ k5 => AW.region [] Θ_ok ?_
              simp [hun, c1, c1']
              refine k5 _ ?_
              refine AW.cond false (by simp [Int.natCast_inj, c1, c1']) (fun h => by cases h) (fun _ => ?_)
              refine AW.skip ?_
              simp
              refine k4 _ ?_
              refine AW.region [] Θ_ok ?_
              simp
              exact ⟨y + 1, ⟨by omega, fun j hj hj2 => by
                by_cases e : j = y
                · subst e; rw [eu]; simp [c1]
                · exact hno j hj (by omega)⟩, by omega, GStep.eq (by simp [inc2]) (subH.refl _)⟩
          · obtain rfl : y = g.next[x].length := by omega
            have hf1 : (g.next[x].find? (wpred R R[x])) = none := by
              rw [List.find?_eq_none]
              intro w hw
              obtain ⟨j, hj, rfl⟩ := List.getElem_of_mem hw
              rw [hno j hj hj]; simp
            rw [hf1, Option.getD_none] at hw
            subst hw
            refine AW.seq fun _ k4 => AW.cond false (by simp [Int.natCast_inj]) (fun h => by cases h) (fun _ => ?_)
            refine AW.exit ?_
            simp
            refine k2 _ ?_
            refine AW.region [] Θ_ok ?_
            simp
            exact ⟨x + 1, by omega, by omega, GStep.eq (by simp [inc]) (subH_of_eq (by rw [hWs, ← sX, hW1]))⟩
      · rw [if_pos (.inl ho1)] at hw
        subst hw
        refine AW.seq fun _ k4 => AW.region [] Θ_ok ?_
        simp [hlt, ho1]
        refine k4 _ ?_
        refine AW.cond true (by simp [Int.natCast_inj, ho1]) (fun _ => ?_) (fun h => by cases h)
        refine AW.exit ?_
        simp
        refine k2 _ ?_
        refine AW.region [] Θ_ok ?_
        simp
        exact ⟨x + 1, by omega, by omega, GStep.eq (by simp [inc]) (subH_of_eq (by rw [hWs, ← sX, hW1]))⟩
    obtain rfl : x = g.owner.length := by omega
    refine AW.seq fun _ k2 => AW.cond false (by simp [Int.natCast_inj]) (fun h => by cases h) (fun _ => ?_)
    refine AW.exit ?_
    simp
    refine k1 _ ?_
    refine AW.seq fun _ kr => AW.region [] Θ_ok ?_
    simp
    refine kr _ (AW.ret ?_)
    simp [Try.f66]
    refine Fin.freeze (k := true) (upd_same _ _ _) (fun _ => rfl) rfl (by simp [awayX_len]) (by
      intro u hu
      obtain ⟨z, _, rfl⟩ := List.mem_map.1 hu
      rfl) h (by simp [upd_none_id ho]; exact subH.refl _) ⟨?_, rfl⟩
    rw [hfin]
    congr 1
    simp only [obI_cells, ints, awayX, awaysR, map_tab]
    exact tab_congr fun i hi => by simp [hi]
  · rw [if_neg hok] at sR
    have hfin : awayA g who s = .nils := if_neg hok
    refine AW.seq fun _ k1 => AW.regionAt 4 [] Θ_ok fun B hB => ?_
    simp
    refine sR.use (by simp [G.av]) ?_
    refine hB _ ?_
    clear hB B
    simp
    refine k1 _ ?_
    refine AW.seq fun _ k1 => ?_
    refine AW.seq fun _ k2 => AW.region [] Θ_ok ?_
    simp
    refine k2 _ ?_
    refine AW.cond true (by simp [Int.natCast_inj]) (fun _ => ?_) (fun h => by cases h)
    refine AW.seq fun _ kr => AW.region [] Θ_ok ?_
    simp
    refine kr _ (AW.ret ?_)
    simp [Try.f66]
    exact Fin.refl ⟨hfin.symm, rfl⟩
end Go.Par

set_option linter.unusedSimpArgs false
set_option linter.unusedVariables false
set_option maxRecDepth 8000
set_option maxHeartbeats 1000000
namespace Go.Par
open Go.Proofs

theorem wrap_u64_nat' {n : Nat} (h : n < 9223372036854775808) : IntKind.u64.wrap (n : Int) = n := by
  rw [IntKind.wrap_u64]; omega
theorem mod_nat (p : Int) {n : Nat} (h0 : 0 < n) (h : n < 9223372036854775808) : ∃ u : Nat, u < n ∧ IntKind.i64.wrap ((IntKind.u64.wrap p).tmod n) = u := by
  have h1 : 0 ≤ IntKind.u64.wrap p := by rw [IntKind.wrap_u64]; omega
  have h2 : (IntKind.u64.wrap p).tmod n = (IntKind.u64.wrap p) % n := Int.tmod_eq_emod_of_nonneg h1
  have h3 := Int.emod_nonneg (IntKind.u64.wrap p) (show (n : Int) ≠ 0 by omega)
  have h4 := Int.emod_lt_of_pos (IntKind.u64.wrap p) (show (0 : Int) < n by omega)
  refine ⟨((IntKind.u64.wrap p) % n).toNat, by omega, ?_⟩
  rw [h2, IntKind.wrap_i64]
  omega

def light12 (g : G) (s : List Bool) : Bool := decide (heavyE g = 0) && decide (s.length ≤ 300)
theorem ring_ranks : ranksL ring11 0 [false, false, true] = [1, 2, 0] := by
  have e : ranksL ring11 0 [false, false, true] = [rkN ring11 0 [false, false, true] 0, rkN ring11 0 [false, false, true] 1, rkN ring11 0 [false, false, true] 2] := rfl
  have h0 : atR ring11 0 [false, false, true] 0 1 := ⟨rfl, fun j hj => by
    obtain rfl : j = 0 := by omega
    intro h; cases h⟩
  have h1 : atR ring11 0 [false, false, true] 1 2 := ⟨rfl, fun j hj => by
    have : j = 0 ∨ j = 1 := by omega
    rcases this with rfl | rfl <;> (intro h; cases h)⟩
  have h2 : atR ring11 0 [false, false, true] 2 0 := ⟨rfl, fun j hj => by omega⟩
  rw [e, rk_at h0, rk_at h1, rk_at h2]
  rfl
theorem ring_ok : okP ring11 0 := ⟨rfl, .inl rfl⟩
theorem ring_ranksA : ranksA ring11 0 [false, false, true] = .ro true (ints [1, 2, 0]) := by rw [ranksA_eq, if_pos ring_ok, ring_ranks]
theorem ring_awayA : awayA ring11 0 [false, false, true] = .ro true (ints [2, -1, -1]) := by
  rw [awayA, if_pos ring_ok, awayL, ring_ranks]; rfl

end Go.Par

set_option linter.unusedSimpArgs false
set_option linter.unusedVariables false
namespace Go.Par

section
variable {g : G} {who : Int} {a b : List Bool} {v k : Nat}

theorem lev_sub (hm : mayE g = 0) (h : ∀ v, v < g.owner.length → hasN a v = true → hasN b v = true) : ∀ k, leS g.owner.length (lev g who a k) (lev g who b k)
  | 0 => fun v hv q => (lv_zero hv).2 (h v hv ((lv_zero hv).1 q))
  | k + 1 => fun v hv q => by
    rcases (lv_succ hv).1 q with q | q
    · exact (lv_succ hv).2 (.inl (lev_sub hm h k v hv q))
    · refine (lv_succ hv).2 (.inr ?_)
      have := force_mono (who := who) hm (lev_sub hm h k) v hv
      rw [has_force hv, has_force hv] at this
      exact this q
theorem rk_le_iff : (0 ≤ rkN g who a v ∧ rkN g who a v ≤ k) ↔ lv g who a k v := by
  rcases rk_cases (g := g) (who := who) (s := a) v with ⟨h1, h2⟩ | ⟨j, h1, h2⟩
  · rw [h1]
    constructor
    · rintro ⟨h, _⟩; omega
    · intro h; exact absurd h (h2 k)
  · rw [h1]
    constructor
    · rintro ⟨_, h⟩; exact lv_mono h2.1 (by omega)
    · intro h; have := atR_le h2 h; omega
theorem rk_pos_iff : 0 ≤ rkN g who a v ↔ ∃ k, lv g who a k v := by
  rcases rk_cases (g := g) (who := who) (s := a) v with ⟨h1, h2⟩ | ⟨j, h1, h2⟩
  · rw [h1]
    constructor
    · intro h; omega
    · rintro ⟨k, h⟩; exact absurd h (h2 k)
  · rw [h1]; exact ⟨fun _ => ⟨j, h2.1⟩, fun _ => by omega⟩
theorem rk_lt : rkN g who a v ≤ g.owner.length := by
  rcases rk_cases (g := g) (who := who) (s := a) v with ⟨h1, h2⟩ | ⟨j, h1, h2⟩
  · omega
  · have := rank_le h2; omega
theorem rk_ge : -1 ≤ rkN g who a v := by
  rcases rk_cases (g := g) (who := who) (s := a) v with ⟨h1, h2⟩ | ⟨j, h1, h2⟩ <;> omega
theorem ranksL_get (h : v < (ranksL g who a).length) : (ranksL g who a)[v] = rkN g who a v := by simp [ranksL]
theorem ranksL_getD (h : v < g.owner.length) : (ranksL g who a).getD v 0 = rkN g who a v := by rw [ranksL, getD_tab, if_pos h]
theorem has_reg (h : v < g.owner.length) : hasN (regL g who a) v = decide (0 ≤ rkN g who a v) := by
  have e : hasN (regL g who a) v = decide (0 ≤ (ranksL g who a).getD v 0) := by
    unfold regL regR hasN
    rw [getD_tab, if_pos (by rw [ranksL_len]; exact h)]
  rw [e, ranksL_getD h]

theorem grows (hm : mayE g = 0) (h : ∀ v, v < g.owner.length → hasN a v = true → hasN b v = true) (hv : v < g.owner.length) (h0 : 0 ≤ rkN g who a v) : 0 ≤ rkN g who b v ∧ rkN g who b v ≤ rkN g who a v := by
  obtain ⟨k, hk⟩ : ∃ k : Nat, rkN g who a v = k := ⟨(rkN g who a v).toNat, by omega⟩
  have h1 := rk_le_iff.1 ⟨h0, Int.le_of_eq hk⟩
  rw [hk]
  exact rk_le_iff.2 (lev_sub hm h k v hv h1)

theorem lev_tab (g : G) (who : Int) (a : List Bool) (k : Nat) : lev g who a k = tab g.owner.length fun v => decide (0 ≤ rkN g who a v) && decide (rkN g who a v ≤ k) := by
  refine tab_ext (lev_len k) fun v hv => ?_
  have hl : v < (lev g who a k).length := by rw [lev_len]; exact hv
  rw [List.getElem?_eq_getElem hl]
  congr 1
  have e : (lev g who a k)[v] = hasN (lev g who a k) v := by simp [hasN, hl]
  rw [e]
  have h := rk_le_iff (g := g) (who := who) (a := a) (v := v) (k := k)
  unfold lv at h
  cases hb : hasN (lev g who a k) v with
  | true => obtain ⟨h1, h2⟩ := h.2 hb; simp [h1, h2]
  | false =>
    by_cases c : 0 ≤ rkN g who a v
    · by_cases c2 : rkN g who a v ≤ k
      · rw [h.1 ⟨c, c2⟩] at hb; cases hb
      · simp [c2]
    · simp [c]
theorem regL_tab (g : G) (who : Int) (a : List Bool) : regL g who a = tab g.owner.length fun v => decide (0 ≤ rkN g who a v) := by
  unfold regL regR
  rw [ranksL_len]
  exact tab_congr fun v hv => by rw [ranksL_getD hv]
theorem reg_lev (g : G) (who : Int) (a : List Bool) : regL g who a = lev g who a g.owner.length := by
  rw [regL_tab, lev_tab]
  exact tab_congr fun v _ => by
    have := rk_lt (g := g) (who := who) (a := a) (v := v)
    simp [this]
theorem lev_stop (g : G) (who : Int) (a : List Bool) : lev g who a (g.owner.length + 1) = lev g who a g.owner.length := by
  rw [lev_tab, lev_tab]
  exact tab_congr fun v _ => by
    have := rk_lt (g := g) (who := who) (a := a) (v := v)
    have h2 : rkN g who a v ≤ (g.owner.length : Int) + 1 := by omega
    simp [this, h2]
theorem reg_closed (g : G) (who : Int) (a : List Bool) : orL g (regL g who a) (forceL g who (regL g who a)) = regL g who a := by
  rw [reg_lev]; exact lev_stop g who a
theorem reg_reg (g : G) (who : Int) (a : List Bool) : regL g who (regL g who a) = regL g who a := by
  have h : ∀ k, lev g who (regL g who a) k = regL g who a := by
    intro k
    induction k with
    | zero =>
      have e : lev g who (regL g who a) 0 = tab g.owner.length (hasN (regL g who a)) := rfl
      rw [e]
      exact (tab_ext (regL_len g who a) fun v hv => by
        have hl : v < (regL g who a).length := by rw [regL_len]; exact hv
        simp [hasN, hl]).symm
    | succ k ih => rw [lev, ih, reg_closed]
  rw [reg_lev g who (regL g who a), h]
theorem reg_in (hv : v < g.owner.length) (h : hasN a v = true) : hasN (regL g who a) v = true := by
  rw [has_reg hv, decide_eq_true_eq]
  exact rk_pos_iff.2 ⟨0, (lv_zero hv).2 h⟩
theorem reg_force (hv : v < g.owner.length) (h : forceP g who (regL g who a) v = true) : hasN (regL g who a) v = true := by
  have := congrArg (fun l => hasN l v) (reg_closed g who a)
  simp only [has_or hv, has_force hv, h, Bool.or_true] at this
  exact this.symm

theorem lev_dead (hm : mayE g = 0) (hw : who = 0 ∨ who = 1) : ∀ k, lev g who (tab g.owner.length (deadP g (1 - who))) k = lev g who [] (k + 1)
  | 0 => by
    have e : lev g who (tab g.owner.length (deadP g (1 - who))) 0 = tab g.owner.length (hasN (tab g.owner.length (deadP g (1 - who)))) := rfl
    rw [e, lev]
    unfold orL
    refine tab_congr fun v hv => ?_
    rw [has_force hv]
    have e1 : hasN (tab g.owner.length (deadP g (1 - who))) v = deadP g (1 - who) v := by simp [hasN, hv]
    have e2 : hasN (lev g who [] 0) v = false := by
      cases h : hasN (lev g who [] 0) v with
      | false => rfl
      | true => have := (lv_zero hv).1 h; simp [hasN] at this
    rw [e1, e2, Bool.false_or]
    have h0 : ∀ w : Int, w ∈ nx g v → hasN (lev g who [] 0) w.toNat = false := by
      intro w hw
      obtain ⟨w0, w1⟩ := (nx_ok hm hv).2 w hw
      cases h : hasN (lev g who [] 0) w.toNat with
      | false => rfl
      | true => have := (lv_zero (show w.toNat < g.owner.length by omega)).1 h; simp [hasN] at this
    cases hd : deadP g (1 - who) v with
    | true =>
      symm
      rw [force_iff]
      right
      simp only [deadP, Bool.and_eq_true, beq_iff_eq] at hd
      obtain ⟨d1, d2⟩ := hd
      refine ⟨fun e => ?_, fun w hw => ?_⟩
      · have d1' : ow g v = 1 - who := d1
        omega
      · have : nx g v = [] := List.eq_nil_of_length_eq_zero d2
        rw [this] at hw; cases hw
    | false =>
      symm
      rw [← Bool.not_eq_true, force_iff]
      rintro (⟨h1, w, hw, q⟩ | ⟨h1, h2⟩)
      · rw [h0 w hw] at q; cases q
      · have ho := ow_ok hm hv
        have e3 : ow g v = 1 - who := by omega
        have e4 : nx g v = [] := by
          cases hn : nx g v with
          | nil => rfl
          | cons w l =>
            have q := h2 w (by rw [hn]; simp)
            rw [h0 w (by rw [hn]; simp)] at q; cases q
        have : deadP g (1 - who) v = true := by
          have e5 : g.owner.getD v 0 = 1 - who := e3
          have e6 : (g.next.getD v []).length = 0 := by
            have := congrArg List.length e4
            simpa using this
          simp only [deadP, e5, e6]; simp
        rw [hd] at this; cases this
  | k + 1 => by
    rw [lev, lev_dead hm hw k]; rfl
theorem reg_dead (hm : mayE g = 0) (hw : who = 0 ∨ who = 1) : regL g who (tab g.owner.length (deadP g (1 - who))) = regL g who [] := by
  rw [reg_lev, reg_lev, lev_dead hm hw, lev_stop]
theorem rk_all (h : hasN a v = true) (hv : v < g.owner.length) : rkN g who a v = 0 := rk_at (k := 0) ⟨(lv_zero hv).2 h, fun j hj => by omega⟩
end

/-! ### Rows that are filled -/
def stB (n x : Nat) (P : Nat → Bool) : List AV := tab n fun i => .bool (decide (i < x) && P i)
@[simp] theorem stB_len (n x : Nat) (P : Nat → Bool) : (stB n x P).length = n := length_tab _ _
theorem stB_zero (n : Nat) (P : Nat → Bool) : (tab n fun _ => AV.bool false) = stB n 0 P := tab_congr fun i _ => by simp
theorem stB_set (n x : Nat) (P : Nat → Bool) : (stB n x P).set x (.bool (P x)) = stB n (x + 1) P := by
  unfold stB
  rw [set_tab]
  refine tab_congr fun i hi => ?_
  by_cases e : i = x
  · subst e; simp
  · by_cases h1 : i < x
    · simp [e, h1, show i < x + 1 by omega]
    · simp [e, h1, show ¬ i < x + 1 by omega]
theorem stB_full (n : Nat) (P : Nat → Bool) : stB n n P = bools (tab n P) := by
  simp only [stB, bools, map_tab]
  exact tab_congr fun i hi => by simp [hi]
theorem stB_ones (n x : Nat) (P : Nat → Bool) : ∀ u ∈ stB n x P, u.flat = [u] := ones_bools _ _
theorem upd_two {h : Heap} {o1 o2 : Nat} (hne : o1 ≠ o2) : (∀ X Y, upd (upd h o1 X) o2 Y o1 = X) ∧ ∀ X Y X', upd (upd (upd h o1 X) o2 Y) o1 X' = upd (upd h o1 X') o2 Y := by
  refine ⟨fun X Y => by rw [upd_ne _ _ hne, upd_same], fun X Y X' => ?_⟩
  rw [upd_comm _ _ _ (Ne.symm hne), upd_upd]

theorem keep_who {g : G} {who : Int} {a : List Bool} {v : Nat} (hv : v < g.owner.length) (h : hasN (regL g who a) v = false) :
    hasN a v = false ∧ (ow g v = who → (nx g v).countP (fun w => !hasN (regL g who a) w.toNat) = (nx g v).length) ∧ (ow g v ≠ who → (nx g v).countP (fun w => !hasN (regL g who a) w.toNat) ≠ 0) := by
  refine ⟨?_, fun ho => ?_, fun ho hc => ?_⟩
  · cases q : hasN a v with
    | false => rfl
    | true => rw [reg_in hv q] at h; cases h
  · rw [List.countP_eq_length]
    intro w hw
    cases q : hasN (regL g who a) w.toNat with
    | false => rfl
    | true => rw [reg_force hv (force_iff.2 (.inl ⟨ho, w, hw, q⟩))] at h; cases h
  · rw [List.countP_eq_zero] at hc
    have := reg_force hv (force_iff.2 (.inr ⟨ho, fun w hw => by simpa using hc w hw⟩))
    rw [this] at h; cases h

end Go.Par

set_option linter.unusedSimpArgs false
set_option linter.unusedVariables false
namespace Go.Par

section
variable {g : G} {who : Int} {a : List Bool} {v k : Nat}

theorem rank_step (h : atR g who a v (k + 1)) : forceP g who (lev g who a k) v = true := by
  have hv := lv_lt h.1
  rcases (lv_succ hv).1 h.1 with q | q
  · exact absurd q (h.2 k (by omega))
  · exact q

/-- What ranks are. -/
structure IsRk (g : G) (who : Int) (a : List Bool) (R : List Int) : Prop where
  len : R.length = g.owner.length
  lo : ∀ v, v < g.owner.length → -1 ≤ R.getD v 0
  hi : ∀ v, v < g.owner.length → R.getD v 0 ≤ g.owner.length
  zero : ∀ v, v < g.owner.length → (R.getD v 0 = 0 ↔ hasN a v = true)
  opp : ∀ v, v < g.owner.length → 1 ≤ R.getD v 0 → ow g v ≠ who → ∀ w ∈ nx g v, 0 ≤ R.getD w.toNat 0 ∧ R.getD w.toNat 0 < R.getD v 0
  max : ∀ v, v < g.owner.length → 1 ≤ R.getD v 0 → ow g v ≠ who → nx g v ≠ [] → ∃ w ∈ nx g v, R.getD w.toNat 0 + 1 = R.getD v 0
  one : ∀ v, v < g.owner.length → 1 ≤ R.getD v 0 → ow g v ≠ who → nx g v = [] → R.getD v 0 = 1
  own : ∀ v, v < g.owner.length → 1 ≤ R.getD v 0 → ow g v = who → ∃ w ∈ nx g v, 0 ≤ R.getD w.toNat 0 ∧ R.getD w.toNat 0 < R.getD v 0
  min : ∀ v, v < g.owner.length → 1 ≤ R.getD v 0 → ow g v = who → ∀ w ∈ nx g v, 0 ≤ R.getD w.toNat 0 → R.getD v 0 ≤ R.getD w.toNat 0 + 1
  out : ∀ v, v < g.owner.length → R.getD v 0 < 0 → ow g v = who → ∀ w ∈ nx g v, R.getD w.toNat 0 < 0

theorem isRk (hm : mayE g = 0) : IsRk g who a (ranksL g who a) := by
  have gd : ∀ v, v < g.owner.length → (ranksL g who a).getD v 0 = rkN g who a v := fun v hv => ranksL_getD hv
  have gw : ∀ v, v < g.owner.length → ∀ w ∈ nx g v, w.toNat < g.owner.length := fun v hv w hw => by have := (nx_ok hm hv).2 w hw; omega
  have at1 : ∀ v, 1 ≤ rkN g who a v → ∃ k : Nat, rkN g who a v = ((k + 1 : Nat) : Int) ∧ atR g who a v (k + 1) := by
    intro v h1
    rcases rk_cases (g := g) (who := who) (s := a) v with ⟨q, _⟩ | ⟨j, q, h⟩
    · omega
    · obtain ⟨k, rfl⟩ : ∃ k, j = k + 1 := ⟨j - 1, by omega⟩
      exact ⟨k, q, h⟩
  refine ⟨ranksL_len _ _ _, fun v hv => by rw [gd v hv]; exact rk_ge, fun v hv => by rw [gd v hv]; exact rk_lt, fun v hv => ?_, fun v hv h1 ho w hw => ?_, fun v hv h1 ho hn => ?_, fun v hv h1 ho hn => ?_, fun v hv h1 ho => ?_, fun v hv h1 ho w hw h0 => ?_, fun v hv h1 ho w hw => ?_⟩
  · rw [gd v hv]
    constructor
    · intro h
      rcases rk_cases (g := g) (who := who) (s := a) v with ⟨q, _⟩ | ⟨j, q, hj⟩
      · omega
      · obtain rfl : j = 0 := by omega
        exact (lv_zero hv).1 hj.1
    · intro h; exact rk_all h hv
  · rw [gd v hv] at h1 ⊢
    rw [gd _ (gw v hv w hw)]
    obtain ⟨k, e, h⟩ := at1 v h1
    rcases force_iff.1 (rank_step h) with ⟨q, _⟩ | ⟨_, q⟩
    · exact absurd q ho
    · obtain ⟨q1, q2⟩ := rk_le_iff.2 (q w hw)
      exact ⟨q1, by omega⟩
  · rw [gd v hv] at h1
    obtain ⟨k, e, h⟩ := at1 v h1
    have hall : ∀ w ∈ nx g v, lv g who a k w.toNat := by
      rcases force_iff.1 (rank_step h) with ⟨q, _⟩ | ⟨_, q⟩
      · exact absurd q ho
      · exact q
    by_cases c : ∃ w ∈ nx g v, rkN g who a w.toNat = k
    · obtain ⟨w, hw, q⟩ := c
      exact ⟨w, hw, by rw [gd _ (gw v hv w hw), gd v hv]; omega⟩
    · exfalso
      cases hk : k with
      | zero =>
        cases hn' : nx g v with
        | nil => exact hn hn'
        | cons w l =>
          have hw : w ∈ nx g v := by rw [hn']; simp
          obtain ⟨q1, q2⟩ := rk_le_iff.2 (hall w hw)
          exact c ⟨w, hw, by omega⟩
      | succ j =>
        refine h.2 (j + 1) (by omega) ((lv_succ hv).2 (.inr (force_iff.2 (.inr ⟨ho, fun w hw => ?_⟩))))
        obtain ⟨q1, q2⟩ := rk_le_iff.2 (hall w hw)
        have : rkN g who a w.toNat ≠ k := fun q => c ⟨w, hw, q⟩
        exact rk_le_iff.1 ⟨q1, by omega⟩
  · rw [gd v hv] at h1 ⊢
    obtain ⟨k, e, h⟩ := at1 v h1
    have h2 : lv g who a 1 v := (lv_succ hv).2 (.inr (force_iff.2 (.inr ⟨ho, fun w hw => by rw [hn] at hw; cases hw⟩)))
    have := atR_le h h2
    omega
  · rw [gd v hv] at h1 ⊢
    obtain ⟨k, e, h⟩ := at1 v h1
    rcases force_iff.1 (rank_step h) with ⟨_, w, hw, q⟩ | ⟨q, _⟩
    · obtain ⟨q1, q2⟩ := rk_le_iff.2 q
      exact ⟨w, hw, by rw [gd _ (gw v hv w hw)]; exact q1, by rw [gd _ (gw v hv w hw)]; omega⟩
    · exact absurd ho q
  · rw [gd v hv] at h1 ⊢
    rw [gd _ (gw v hv w hw)] at h0 ⊢
    obtain ⟨j, hj⟩ : ∃ j : Nat, rkN g who a w.toNat = j := ⟨(rkN g who a w.toNat).toNat, by omega⟩
    have hl := rk_le_iff.1 ⟨h0, Int.le_of_eq hj⟩
    have h2 : lv g who a (j + 1) v := (lv_succ hv).2 (.inr (force_iff.2 (.inl ⟨ho, w, hw, hl⟩)))
    have := (rk_le_iff.2 h2).2
    omega
  · rw [gd v hv] at h1
    rw [gd _ (gw v hv w hw)]
    rcases Int.lt_or_le (rkN g who a w.toNat) 0 with q | q
    · exact q
    · exfalso
      obtain ⟨j, hj⟩ := rk_pos_iff.1 q
      have h2 : lv g who a (j + 1) v := (lv_succ hv).2 (.inr (force_iff.2 (.inl ⟨ho, w, hw, hj⟩)))
      have := (rk_le_iff.2 h2).1
      omega

/-- Where one goes. -/
theorem way_some {R : List Int} (hm : mayE g = 0) (I : IsRk g who a R) (hv : v < g.owner.length) (h1 : 1 ≤ R.getD v 0) (ho : ow g v = who) :
    ∃ u : Nat, (awaysR g who R).getD v 0 = u ∧ u < g.owner.length ∧ (u : Int) ∈ nx g v ∧ 0 ≤ R.getD u 0 ∧ R.getD u 0 + 1 = R.getD v 0 := by
  obtain ⟨w, hw, q1, q2⟩ := I.own v hv h1 ho
  have e : (awaysR g who R).getD v 0 = awayR g who R v := by rw [awaysR, getD_tab, if_pos hv]
  rw [e]
  unfold awayR
  rw [if_neg (by rintro (h | h); exact h ho; omega)]
  cases hf : (nx g v).find? (wpred R (R.getD v 0)) with
  | none =>
    rw [List.find?_eq_none] at hf
    exact absurd (by simp only [wpred, Bool.and_eq_true, decide_eq_true_eq]; exact ⟨q1, q2⟩) (hf w hw)
  | some x =>
    have hx := List.mem_of_find?_eq_some hf
    have hp := List.find?_some hf
    simp only [wpred, Bool.and_eq_true, decide_eq_true_eq] at hp
    obtain ⟨x0, x1⟩ := (nx_ok hm hv).2 x hx
    have := I.min v hv h1 ho x hx hp.1
    refine ⟨x.toNat, by simp only [Option.getD_some]; omega, by omega, by rwa [Int.toNat_of_nonneg x0], hp.1, by omega⟩
theorem way_none {R : List Int} (hv : v < g.owner.length) (h : ow g v ≠ who ∨ R.getD v 0 < 1) : (awaysR g who R).getD v 0 = -1 := by
  have e : (awaysR g who R).getD v 0 = awayR g who R v := by rw [awaysR, getD_tab, if_pos hv]
  rw [e, awayR, if_pos h]
end
end Go.Par

set_option linter.unusedSimpArgs false
set_option linter.unusedVariables false
namespace Go.Par

structure FolOk (g : G) (who : Int) (R : List Int) (l : List Int) (v : Nat) : Prop where
  own : ow g v = who → l.length = 1
  all : ∀ w ∈ l, 0 ≤ w ∧ w < g.owner.length ∧ 0 ≤ R.getD w.toNat 0 ∧ R.getD w.toNat 0 < R.getD v 0
  most : l ≠ [] → ∃ w ∈ l, R.getD w.toNat 0 + 1 = R.getD v 0
  none : l = [] → R.getD v 0 = 1

theorem fol_ok {g : G} {who : Int} {a : List Bool} {R : List Int} {v : Nat} (hm : mayE g = 0) (I : IsRk g who a R) (hv : v < g.owner.length) (h1 : 1 ≤ R.getD v 0) : FolOk g who R (waysRow g (followP g who (awaysR g who R)) v) v := by
  have lY : (awaysR g who R).length = g.owner.length := length_tab _ _
  by_cases ho : ow g v = who
  · obtain ⟨u, hu, hun, hmem, h0, h2⟩ := way_some hm I hv h1 ho
    have e : waysRow g (followP g who (awaysR g who R)) v = [(u : Int)] := by
      unfold waysRow
      have e1 : (nx g v).filter (followP g who (awaysR g who R) v) = (nx g v).filter (· == (u : Int)) := by
        refine List.filter_congr fun w _ => ?_
        have ho' : g.owner.getD v 0 = who := ho
        simp only [followP, ho', hu, lY, hv, decide_true, Bool.not_true, Bool.false_or, Bool.true_and]
        by_cases q : w = (u : Int)
        · simp [q]
        · have : ¬ (u : Int) = w := fun h => q h.symm
          simp [q, this]
      have e2 := filter_sorted (u : Int) (nx_ok hm hv).1
      rw [if_pos hmem] at e2
      exact e1.trans e2
    rw [e]
    refine ⟨fun _ => rfl, fun w hw => ?_, fun _ => ⟨u, by simp, by simpa using h2⟩, fun h => by cases h⟩
    simp only [List.mem_singleton] at hw
    subst hw
    refine ⟨by omega, by omega, ?_, ?_⟩
    · simpa using h0
    · simp only [Int.toNat_natCast]; omega
  · have e : waysRow g (followP g who (awaysR g who R)) v = nx g v := by
      unfold waysRow
      refine List.filter_eq_self.2 fun w _ => ?_
      have ho' : ¬ g.owner.getD v 0 = who := ho
      simp only [followP, ho']
      simp
    rw [e]
    refine ⟨fun h => absurd h ho, fun w hw => ?_, fun hn => I.max v hv h1 ho hn, fun hn => I.one v hv h1 ho hn⟩
    obtain ⟨w0, w1⟩ := (nx_ok hm hv).2 w hw
    obtain ⟨q1, q2⟩ := I.opp v hv h1 ho w hw
    exact ⟨w0, w1, q1, q2⟩
end Go.Par

set_option linter.unusedSimpArgs false
set_option linter.unusedVariables false
set_option maxRecDepth 8000
set_option maxHeartbeats 1000000
namespace Go.Par
open Go.Proofs

noncomputable def keepL (g : G) (who : Int) (s : List Bool) : List Bool := notL g (regL g (1 - who) (notL g s))
theorem keepL_len (g : G) (who : Int) (s : List Bool) : (keepL g who s).length = g.owner.length := len_not _ _
noncomputable def keepA (g : G) (who : Int) (s : List Bool) : AV := if okP g who then .ro true (bools (keepL g who s)) else .nils
def kpred (R : List Bool) (w : Int) : Bool := hasI R w
def kwayR (g : G) (who : Int) (R : List Bool) (v : Nat) : Int := if ow g v ≠ who ∨ hasN R v = false then -1 else ((nx g v).find? (kpred R)).getD (-1)
def kwaysR (g : G) (who : Int) (R : List Bool) : List Int := tab g.owner.length (kwayR g who R)
noncomputable def kwayL (g : G) (who : Int) (s : List Bool) : List Int := kwaysR g who (keepL g who s)
noncomputable def kwayA (g : G) (who : Int) (s : List Bool) : AV := if okP g who then .ro true (ints (kwayL g who s)) else .nils
def kwayX (g : G) (who : Int) (R : List Bool) (x : Nat) : List Int := tab g.owner.length fun v => if v < x then kwayR g who R v else 0
theorem kwayX_len (g : G) (who : Int) (R : List Bool) (x : Nat) : (kwayX g who R x).length = g.owner.length := length_tab _ _
theorem kwayX_set (g : G) (who : Int) (R : List Bool) (x : Nat) : (kwayX g who R x).set x (kwayR g who R x) = kwayX g who R (x + 1) := by
  rw [kwayX, set_tab]
  refine tab_congr fun v _ => ?_
  by_cases e : v = x
  · subst e; simp
  · by_cases h : v < x
    · simp [e, h, show v < x + 1 by omega]
    · simp [e, h, show ¬ v < x + 1 by omega]

end Go.Par

set_option linter.unusedSimpArgs false
set_option linter.unusedVariables false
set_option maxRecDepth 8000
set_option maxHeartbeats 1000000
namespace Go.Par
open Go.Proofs

def ring13 : G := ⟨[0, 1, 1], [[1], [0, 2], []]⟩
theorem ring13_fits : ring13.fits := ⟨by decide, by decide, by decide⟩
theorem ring13_ok : okP ring13 1 := ⟨rfl, .inr rfl⟩
theorem ring13_keep : keepL ring13 1 [true, true, true] = [true, true, false] := by
  rw [keepL, reg_lev]; rfl
theorem ring13_keepA : keepA ring13 1 [true, true, true] = .ro true (bools [true, true, false]) := by rw [keepA, if_pos ring13_ok, ring13_keep]
theorem ring13_wayA : kwayA ring13 1 [true, true, true] = .ro true (ints [-1, 0, -1]) := by
  rw [kwayA, if_pos ring13_ok, kwayL, ring13_keep]; rfl

/-! ### What is kept: plain laws -/
section
variable {g : G} {who : Int} {a b : List Bool} {v : Nat}
theorem has_keep (hv : v < g.owner.length) : hasN (keepL g who a) v = !hasN (regL g (1 - who) (notL g a)) v := has_not hv
theorem not_not' {l : List Bool} (hl : l.length = g.owner.length) : notL g (notL g l) = l := by
  refine (tab_ext hl fun v hv => ?_).symm
  have hl' : v < l.length := by omega
  rw [has_not hv]
  simp [hasN, hl']
theorem keep_keep (g : G) (who : Int) (a : List Bool) : keepL g who (keepL g who a) = keepL g who a := by
  have e : notL g (keepL g who a) = regL g (1 - who) (notL g a) := not_not' (regL_len _ _ _)
  unfold keepL at e ⊢
  rw [e, reg_reg]
theorem keep_in (hv : v < g.owner.length) (h : hasN (keepL g who a) v = true) : hasN a v = true := by
  rw [has_keep hv, Bool.not_eq_true'] at h
  have := (keep_who hv h).1
  rw [has_not hv] at this
  simpa using this
theorem keep_mono (hm : mayE g = 0) (h : ∀ v, v < g.owner.length → hasN a v = true → hasN b v = true) (hv : v < g.owner.length) (q : hasN (keepL g who a) v = true) : hasN (keepL g who b) v = true := by
  rw [has_keep hv, Bool.not_eq_true'] at q ⊢
  cases r : hasN (regL g (1 - who) (notL g b)) v with
  | false => rfl
  | true =>
    rw [reg_lev] at r
    have := lev_sub hm (who := 1 - who) (a := notL g b) (b := notL g a) (fun u hu hq => by
      rw [has_not hu] at hq ⊢
      cases c : hasN a u with
      | false => rfl
      | true => rw [h u hu c] at hq; cases hq) g.owner.length v hv r
    rw [reg_lev, this] at q; cases q
theorem keep_nil (hv : v < g.owner.length) : hasN (keepL g who []) v = false := by
  cases h : hasN (keepL g who []) v with
  | false => rfl
  | true => have := keep_in hv h; simp [hasN] at this
/-- From where one keeps: the other one goes nowhere else, and one has a way. -/
theorem keep_next (hm : mayE g = 0) (hw : who = 0 ∨ who = 1) (hv : v < g.owner.length) (h : hasN (keepL g who a) v = true) :
    (ow g v ≠ who → ∀ w ∈ nx g v, hasN (keepL g who a) w.toNat = true) ∧ (ow g v = who → ∃ w ∈ nx g v, hasN (keepL g who a) w.toNat = true) := by
  have hr := h
  rw [has_keep hv, Bool.not_eq_true'] at hr
  obtain ⟨_, q1, q2⟩ := keep_who hv hr
  have ho := ow_ok hm hv
  have hk : ∀ w ∈ nx g v, hasN (keepL g who a) w.toNat = !hasN (regL g (1 - who) (notL g a)) w.toNat := fun w hw => by
    obtain ⟨w0, w1⟩ := (nx_ok hm hv).2 w hw
    exact has_keep (by omega)
  refine ⟨fun hne w hwm => ?_, fun he => ?_⟩
  · have := q1 (by omega)
    rw [List.countP_eq_length] at this
    rw [hk w hwm]; exact this w hwm
  · have := q2 (by omega)
    obtain ⟨w, hwm, q⟩ := List.countP_pos_iff.1 (Nat.pos_of_ne_zero this)
    exact ⟨w, hwm, by rw [hk w hwm]; exact q⟩
end
end Go.Par

set_option linter.unusedSimpArgs false
set_option linter.unusedVariables false
namespace Go.Par

theorem kway_some {g : G} {who : Int} {a : List Bool} {v : Nat} (hm : mayE g = 0) (hw : who = 0 ∨ who = 1) (hv : v < g.owner.length) (h : hasN (keepL g who a) v = true) (ho : ow g v = who) :
    ∃ u : Nat, (kwaysR g who (keepL g who a)).getD v 0 = u ∧ u < g.owner.length ∧ (u : Int) ∈ nx g v ∧ hasN (keepL g who a) u = true := by
  obtain ⟨w, hwm, q⟩ := (keep_next hm hw hv h).2 ho
  have e : (kwaysR g who (keepL g who a)).getD v 0 = kwayR g who (keepL g who a) v := by rw [kwaysR, getD_tab, if_pos hv]
  rw [e]
  unfold kwayR
  rw [if_neg (by rintro (h2 | h2); exact h2 ho; rw [h] at h2; cases h2)]
  cases hf : (nx g v).find? (kpred (keepL g who a)) with
  | none =>
    rw [List.find?_eq_none] at hf
    exact absurd q (hf w hwm)
  | some x =>
    have hx := List.mem_of_find?_eq_some hf
    have hp := List.find?_some hf
    obtain ⟨x0, x1⟩ := (nx_ok hm hv).2 x hx
    exact ⟨x.toNat, by simp only [Option.getD_some]; omega, by omega, by rwa [Int.toNat_of_nonneg x0], hp⟩

/-- The ways that are left where one keeps. -/
theorem keep_row {g : G} {who : Int} {a : List Bool} {v : Nat} (hm : mayE g = 0) (hw : who = 0 ∨ who = 1) (hv : v < g.owner.length) (h : hasN (keepL g who a) v = true) :
    (ow g v = who → (waysRow g (followP g who (kwaysR g who (keepL g who a))) v).length = 1) ∧ ∀ w ∈ waysRow g (followP g who (kwaysR g who (keepL g who a))) v, hasN (keepL g who a) w.toNat = true := by
  have lY : (kwaysR g who (keepL g who a)).length = g.owner.length := length_tab _ _
  by_cases ho : ow g v = who
  · obtain ⟨u, hu, hun, hmem, hk⟩ := kway_some hm hw hv h ho
    have e : waysRow g (followP g who (kwaysR g who (keepL g who a))) v = [(u : Int)] := by
      unfold waysRow
      have e1 : (nx g v).filter (followP g who (kwaysR g who (keepL g who a)) v) = (nx g v).filter (· == (u : Int)) := by
        refine List.filter_congr fun w _ => ?_
        have ho' : g.owner.getD v 0 = who := ho
        simp only [followP, ho', hu, lY, hv, decide_true, Bool.not_true, Bool.false_or, Bool.true_and]
        by_cases q : w = (u : Int)
        · simp [q]
        · have : ¬ (u : Int) = w := fun h => q h.symm
          simp [q, this]
      have e2 := filter_sorted (u : Int) (nx_ok hm hv).1
      rw [if_pos hmem] at e2
      exact e1.trans e2
    rw [e]
    refine ⟨fun _ => rfl, fun w hw => ?_⟩
    simp only [List.mem_singleton] at hw
    subst hw
    simpa using hk
  · refine ⟨fun q => absurd q ho, fun w hwm => ?_⟩
    exact (keep_next hm hw hv h).1 ho w ((List.mem_filter.1 hwm).1)

open Classical in
theorem keep_reach {g : G} {who : Int} {a : List Bool} (hm : mayE g = 0) (hw : who = 0 ∨ who = 1) : reachL (waysG g (followP g who (kwaysR g who (keepL g who a)))) (keepL g who a) = keepL g who a := by
  obtain ⟨p, hp⟩ : ∃ p, p = followP g who (kwaysR g who (keepL g who a)) := ⟨_, rfl⟩
  have hn2 := (may_ok hm).2.1
  have e1 : (waysG g p).owner = g.owner := by rw [waysG_eq hm]
  have row : ∀ v, v < g.owner.length → (waysG g p).next.getD v [] = waysRow g p v := by
    intro v hv
    rw [waysG_eq hm]
    show (waysL g p).getD v [] = _
    rw [waysL, getD_tab, if_pos (by omega)]
  have key : ∀ v, Reaches (waysG g p) (keepL g who a) v → v < g.owner.length ∧ hasN (keepL g who a) v = true := by
    intro v h
    induction h with
    | start v hv hf => exact ⟨by rw [e1] at hv; exact hv, hf⟩
    | step v w _ hwm ih =>
      obtain ⟨hv, hk⟩ := ih
      rw [row v hv] at hwm
      have h2 := (keep_row hm hw hv hk).2 (w : Int) (by rw [← hp]; exact hwm)
      have h3 := (nx_ok hm hv).2 (w : Int) ((List.mem_filter.1 hwm).1)
      exact ⟨by omega, by simpa using h2⟩
  rw [← hp]
  unfold reachL
  rw [e1]
  refine (tab_ext (keepL_len g who a) fun v hv => ?_).symm
  have hl : v < (keepL g who a).length := by rw [keepL_len]; exact hv
  rw [List.getElem?_eq_getElem hl]
  congr 1
  have e : (keepL g who a)[v] = hasN (keepL g who a) v := by simp [hasN, hl]
  rw [e]
  by_cases c : hasN (keepL g who a) v = true
  · rw [c]
    exact (decide_eq_true (Reaches.start v (by rw [e1]; exact hv) c)).symm
  · have : ¬ Reaches (waysG g p) (keepL g who a) v := fun q => c (key v q).2
    rw [decide_eq_false this]
    simpa using c
end Go.Par
