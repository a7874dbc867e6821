import Derived.Test.YtkpdhglbkmbojaaGrD
import Derived.Test.YtkpdhglbkmbojaaRcA
set_option linter.unusedSimpArgs false
set_option linter.unusedVariables false
set_option maxRecDepth 8000
set_option maxHeartbeats 1000000
namespace Go.Par
open Go.Proofs

/-! ### One row of assume that is always met: plain laws -/
section
variable {g : G} {a : List Bool}
theorem great_all (hm : mayE g = 0) (ha : ∀ v, v < g.owner.length → hasN a v = true) (s : List Bool) {v : Nat} (hv : v < g.owner.length) : hasN (great g (stepL g s a)) v = hasN s v := by
  have e := (great_spec (step_mon hm s a)).1
  rw [← e, stepL, has_or hv, has_and hv, has_not hv, ha v hv]
  simp
theorem level_all (hm : mayE g = 0) (ha : ∀ v, v < g.owner.length → hasN a v = true) (goal y : List Bool) {v : Nat} (hv : v < g.owner.length) : hasN (levelL g [a] goal y) v = (hasN goal v || hasN (forceL g 1 y) v) := by
  rw [Bool.eq_iff_iff, levelL, levelK_has hv]
  constructor
  · rintro ⟨i, hi, q⟩
    obtain rfl : i = 0 := by simpa using hi
    rw [show ([a] : List (List Bool)).getD 0 [] = a from rfl, great_all hm ha _ hv, sureL, has_or hv] at q
    exact q
  · intro q
    refine ⟨0, by simp, ?_⟩
    rw [show ([a] : List (List Bool)).getD 0 [] = a from rfl, great_all hm ha _ hv, sureL, has_or hv]
    exact q
theorem least_all (hm : mayE g = 0) (ha : ∀ v, v < g.owner.length → hasN a v = true) (row z : List Bool) : leastL g [a] row z = regL g 1 (goalL g row z) := by
  obtain ⟨h1, h2, h3⟩ := least_spec hm (A := [a]) (by simp) row z
  refine leS.antisymm h2 (regL_len _ _ _) (h3 _ ?_) ?_
  · intro v hv q
    rw [level_all hm ha _ _ hv, Bool.or_eq_true] at q
    rcases q with q | q
    · exact reg_in hv q
    · rw [has_force hv] at q; exact reg_force hv q
  · rw [reg_lev]
    have key : ∀ k, leS g.owner.length (lev g 1 (goalL g row z) k) (leastL g [a] row z) := by
      intro k
      induction k with
      | zero =>
        intro v hv q
        rw [← h1, level_all hm ha _ _ hv, (lv_zero hv).1 q, Bool.true_or]
      | succ k ih =>
        intro v hv q
        rcases (lv_succ hv).1 q with q | q
        · exact ih v hv q
        · rw [← h1, level_all hm ha _ _ hv, force_mono hm ih v hv (by rw [has_force hv]; exact q), Bool.or_true]
    exact key _
theorem goal_and (g : G) (row z : List Bool) : goalL g row z = andL g row (forceL g 1 z) := rfl

theorem solve_all (hm : mayE g = 0) {A E : List (List Bool)} {e : List Bool} (ha : ∀ v, v < g.owner.length → hasN a v = true) (hA : rowsL g A = [a]) (hE : rowsL g E = [e]) : (solveL g A E).1 = agL g 1 e := by
  obtain ⟨h1, h2, _, h4⟩ := solve_spec hm A E
  rw [hA, hE] at h1 h4
  rw [hA] at h2
  have hf := round_fix hm (A := [a]) (by simp) [e] h2 h1 0 (by simp)
  rw [show ([e] : List (List Bool)).getD 0 [] = e from rfl, least_all hm ha] at hf
  have hz : agF g 1 e (solveL g A E).1 = (solveL g A E).1 := hf
  refine leS.antisymm h2.1 (ag_len hm _) ((ag_spec hm e).2.2 _ (by rw [hz]; exact leS.refl _)) (h4 _ fun i hi x hx => ?_)
  obtain rfl : i = 0 := by simpa using hi
  rw [show ([e] : List (List Bool)).getD 0 [] = e from rfl, least_all hm ha]
  have q := (ag_mon (who := 1) hm e).mono _ _ hx
  rw [(ag_spec (who := 1) hm e).1] at q
  exact q
end

def keepF (g : G) (who : Int) (x : List Bool) : List Bool := andL g x (forceL g who x)
def keepR (g : G) (who : Int) (s : List Bool) : List Bool := fixG (keepF g who) (g.owner.length + 1) (rowL g s)
def keepRA (g : G) (who : Int) (s : List Bool) : AV := if okForce g who then .ro true (bools (keepR g who s)) else .nils
theorem keepF_mon {g : G} (hm : mayE g = 0) (who : Int) : Mon g.owner.length (keepF g who) := ⟨fun _ => len_and _ _ _, fun _ _ h => and_mono h (force_mono hm h)⟩
theorem keepF_le {g : G} {who : Int} (x : List Bool) : leS g.owner.length (keepF g who x) x := fun v hv q => by
  rw [keepF, has_and hv, Bool.and_eq_true] at q; exact q.1
theorem rowL_len (g : G) (s : List Bool) : (rowL g s).length = g.owner.length := length_tab _ _
theorem keepR_spec {g : G} (hm : mayE g = 0) (who : Int) (s : List Bool) : keepF g who (keepR g who s) = keepR g who s ∧ leS g.owner.length (keepR g who s) (rowL g s) ∧ (keepR g who s).length = g.owner.length ∧ ∀ y, leS g.owner.length y (keepF g who y) → leS g.owner.length y (rowL g s) → leS g.owner.length y (keepR g who s) := by
  have hc : cntS (rowL g s) < g.owner.length + 1 := by have := cntS_le (rowL g s); rw [rowL_len] at this; omega
  exact fix_down (keepF_mon hm who) _ _ (rowL_len _ _) (keepF_le _) hc
theorem keepR_all {g : G} (hm : mayE g = 0) {who : Int} (hw : who = 0 ∨ who = 1) {a : List Bool} (ha : ∀ v, v < g.owner.length → hasN a v = true) : keepR g who a = agL g who (notL g []) := by
  obtain ⟨h1, h2, h3, h4⟩ := keepR_spec hm who a
  refine leS.antisymm h3 (ag_len hm _) ((ag_spec hm _).2.2 _ ?_) (h4 _ ?_ ?_)
  · intro v hv q
    rw [← h1, keepF, has_and hv, Bool.and_eq_true] at q
    refine reg_in hv ?_
    rw [has_and hv, has_top hv, q.2]; rfl
  · rw [ag_all hm hw]
    intro v hv q
    rw [keepF, has_and hv, q, Bool.true_and, has_force hv, force_iff]
    obtain ⟨q1, q2⟩ := keep_next hm hw hv q
    by_cases e : ow g v = who
    · obtain ⟨w, hwm, c⟩ := q2 e
      exact .inl ⟨e, w, hwm, c⟩
    · exact .inr ⟨e, q1 e⟩
  · intro v hv _
    rw [rowL, hasN_tab hv]; exact ha v hv

theorem r9_Keep (g : G) (hf : g.fits) (who : Int) (s : List Bool) : Pure Try.prog 31 [g.av, .int .i64 who, .ro false (bools s)] (keepRA g who s) := by
  intro h
  refine AC.body Θ_ok Try.func31 rfl rfl (Nat.le_of_ble_eq_true rfl) ?_
  refine AW.seq fun _ k1 => AW.region [] Θ_ok ?_
  simp
  refine k1 _ ?_
  by_cases hm : mayE g = 0
  · by_cases hw : who = 0 ∨ who = 1
    · have hok : okForce g who := ⟨hm, hw⟩
      have hn3 := (may_ok hm).1
      have hfin : keepRA g who s = .ro true (bools (keepR g who s)) := if_pos hok
      have hw' : (who == 0 || who == 1) = true := by rcases hw with h | h <;> simp [h]
      have sP := r9_Player who
      rw [hw'] at sP
      have sR := r9_Row g hf.owner s
      have hR : fixG (keepF g who) (g.owner.length + 1) (rowL g s) = keepR g who s := rfl
      have hct : cntS (rowL g s) < g.owner.length + 1 := by have := cntS_le (rowL g s); rw [rowL_len] at this; omega
      have htl := rowL_len g s
      generalize keepR g who s = R at *
      generalize rowL g s = z0 at *
      refine AW.seq fun _ k1 => ?_
      refine AW.seq fun _ k2 => AW.regionAt 2 [] Θ_ok fun B hB => ?_
      simp
      refine (r9_May g hf).use (by simp [G.av]) ?_
      refine hB _ ?_
      clear hB B
      refine vcOps_split 4 fun B hB => ?_
      simp [hm]
      refine sP.use (by simp) ?_
      refine hB _ ?_
      clear hB B
      simp
      refine k2 _ ?_
      refine AW.cond false (by simp [Int.natCast_inj]) (fun h => by cases h) (fun _ => ?_)
      refine AW.skip ?_
      simp
      refine k1 _ ?_
      refine AW.seq fun _ k1 => AW.regionAt 3 [] Θ_ok fun B hB => ?_
      simp
      refine sR.use (by simp [G.av]) ?_
      refine hB _ ?_
      clear hB B
      simp
      refine k1 _ ?_
      refine AW.block ?_
      refine AW.loopI (X := AgX) (fun z => z.y.length = g.owner.length ∧ cntS z.y < z.f ∧ fixG (keepF g who) z.f z.y = R) (fun z => ⟨31, [(1, .int .i64 who), (3, .rop [.ro false (ints g.owner), .ro false (rows g.next)]), (7, .ro true (bools z.y))], h⟩) (fun z => z.f) ⟨z0, g.owner.length + 1⟩ ⟨htl, hct, hR⟩ (GStep.eq (by simp) (subH.refl _)) ?_
      clear htl hct hR sR sP
      rintro ⟨y, f⟩ ⟨hl, hc, hr⟩
      simp only at hl hc hr ⊢
      have sF := r9_Force g hf who y
      rw [forceA, if_pos hok] at sF
      have sA := r9_and y (forceL g who y) (by omega)
      rw [r9and_eq hl, show andL g y (forceL g who y) = keepF g who y from rfl] at sA
      have hl2 := (keepF_mon hm who).len y
      have hle := keepF_le (g := g) (who := who) y
      have hst : ∀ f', ¬ keepF g who y = y → fixG (keepF g who) (f' + 1) y = fixG (keepF g who) f' (keepF g who y) := fun f' q => fixG_step q
      have hat : keepF g who y = y → fixG (keepF g who) f y = y := fun q => fixG_at q
      generalize keepF g who y = w at *
      generalize forceL g who y = fo at *
      have sE := r9_SameRow y w (by omega)
      generalize hbv : decide (y = w) = bv at sE
      refine AW.block ?_
      refine AW.seq fun _ k1 => AW.regionAt 5 [] Θ_ok fun B hB => ?_
      simp
      refine sF.use (by simp [G.av]) ?_
      refine hB _ ?_
      clear hB B
      refine vcOps_split 1 fun B hB => ?_
      simp
      refine sA.use (by simp [G.av]) ?_
      refine hB _ ?_
      clear hB B
      simp
      refine k1 _ ?_
      refine AW.seq fun _ k1 => ?_
      refine AW.seq fun _ k2 => AW.regionAt 3 [] Θ_ok fun B hB => ?_
      simp
      refine sE.use (by simp) ?_
      refine hB _ ?_
      clear hB B
      simp
      refine k2 _ ?_
      cases bv
      · have e := of_decide_eq_false hbv
        clear hbv
        refine AW.cond false (by simp [Int.natCast_inj]) (fun h => by cases h) (fun _ => ?_)
        refine AW.skip ?_
        simp
        refine k1 _ ?_
        refine AW.region [] Θ_ok ?_
        simp
        obtain ⟨f', rfl⟩ : ∃ f', f = f' + 1 := ⟨f - 1, by omega⟩
        have hc' := (cnt_mono hl2 hl hle).2 fun q => e q.symm
        exact ⟨⟨w, f'⟩, ⟨hl2, by simp only; omega, by simp only; rw [← hr, hst f' fun q => e q.symm]⟩, by simp only; omega, GStep.eq (by simp) (subH.refl _)⟩
      · have e := of_decide_eq_true hbv
        clear hbv
        have hy : y = R := by rw [← hr, hat e.symm]
        subst hy
        refine AW.cond true (by simp [Int.natCast_inj]) (fun _ => ?_) (fun h => by cases h)
        refine AW.seq fun _ kr => AW.region [] Θ_ok ?_
        simp
        refine kr _ (AW.ret ?_)
        simp [Try.f31]
        exact Fin.refl ⟨hfin.symm, rfl⟩
    · have hfin : keepRA g who s = .nils := if_neg fun q => hw q.2
      have hw' : (who == 0 || who == 1) = false := by
        cases q : (who == 0 || who == 1) with
        | false => rfl
        | true => exact absurd (by simpa using q) hw
      have sP := r9_Player who
      rw [hw'] at sP
      refine AW.seq fun _ k1 => ?_
      refine AW.seq fun _ k2 => AW.regionAt 2 [] Θ_ok fun B hB => ?_
      simp
      refine (r9_May g hf).use (by simp [G.av]) ?_
      refine hB _ ?_
      clear hB B
      refine vcOps_split 4 fun B hB => ?_
      simp [hm]
      refine sP.use (by simp) ?_
      refine hB _ ?_
      clear hB B
      simp
      refine k2 _ ?_
      refine AW.cond true (by simp [Int.natCast_inj]) (fun _ => ?_) (fun h => by cases h)
      refine AW.seq fun _ kr => AW.region [] Θ_ok ?_
      simp
      refine kr _ (AW.ret ?_)
      simp [Try.f31]
      exact Fin.refl ⟨hfin.symm, rfl⟩
  · have hfin : keepRA g who s = .nils := if_neg fun q => hm q.1
    refine AW.seq fun _ k1 => ?_
    refine AW.seq fun _ k2 => AW.regionAt 2 [] Θ_ok fun B hB => ?_
    simp
    refine (r9_May g hf).use (by simp [G.av]) ?_
    refine hB _ ?_
    clear hB B
    simp [hm]
    refine k2 _ ?_
    refine AW.cond true (by simp [Int.natCast_inj, hm]) (fun _ => ?_) (fun h => by cases h)
    refine AW.seq fun _ kr => AW.region [] Θ_ok ?_
    simp
    refine kr _ (AW.ret ?_)
    simp [Try.f31]
    exact Fin.refl ⟨hfin.symm, rfl⟩
end Go.Par
