/- Who follows the ways comes again and again: plain laws; parryref9.Even walked. -/
import Derived.Test.YtihlpchiomkinaaRcB
import Derived.Test.YtihlpchiomkinaaWpB
import Derived.Test.YtihlpchiomkinaaWgA
set_option linter.unusedSimpArgs false
set_option linter.unusedVariables false
set_option maxRecDepth 8000
namespace Go.Par
open Go.Proofs

theorem r9_EvenB (next : List (List Int)) (ok : BigOk next) (P : List Int) (hP : P.length = next.length) (from_ : List Bool) : Pure Try.prog 28 [.ro false (rows next), .ro false (ints P), .ro false (bools from_)] (.bool (parB next P from_ 0)) := by
  have sM := r9_mayNext next ok
  have sP := r9_Parity next ok P hP from_ 0
  generalize parB next P from_ 0 = res at *
  intro h
  refine AC.body Θ_ok Try.func28 rfl rfl (Nat.le_of_ble_eq_true rfl) ?_
  refine AW.seq fun _ k1 => AW.region [] Θ_ok ?_
  simp
  refine k1 _ ?_
  refine AW.seq fun _ k1 => ?_
  refine AW.seq fun _ k2 => AW.regionAt 2 [] Θ_ok fun B hB => ?_
  simp
  refine sM.use (by simp) ?_
  refine hB _ ?_
  clear hB B
  simp [hP]
  refine k2 _ ?_
  refine AW.cond false (by simp [Int.natCast_inj]) (fun h => by cases h) (fun _ => ?_)
  refine AW.skip ?_
  simp
  refine k1 _ ?_
  refine AW.seq fun _ kr => AW.regionAt 4 [] Θ_ok fun B hB => ?_
  simp
  refine sP.use (by simp) ?_
  refine hB _ ?_
  clear hB B
  simp
  refine kr _ (AW.ret ?_)
  simp [Try.f28]
  exact Fin.refl ⟨rfl, rfl⟩

section
variable {g : G} {who : Int} {s : List Bool}
theorem recL_len (g : G) (who : Int) (s : List Bool) : (recL g who s).length = g.owner.length := length_tab _ _
theorem ag_reg (hm : mayE g = 0) : regL g who (goalR g who s) = agL g who s := (ag_spec hm s).1
theorem goal_has {v : Nat} (hv : v < g.owner.length) : hasN (goalR g who s) v = true ↔ hasN s v = true ∧ forceP g who (agL g who s) v = true := by
  rw [goalR, has_and hv, Bool.and_eq_true, has_force hv]
theorem rec_get {v : Nat} (hv : v < g.owner.length) : toT (recL g who s) v = recR g who (goalR g who s) (agL g who s) (awayL g who (goalR g who s)) v := by
  have hl : v < (recL g who s).length := by rw [recL_len]; exact hv
  have e : toT (recL g who s) v = (recL g who s).getD v 0 := by simp [toT, hl]
  rw [e, recL, recsR, getD_tab, if_pos hv]
def twoL (n : Nat) (s : List Bool) : List Int := tab n fun v => if hasN s v = true then 2 else 1
theorem twoL_get {n v : Nat} (hv : v < n) : prP (twoL n s) v = if hasN s v = true then 2 else 1 := by
  rw [prP, twoL, getD_tab, if_pos hv]
/-- Of each vertex one goes on within it; outside the goal ranks fall. -/
theorem rec_go (hm : mayE g = 0) (hw : who = 0 ∨ who = 1) : ∃ rk : Nat → Nat,
    (∀ v, v < g.owner.length → hasN (agL g who s) v = true → ow g v = who → ∃ w : Nat, toT (recL g who s) v = w ∧ gE g v w ∧ (w < g.owner.length ∧ hasN (agL g who s) w = true) ∧ (hasN (goalR g who s) v = false → rk w < rk v)) ∧
    (∀ v, v < g.owner.length → hasN (agL g who s) v = true → ow g v ≠ who → ∀ w, gE g v w → (w < g.owner.length ∧ hasN (agL g who s) w = true) ∧ (hasN (goalR g who s) v = false → rk w < rk v)) := by
  obtain ⟨rk, h1, h2⟩ := (att_reg hm hw (goalR g who s)).rank
  rw [ag_reg hm] at h1 h2
  refine ⟨rk, fun v hv hY ho => ?_, fun v hv hY ho w hE => ?_⟩
  · rw [rec_get hv]
    cases hg : hasN (goalR g who s) v with
    | false =>
      obtain ⟨w, q1, q2, q3, q4⟩ := h1 v ⟨hv, hY⟩ (fun q => by rw [hg] at q; cases q.2) ho
      refine ⟨w, ?_, q2, q3, fun _ => q4⟩
      rw [recR, if_pos (.inl hg)]; exact q1
    | true =>
      have hf := ((goal_has hv).1 hg).2
      rcases force_iff.1 hf with ⟨_, x, hx, q⟩ | ⟨q, _⟩
      · rw [recR, if_neg (by rintro (q | q); rw [hg] at q; cases q; exact q ho)]
        cases hfd : (nx g v).find? (kpred (agL g who s)) with
        | none =>
          rw [List.find?_eq_none] at hfd
          exact absurd q (hfd x hx)
        | some y =>
          have hy := List.mem_of_find?_eq_some hfd
          have hp := List.find?_some hfd
          obtain ⟨y0, y1⟩ := (nx_ok hm hv).2 y hy
          refine ⟨y.toNat, by simp only [Option.getD_some]; omega, by unfold gE; rwa [Int.toNat_of_nonneg y0], ⟨by omega, hp⟩, fun q => by cases q⟩
      · exact absurd ho q
  · have hwn := gE_lt hm hE hv
    cases hg : hasN (goalR g who s) v with
    | false =>
      obtain ⟨q1, q2⟩ := h2 v ⟨hv, hY⟩ (fun q => by rw [hg] at q; cases q.2) ho w hE hwn
      exact ⟨q1, fun _ => q2⟩
    | true =>
      have hf := ((goal_has hv).1 hg).2
      rcases force_iff.1 hf with ⟨q, _⟩ | ⟨_, q⟩
      · exact absurd q ho
      · exact ⟨⟨hwn, by have := q (w : Int) hE; simpa using this⟩, fun q => by cases q⟩
theorem rec_wn (hm : mayE g = 0) (hw : who = 0 ∨ who = 1) : Wn (gE g) (ow g) (fun _ => (1 - who).toNat) who (toT (recL g who s)) fun v => v < g.owner.length ∧ hasN (agL g who s) v = true := by
  obtain ⟨rk, h1, h2⟩ := rec_go (s := s) hm hw
  refine ⟨fun v hv ho => ?_, fun v hv ho w hE => (h2 v hv.1 hv.2 ho w hE).1, fun v hv e => ?_⟩
  · obtain ⟨w, q1, q2, q3, _⟩ := h1 v hv.1 hv.2 ho
    exact ⟨w, q1, q2, q3⟩
  · exfalso
    rcases hw with rfl | rfl <;> simp at e
theorem rec_in (hm : mayE g = 0) (hw : who = 0 ∨ who = 1) {v : Nat} (h : Reaches (folG g who (recL g who s)) (agL g who s) v) : v < g.owner.length ∧ hasN (agL g who s) v = true :=
  (Wn.reach hm (rec_wn (s := s) hm hw) (fun v hv q => ⟨hv, q⟩) h).2
theorem rec_reach (hm : mayE g = 0) (hw : who = 0 ∨ who = 1) : reachL (folG g who (recL g who s)) (agL g who s) = agL g who s := by
  obtain ⟨l1, l2⟩ := fol_len (who := who) (to_ := recL g who s) hm
  have hl := ag_len (who := who) hm s
  have len : (reachL (folG g who (recL g who s)) (agL g who s)).length = g.owner.length := by rw [← l1]; exact length_tab _ _
  have key : ∀ v, hasN (reachL (folG g who (recL g who s)) (agL g who s)) v = hasN (agL g who s) v := fun v => by
    rw [Bool.eq_iff_iff, reachL_has, l1]
    constructor
    · exact fun q => (rec_in hm hw q.2).2
    · intro q
      have hv := hasN_lt q
      rw [hl] at hv
      exact ⟨hv, .start v (by rw [l1]; exact hv) q⟩
  refine List.ext_getElem (by rw [len, hl]) fun v h1 h2 => ?_
  have := key v
  simpa [hasN, h1, h2] using this
theorem rec_row (hm : mayE g = 0) (hw : who = 0 ∨ who = 1) {v : Nat} (hv : v < g.owner.length) (h : hasN (agL g who s) v = true) (ho : ow g v = who) : (nx (folG g who (recL g who s)) v).length = 1 := by
  obtain ⟨rk, h1, _⟩ := rec_go (s := s) hm hw
  obtain ⟨w, q1, q2, q3, _⟩ := h1 v hv h ho
  rw [fol_nx hm hv]
  have e1 : (nx g v).filter (followP g who (recL g who s) v) = (nx g v).filter (· == (w : Int)) := by
    refine List.filter_congr fun x hx => ?_
    obtain ⟨x0, _⟩ := (nx_ok hm hv).2 x hx
    obtain ⟨y, rfl⟩ : ∃ y : Nat, x = y := ⟨x.toNat, by omega⟩
    rw [Bool.eq_iff_iff, follow_iff, beq_iff_eq]
    constructor
    · intro q; have := q ho; omega
    · intro q _; rw [q1, q]
  have e2 := filter_sorted (w : Int) (nx_ok hm hv).1
  rw [if_pos (show (w : Int) ∈ nx g v from q2)] at e2
  rw [e1, e2]; rfl
theorem rec_even (hm : mayE g = 0) (hw : who = 0 ∨ who = 1) : parB (folG g who (recL g who s)).next (twoL g.owner.length s) (agL g who s) 0 = true := by
  obtain ⟨rk, h1, h2⟩ := rec_go (s := s) hm hw
  refine parB_iff.2 fun w k => ?_
  have hon := fun x (q : onR (folG g who (recL g who s)).next (agL g who s) x) => rec_in hm hw ((on_iff' hm).1 q).2
  have hwn := hon w k.2.fst.1
  have hpw : prP (twoL g.owner.length s) w = 1 := by
    have := k.1
    rw [twoL_get hwn.1] at this ⊢
    split at this
    · exact absurd rfl this
    · rename_i q; rw [if_neg q]
  have := k.2.lt rk fun a b ha hb e => by
    have hin := hon a ha.1
    have hs : hasN (goalR g who s) a = false := by
      cases q : hasN (goalR g who s) a with
      | false => rfl
      | true =>
        have q1 := ((goal_has hin.1).1 q).1
        have q2 := ha.2
        rw [hpw, twoL_get hin.1, if_pos q1] at q2
        omega
    obtain ⟨_, e1, e2⟩ := (fol_edge hm).1 e
    by_cases ho : ow g a = who
    · obtain ⟨x, x1, x2, x3, x4⟩ := h1 a hin.1 hin.2 ho
      have : x = b := by have := e2 ho; omega
      subst this
      exact x4 hs
    · exact (h2 a hin.1 hin.2 ho b e1).2 hs
  omega
end
end Go.Par
