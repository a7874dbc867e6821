/- Does a strategy win: plain laws for parryref9.Wins and proof.Wins. -/
import Derived.Test.YtigipgahgkngcaaPyC
import Derived.Test.YtigipgahgkngcaaWgA
set_option linter.unusedSimpArgs false
set_option linter.unusedVariables false
namespace Go.Par

abbrev folG (g : G) (who : Int) (to_ : List Int) : G := waysG g (followP g who to_)
def toT (to_ : List Int) (v : Nat) : Int := to_.getD v (-1)
def stuckB (g : G) (who : Int) (to_ : List Int) (from_ : List Bool) (v : Nat) : Prop := hasN (reachL (folG g who to_) from_) v = true ∧ ow g v = who ∧ nx (folG g who to_) v = []
open Classical in
noncomputable def winsB (g : G) (P : List Int) (who : Int) (to_ : List Int) (from_ : List Bool) : Bool :=
  mayP g P && decide (who = 0 ∨ who = 1) && decide (∀ v, v < g.owner.length → ¬ stuckB g who to_ from_ v) && parB (folG g who to_).next P from_ (1 - who)

section
variable {g : G} {P : List Int} {who : Int} {to_ : List Int} {from_ : List Bool} {D : Nat → Prop}
theorem reach_nG {g : G} (h : g.next.length = g.owner.length) {v : Nat} : Reaches (nG g.next) from_ v ↔ Reaches g from_ v := by
  constructor
  · intro r
    induction r with
    | start v hv hf => exact .start v (by rw [nG_len] at hv; omega) hf
    | step v w _ hw ih => exact .step v w ih hw
  · intro r
    induction r with
    | start v hv hf => exact .start v (by rw [nG_len]; omega) hf
    | step v w _ hw ih => exact .step v w ih hw
theorem fol_len (hm : mayE g = 0) : (folG g who to_).owner = g.owner ∧ (folG g who to_).next.length = g.owner.length := by
  rw [folG, waysG_eq hm]; exact ⟨rfl, by rw [waysL_len]; exact (may_ok hm).2.1⟩
theorem fol_nx (hm : mayE g = 0) {u : Nat} (hu : u < g.owner.length) : nx (folG g who to_) u = (nx g u).filter (followP g who to_ u) := by
  have h2 := (may_ok hm).2.1
  have hu' : u < g.next.length := by omega
  unfold nx
  rw [folG, waysG_row hm _ hu', List.getD_eq_getElem?_getD, List.getElem?_eq_getElem hu', Option.getD_some]
theorem follow_iff {u w : Nat} : followP g who to_ u w = true ↔ (ow g u = who → toT to_ u = w) := by
  have e : followP g who to_ u w = (!decide (ow g u = who) || (decide (u < to_.length) && decide (to_.getD u 0 = w))) := rfl
  rw [e]
  by_cases ho : ow g u = who
  · simp only [ho, decide_true, Bool.not_true, Bool.false_or, Bool.and_eq_true, decide_eq_true_eq, forall_const]
    by_cases hl : u < to_.length
    · simp [toT, hl]
    · have : toT to_ u = -1 := by simp [toT, hl]
      rw [this]
      simp [hl]
  · constructor
    · exact fun _ q => absurd q ho
    · intro _
      rw [show decide (ow g u = who) = false from decide_eq_false ho]; rfl
theorem fol_edge (hm : mayE g = 0) {u w : Nat} : kE (folG g who to_).next u w ↔ u < g.owner.length ∧ stE (gE g) (ow g) who (toT to_) u w := by
  unfold kE stE gE
  rw [(fol_len hm).2]
  constructor
  · rintro ⟨h1, h2⟩
    have := fol_nx (who := who) (to_ := to_) hm h1
    rw [nx] at this
    rw [this, List.mem_filter] at h2
    exact ⟨h1, h2.1, follow_iff.1 h2.2⟩
  · rintro ⟨h1, h2, h3⟩
    refine ⟨h1, ?_⟩
    have := fol_nx (who := who) (to_ := to_) hm h1
    rw [nx] at this
    rw [this, List.mem_filter]
    exact ⟨h2, follow_iff.2 h3⟩
theorem on_iff' (hm : mayE g = 0) {v : Nat} : onR (folG g who to_).next from_ v ↔ v < g.owner.length ∧ Reaches (folG g who to_) from_ v := by
  obtain ⟨h1, h2⟩ := fol_len (who := who) (to_ := to_) hm
  rw [onR_iff, h2, reach_nG (by rw [h1, h2])]
theorem Wn.reach {pr : Nat → Nat} (hm : mayE g = 0) (W : Wn (gE g) (ow g) pr who (toT to_) D) (hf : ∀ v, v < g.owner.length → hasN from_ v = true → D v) {v : Nat} (h : Reaches (folG g who to_) from_ v) : v < g.owner.length ∧ D v := by
  obtain ⟨h1, h2⟩ := fol_len (who := who) (to_ := to_) hm
  induction h with
  | start v hv q => rw [h1] at hv; exact ⟨hv, hf v hv q⟩
  | step v w hr hw ih =>
    have ke : kE (folG g who to_).next v w := ⟨by rw [h2]; exact ih.1, hw⟩
    obtain ⟨_, e1, e2⟩ := (fol_edge hm).1 ke
    refine ⟨gE_lt hm e1 ih.1, ?_⟩
    by_cases ho : ow g v = who
    · obtain ⟨w', q1, q2, q3⟩ := W.own v ih.2 ho
      have : w' = w := by have := e2 ho; omega
      subst this
      exact q3
    · exact W.opp v ih.2 ho w e1
theorem prN_mod (ok : POk g P) (hw : who = 0 ∨ who = 1) {w : Nat} : prPv P w % 2 ≠ 1 - who ↔ ((prN P w % 2 : Nat) : Int) = who := by
  have := ok.lo w
  have e : prPv P w = ((prN P w : Nat) : Int) := by rw [prN, Int.toNat_of_nonneg this]; rfl
  rw [e]
  rcases hw with rfl | rfl <;> omega
theorem prN_le (ok : POk g P) {a w : Nat} : prPv P a ≤ prPv P w ↔ prN P a ≤ prN P w := by
  have h1 := ok.lo a
  have h2 := ok.lo w
  have e1 : prPv P w = ((prN P w : Nat) : Int) := by rw [prN, Int.toNat_of_nonneg h2]; rfl
  have e2 : prPv P a = ((prN P a : Nat) : Int) := by rw [prN, Int.toNat_of_nonneg h1]; rfl
  rw [e1, e2]; omega
/-- Who wins by a strategy from all of a set: it is told so. -/
theorem wins_of (h : mayP g P = true) (hw : who = 0 ∨ who = 1) (W : Wn (gE g) (ow g) (prN P) who (toT to_) D) (hf : ∀ v, v < g.owner.length → hasN from_ v = true → D v) : winsB g P who to_ from_ = true := by
  have ok := mayP_ok h
  have hm := ok.m
  have hr := fun v => Wn.reach (v := v) hm W hf
  have h1 : ∀ v, v < g.owner.length → ¬ stuckB g who to_ from_ v := by
    rintro v hv ⟨q1, q2, q3⟩
    obtain ⟨w, e1, e2, e3⟩ := W.own v (hr v (reachL_has.1 q1).2).2 q2
    have : (w : Int) ∈ nx (folG g who to_) v := by
      rw [fol_nx hm hv, List.mem_filter]
      exact ⟨e2, follow_iff.2 fun _ => e1⟩
    rw [q3] at this; cases this
  have h2 : parB (folG g who to_).next P from_ (1 - who) = true := parB_iff.2 fun w k => by
    have hd := hr w ((on_iff' hm).1 k.2.fst.1).2
    refine W.circ w hd.2 ((prN_mod ok hw).1 k.1) ?_
    refine k.2.mono (fun a b _ _ e => ((fol_edge hm).1 e).2) fun a q => ⟨(hr a ((on_iff' hm).1 q.1).2).2, (prN_le ok).1 q.2⟩
  unfold winsB
  simp only [Bool.and_eq_true, decide_eq_true_eq]
  exact ⟨⟨⟨h, hw⟩, h1⟩, h2⟩
/-- What is told to win does. -/
theorem wn_of (h : winsB g P who to_ from_ = true) : (mayP g P = true ∧ (who = 0 ∨ who = 1)) ∧ Wn (gE g) (ow g) (prN P) who (toT to_) fun v => v < g.owner.length ∧ Reaches (folG g who to_) from_ v := by
  unfold winsB at h
  simp only [Bool.and_eq_true, decide_eq_true_eq] at h
  obtain ⟨⟨⟨hm0, hw⟩, hs⟩, hp⟩ := h
  have ok := mayP_ok hm0
  have hm := ok.m
  obtain ⟨l1, l2⟩ := fol_len (who := who) (to_ := to_) hm
  have st : ∀ v, v < g.owner.length → ∀ w, stE (gE g) (ow g) who (toT to_) v w → Reaches (folG g who to_) from_ v → w < g.owner.length ∧ Reaches (folG g who to_) from_ w := fun v hv w e r =>
    ⟨gE_lt hm e.1 hv, .step v w r ((fol_edge hm).2 ⟨hv, e⟩).2⟩
  refine ⟨⟨hm0, hw⟩, ⟨fun v hv ho => ?_, fun v hv ho w e => st v hv.1 w ⟨e, fun q => absurd q ho⟩ hv.2, fun v hv ho k => ?_⟩⟩
  · have hne : nx (folG g who to_) v ≠ [] := fun q => hs v hv.1 ⟨reachL_has.2 ⟨by rw [l1]; exact hv.1, hv.2⟩, ho, q⟩
    obtain ⟨x, hx⟩ := List.exists_mem_of_ne_nil _ hne
    rw [fol_nx hm hv.1, List.mem_filter] at hx
    obtain ⟨w0, w1⟩ := (nx_ok hm hv.1).2 x hx.1
    obtain ⟨w, rfl⟩ : ∃ w : Nat, x = w := ⟨x.toNat, by omega⟩
    have e := follow_iff.1 hx.2
    exact ⟨w, e ho, hx.1, st v hv.1 w ⟨hx.1, e⟩ hv.2⟩
  · refine parB_iff.1 hp v ⟨(prN_mod ok hw).2 ho, ?_⟩
    exact k.mono (fun a b ha _ e => (fol_edge hm).2 ⟨ha.1.1, e⟩) fun a q => ⟨(on_iff' hm).2 q.1, (prN_le ok).2 q.2⟩
open Classical in
theorem wins_par (h : mayP g P = true) (hw : who = 0 ∨ who = 1) (k : ∀ v, v < g.owner.length → ¬ stuckB g who to_ from_ v) : winsB g P who to_ from_ = parB (folG g who to_).next P from_ (1 - who) := by
  unfold winsB
  rw [h, decide_eq_true hw, decide_eq_true k]; rfl
theorem Wn.congrT {E : Nat → Nat → Prop} {ow : Nat → Int} {pr : Nat → Nat} {T T' : Nat → Int} (W : Wn E ow pr who T D) (h : ∀ v, D v → T' v = T v) : Wn E ow pr who T' D := by
  refine ⟨fun v hv e => ?_, W.opp, fun v hv e k => W.circ v hv e (k.mono (fun a b ha _ q => ⟨q.1, fun o => by rw [← h a ha.1]; exact q.2 o⟩) fun _ q => q)⟩
  rw [h v hv]; exact W.own v hv e
end
end Go.Par
