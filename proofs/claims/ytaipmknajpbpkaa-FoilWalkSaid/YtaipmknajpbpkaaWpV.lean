/- Who goes by the foil: the circle that comes meets all of assume and not all of ensure: plain law for FoilWalk. -/
import Derived.Test.YtaipmknajpbpkaaWpW
import Derived.Test.YtaipmknajpbpkaaFoB1
set_option linter.unusedSimpArgs false
set_option linter.unusedVariables false
namespace Go.Par

def flX (g : G) (A E : List (List Bool)) : Nat → Nat → Prop := stE (gE (cgG g A E)) (ow (cgG g A E)) 0 (fI (toL (cgG g A E) (cgP g A E)))
def flS (g : G) (A E : List (List Bool)) (p : Nat) : Prop := p < g.owner.length * kC A E ∧ fI (winL (cgG g A E) (cgP g A E)) p = 0
section
variable {g : G} {A E : List (List Bool)} (h : cgErr g A E = 0)
theorem fl_play {S : Nat → Prop} (hS : ∀ p, S p → flS g A E p) : FoPlay g A E (flX g A E) S := ⟨fun p q => (hS p q).1, fun p q => (hS p q).2, fun p q _ e => e⟩
include h
theorem walk_foil {k : Nat} {sts : List Nat} {p j : Nat} (I : WkI (flX g A E) (flS g A E) (kC A E) k sts p) (hj : sts[j]? = some p) :
    mtB A ((sts.drop j).map (· / kC A E)) = true ∧ mtB E ((sts.drop j).map (· / kC A E)) = false := by
  have hp : p ∈ sts.drop j := List.mem_iff_getElem?.2 ⟨0, by rw [List.getElem?_drop]; exact hj⟩
  have conn := fun m m' (h1 : m ∈ sts.drop j) (h2 : m' ∈ sts.drop j) => I.st.conn hj h1 h2
  have hS : ∀ u ∈ sts.drop j, flS g A E u := fun u hu => I.s u (List.mem_of_mem_drop hu)
  constructor
  · rw [mtB_iff]
    intro e he
    refine Classical.byContradiction fun hno => ?_
    obtain ⟨i, hi, rfl⟩ := List.mem_iff_getElem.1 he
    refine (fl_play (S := flS g A E) fun p q => q).assume h hi (S' := fun u => u ∈ sts.drop j) (fun u hu => ⟨hS u hu, ?_⟩) (conn p p hp hp)
    have e1 : A.getD i [] = A[i] := by simp [hi]
    rw [e1]
    show hasN A[i] (u / kC A E) = false
    cases q : hasN A[i] (u / kC A E) with
    | false => rfl
    | true => exact absurd ⟨_, List.mem_map.2 ⟨u, hu, rfl⟩, q⟩ hno
  · cases hm : mtB E ((sts.drop j).map (· / kC A E)) with
    | false => rfl
    | true =>
      exfalso
      rw [mtB_iff] at hm
      refine (fl_play (S := fun u => u ∈ sts.drop j) hS).ensure h (conn p p hp hp) fun i hi => ?_
      obtain ⟨v, hv, q⟩ := hm E[i] (List.getElem_mem hi)
      obtain ⟨u, hu, rfl⟩ := List.mem_map.1 hv
      have e1 : E.getD i [] = E[i] := by simp [hi]
      refine ⟨u, by rw [e1]; exact q, .inr ⟨conn u p hu hp, conn p u hp hu⟩⟩
theorem fl_own {p : Nat} (hp : flS g A E p) (ho : ow g (p / kC A E) = 0) : ∃ q : Nat, fI (toL (cgG g A E) (cgP g A E)) p = q ∧ gE g (p / kC A E) (q / kC A E) ∧ q % kC A E = onThen A E (p / kC A E) (p % kC A E) ∧ flS g A E q ∧ flX g A E p q := by
  have W := solve_wn (cg_pok h) (who := 0) (.inl rfl)
  have hlen := cg_len h (A := A) (E := E)
  obtain ⟨q, q1, q2, q3⟩ := W.own p ⟨by rw [hlen]; exact hp.1, hp.2⟩ (by rw [cg_ow h hp.1]; exact ho)
  obtain ⟨s1, s2, s3, _⟩ := cg_step h hp.1 q2
  have ht := cg_then h (A := A) (E := E) (p := p)
  refine ⟨q, q1, s1, ?_, ⟨s2, q3.2⟩, ⟨q2, fun _ => q1⟩⟩
  have e2 := (cg_at h (vC A E q) _ ht).2
  rw [← s3] at e2
  exact e2
theorem fl_opp {p w : Nat} (hp : flS g A E p) (ho : ow g (p / kC A E) ≠ 0) (hw : gE g (p / kC A E) w) : ∃ q : Nat, q / kC A E = w ∧ q % kC A E = onThen A E (p / kC A E) (p % kC A E) ∧ flS g A E q ∧ flX g A E p q := by
  have W := solve_wn (cg_pok h) (who := 0) (.inl rfl)
  have hlen := cg_len h (A := A) (E := E)
  have ht := cg_then h (A := A) (E := E) (p := p)
  have hE : gE (cgG g A E) p (w * kC A E + onThen A E (p / kC A E) (p % kC A E)) := (cg_edge h hp.1).2 ⟨w, hw, rfl⟩
  have ho' : ow (cgG g A E) p ≠ 0 := by rw [cg_ow h hp.1]; exact ho
  obtain ⟨h1, h2⟩ := W.opp p ⟨by rw [hlen]; exact hp.1, hp.2⟩ ho' _ hE
  obtain ⟨e1, e2⟩ := cg_at h w _ ht
  exact ⟨_, e1, e2, ⟨by rw [← hlen]; exact h1, h2⟩, ⟨hE, fun q => absurd q ho'⟩⟩
end
end Go.Par
