/- What waits to be lifted: plain laws. -/
import Derived.Test.YtihlpchiomkinaaSmP
import Derived.Test.YtihlpchiomkinaaWyA
import Derived.Test.YtihlpchiomkinaaFgB
set_option linter.unusedSimpArgs false
set_option linter.unusedVariables false
namespace Go.Par

structure Wt (n : Nat) (W : List Bool) (T : List Nat) : Prop where
  nd : T.Nodup
  lt : ∀ u ∈ T, u < n
  len : W.length = n
  iff : ∀ u, u < n → (hasN W u = true ↔ u ∈ T)

section
variable {n v : Nat} {W : List Bool} {T T' : List Nat}
theorem Wt.size (h : Wt n W T) : T.length ≤ n := nodup_lt h.nd h.lt
theorem hasN_put' (hv : v < W.length) (b : Bool) (u : Nat) : hasN (W.set v b) u = if v = u then b else hasN W u := by
  unfold hasN
  exact getD_set hv
theorem Wt.put (h : Wt n W T) (hv : v < n) (h1 : hasN W v = true → T' = T) (h2 : hasN W v = false → T'.Perm (v :: T)) : Wt n (W.set v true) T' ∧ ∀ u, u ∈ T' ↔ u = v ∨ u ∈ T := by
  have hvl : v < W.length := by rw [h.len]; exact hv
  have hm : ∀ u, u ∈ T' ↔ u = v ∨ u ∈ T := by
    intro u
    cases c : hasN W v with
    | true =>
      rw [h1 c]
      exact ⟨.inr, fun q => q.elim (fun e => by rw [e]; exact (h.iff v hv).1 c) id⟩
    | false => rw [(h2 c).mem_iff, List.mem_cons]
  refine ⟨⟨?_, fun u hu => ?_, by rw [List.length_set]; exact h.len, fun u hu => ?_⟩, hm⟩
  · cases c : hasN W v with
    | true => rw [h1 c]; exact h.nd
    | false =>
      rw [(h2 c).nodup_iff, List.nodup_cons]
      exact ⟨fun q => absurd ((h.iff v hv).2 q) (by rw [c]; decide), h.nd⟩
  · rcases (hm u).1 hu with e | e
    · rw [e]; exact hv
    · exact h.lt u e
  · rw [hasN_put' hvl, hm]
    by_cases e : v = u
    · rw [if_pos e]; exact ⟨fun _ => .inl e.symm, fun _ => rfl⟩
    · rw [if_neg e, h.iff u hu]; exact ⟨.inr, fun q => q.elim (fun z => absurd z.symm e) id⟩
theorem Wt.pop (h : Wt n W T) (p : T.Perm (v :: T')) : Wt n (W.set v false) T' ∧ v < n ∧ ∀ u, u ∈ T ↔ u = v ∨ u ∈ T' := by
  have hm : ∀ u, u ∈ T ↔ u = v ∨ u ∈ T' := fun u => by rw [p.mem_iff, List.mem_cons]
  have hv : v < n := h.lt v ((hm v).2 (.inl rfl))
  have hvl : v < W.length := by rw [h.len]; exact hv
  have nd := p.nodup_iff.1 h.nd
  rw [List.nodup_cons] at nd
  refine ⟨⟨nd.2, fun u hu => h.lt u ((hm u).2 (.inr hu)), by rw [List.length_set]; exact h.len, fun u hu => ?_⟩, hv, hm⟩
  rw [hasN_put' hvl]
  by_cases e : v = u
  · rw [if_pos e]
    subst e
    exact ⟨fun q => absurd q (by decide), fun q => absurd q nd.1⟩
  · rw [if_neg e, h.iff u hu, hm]
    exact ⟨fun q => q.elim (fun z => absurd z.symm e) id, .inr⟩
theorem Wt.none (n : Nat) : Wt n (tab n fun _ => false) [] := ⟨List.nodup_nil, fun u hu => (by cases hu), length_tab _ _, fun u hu => by rw [hasN, getD_tab, if_pos hu]; exact ⟨fun q => absurd q (by decide), fun q => (by cases q)⟩⟩
end

/-- While one lifts: what does not wait is as it should be. -/
structure Lfw (g : G) (P : List Int) (R : List Ms) (T : List Nat) : Prop where
  lfi : Lfi g P R
  pre : ∀ u, u < g.owner.length → u ∉ T → mcode (shouldM g P R u) ≤ mcode (xM R u)
section
variable {g : G} {P : List Int} {R : List Ms} {T T' : List Nat} {v : Nat}
theorem Lfw.done (ok : MG g P) (h : Lfw g P R []) : R = measL g P := meas_eq ok (h.lfi.done fun u hu => h.pre u hu (by simp))
/-- Nothing is to be lifted there. -/
theorem Lfw.skip (h : Lfw g P R T) (hm : ∀ u, u ∈ T ↔ u = v ∨ u ∈ T') (hle : mcode (shouldM g P R v) ≤ mcode (xM R v)) : Lfw g P R T' := by
  refine ⟨h.lfi, fun u hu q => ?_⟩
  by_cases e : u = v
  · subst e; exact hle
  · exact h.pre u hu fun z => by rcases (hm u).1 z with z | z; exact e z; exact q z
theorem should_congr {x y : List Ms} (hm : ∀ w ∈ nx g v, xM x w.toNat = xM y w.toNat) : shouldM g P x v = shouldM g P y v := by
  have e : (nx g v).map (fun w => nextM (moL P) (prP P v) (xM x w.toNat)) = (nx g v).map (fun w => nextM (moL P) (prP P v) (xM y w.toNat)) := List.map_congr_left fun w hw => by rw [hm w hw]
  unfold shouldM
  rw [e]
/-- It is lifted; what leads there waits. -/
theorem Lfw.lift (ok : MG g P) (h : Lfw g P R T) (hv : v < g.owner.length) (hm : ∀ u, u ∈ T ↔ u = v ∨ u ∈ T') {T2 : List Nat} (h1 : ∀ u, u ∈ T' → u ∈ T2) (h2 : ∀ u, u < g.owner.length → ((v : Nat) : Int) ∈ nx g u → u ∈ T2) : Lfw g P (R.set v (shouldM g P R v)) T2 := by
  have hl : v < R.length := by rw [h.lfi.ok.1]; exact hv
  refine ⟨h.lfi.lift ok hv, fun u hu q => ?_⟩
  have hne : ((v : Nat) : Int) ∉ nx g u := fun z => q (h2 u hu z)
  have ec : shouldM g P (R.set v (shouldM g P R v)) u = shouldM g P R u := should_congr fun w hw => by
    rw [xM_set hl, if_neg fun e => hne (by
      have := (nx_ok ok.m hu).2 w hw
      rw [show ((v : Nat) : Int) = w by omega]; exact hw)]
  rw [ec, xM_set hl]
  by_cases e : v = u
  · rw [if_pos e, e]; exact Nat.le_refl _
  · rw [if_neg e]
    refine h.pre u hu fun z => ?_
    rcases (hm u).1 z with z | z
    · exact e z.symm
    · exact q (h1 u z)
end
end Go.Par
