/- Fair, Unfair: plain laws. -/
import Derived.Test.YtigipgahgkngcaaKgA
set_option linter.unusedSimpArgs false
set_option linter.unusedVariables false
namespace Go.Par

section
variable {next : List (List Int)} {f : List Bool} {A E : List (List Bool)}
theorem meetsB_iff {i : List Bool} : meetsB next f i A = true ↔ MeetsP next f i A := by
  classical
  unfold meetsB; simp
theorem fair_iff : fairB next f A E = true ↔ ∀ e ∈ E, ¬ MeetsP next f (wiL next e) A := by
  unfold fairB metA
  rw [List.take_length]
  simp only [Bool.not_eq_true', List.any_eq_false]
  exact forall_congr' fun e => forall_congr' fun _ => by rw [meetsB_iff]
theorem unfair_iff : unfairB next f A E = true ↔ ¬ MeetsP next f (fullL next) E ∧ ∀ r ∈ A, ¬ MeetsP next f (wiL next r) [] := by
  unfold unfairB metA
  rw [List.take_length]
  simp only [Bool.and_eq_true, Bool.not_eq_true', List.any_eq_false]
  refine and_congr ?_ (forall_congr' fun e => forall_congr' fun _ => by rw [meetsB_iff])
  rw [← meetsB_iff]; simp
def inS (next : List (List Int)) (f i : List Bool) : Nat → Prop := kS next (r9andL (reachL (nG next) f) i)
theorem inS_iff {i : List Bool} {v : Nat} : inS next f i v ↔ v < next.length ∧ Reaches (nG next) f v ∧ hasN i v = true := by
  unfold inS kS
  constructor
  · rintro ⟨h1, h2⟩
    obtain ⟨h3, h4⟩ := hasN_and _ _ _ h2
    exact ⟨h1, (hasN_reach h3).2, h4⟩
  · rintro ⟨h1, h2, h3⟩
    refine ⟨h1, ?_⟩
    unfold r9andL hasN
    rw [getD_tab, if_pos (by simpa [reachL] using h1)]
    have : hasN (reachL (nG next) f) v = true := by
      unfold reachL hasN
      rw [getD_tab, if_pos (by simpa using h1)]
      simpa using h2
    have h3' : i.getD v false = true := h3
    have this' : (reachL (nG next) f).getD v false = true := this
    show ((reachL (nG next) f).getD v false && i.getD v false) = true
    rw [this', h3']; rfl
theorem wi_iff {e : List Bool} {v : Nat} (hv : v < next.length) : hasN (wiL next e) v = true ↔ hasN e v = false := by
  rw [hasN, wiL, getD_tab, if_pos hv]; simp
theorem hasN_full {v : Nat} (hv : v < next.length) : hasN (fullL next) v = true := by rw [hasN, fullL, getD_tab, if_pos hv]
theorem MeetsP_iff {i : List Bool} : MeetsP next f i A ↔ ∃ v, Way (kE next) (inS next f i) v v ∧ ∀ r ∈ A, ∃ w, hasN r w = true ∧ Same (kE next) (inS next f i) w v := Iff.rfl
/-- Is there a circle at all? -/
def AnyC (next : List (List Int)) (f : List Bool) : Prop := ∃ v, Way (kE next) (inS next f (fullL next)) v v
theorem inS_full {i : List Bool} {v : Nat} (h : inS next f i v) : inS next f (fullL next) v := by
  obtain ⟨h1, h2, _⟩ := inS_iff.1 h
  exact inS_iff.2 ⟨h1, h2, hasN_full h1⟩
theorem MeetsP.any {i : List Bool} (h : MeetsP next f i A) : AnyC next f := by
  obtain ⟨v, hv, _⟩ := h
  exact ⟨v, hv.sub fun x hx => inS_full hx⟩
theorem on_iff : fairB next f [] [[]] = true ↔ ¬ AnyC next f := by
  rw [fair_iff]
  simp only [List.mem_singleton, forall_eq]
  refine not_congr ⟨fun h => h.any, fun ⟨v, hv⟩ => ⟨v, hv.sub fun x hx => ?_, fun r hr => by cases hr⟩⟩
  obtain ⟨h1, h2, _⟩ := inS_iff.1 hx
  exact inS_iff.2 ⟨h1, h2, (wi_iff h1).2 rfl⟩
theorem fair_on (h : ¬ AnyC next f) : fairB next f A E = true := fair_iff.2 fun e _ q => h q.any
theorem unfair_on (h : ¬ AnyC next f) : unfairB next f A E = true := unfair_iff.2 ⟨fun q => h q.any, fun e _ q => h q.any⟩
theorem same_within {S S' : Nat → Prop} {G : Nat → Nat → Prop} {u v : Nat} (h : Same G S u v) (hs : ∀ x, S x → Same G S x v → S' x) : Same G S' u v := by
  rcases h with e | ⟨a, b⟩
  · exact .inl e
  · refine .inr ⟨(a.same b).sub fun x hx => hs x hx.1 hx.2, (b.same a).sub fun x hx => hs x hx.1 (hx.2.trans (.inr ⟨a, b⟩))⟩
theorem both_on (h1 : fairB next f A E = true) (h2 : unfairB next f A E = true) : ¬ AnyC next f := by
  rintro ⟨v, hv⟩
  obtain ⟨u1, u2⟩ := unfair_iff.1 h2
  have f1 := fair_iff.1 h1
  have lt : ∀ {x}, Same (kE next) (inS next f (fullL next)) x v → inS next f (fullL next) x := fun {x} h => by
    rcases h with e | ⟨a, _⟩
    · rw [e]; exact hv.fst
    · exact a.fst
  -- what the component misses, it goes round in
  have goes : ∀ e : List Bool, (∀ w, hasN e w = true → ¬ Same (kE next) (inS next f (fullL next)) w v) → (∀ x, inS next f (fullL next) x → Same (kE next) (inS next f (fullL next)) x v → inS next f (wiL next e) x) := fun e he x hx hs => by
    obtain ⟨g1, g2, _⟩ := inS_iff.1 hx
    refine inS_iff.2 ⟨g1, g2, (wi_iff g1).2 ?_⟩
    cases q : hasN e x with
    | false => rfl
    | true => exact absurd hs (he x q)
  have cyc : ∀ e : List Bool, (∀ w, hasN e w = true → ¬ Same (kE next) (inS next f (fullL next)) w v) → Way (kE next) (inS next f (wiL next e)) v v := fun e he =>
    (hv.same hv).sub fun x hx => goes e he x hx.1 hx.2
  have hA : ∀ r ∈ A, ∃ w, hasN r w = true ∧ Same (kE next) (inS next f (fullL next)) w v := fun r hr => by
    apply Classical.byContradiction
    intro q
    refine u2 r hr ⟨v, cyc r fun w hw hs => q ⟨w, hw, hs⟩, fun _ h => by cases h⟩
  refine u1 (MeetsP_iff.2 ⟨v, hv, fun e he => ?_⟩)
  apply Classical.byContradiction
  intro q
  have hm : ∀ w, hasN e w = true → ¬ Same (kE next) (inS next f (fullL next)) w v := fun w hw hs => q ⟨w, hw, hs⟩
  refine f1 e he (MeetsP_iff.2 ⟨v, cyc e hm, fun r hr => ?_⟩)
  obtain ⟨w, hw, hs⟩ := hA r hr
  exact ⟨w, hw, same_within hs (goes e hm)⟩
/-- A row of all vertices makes no difference. -/
theorem meets_all {i : List Bool} : MeetsP next f i (A ++ [fullL next]) ↔ MeetsP next f i A := by
  rw [MeetsP_iff, MeetsP_iff]
  refine exists_congr fun v => and_congr_right fun hv => ⟨fun h r hr => h r (by simp [hr]), fun h r hr => ?_⟩
  rw [List.mem_append, List.mem_singleton] at hr
  rcases hr with q | q
  · exact h r q
  · exact ⟨v, by rw [q]; exact hasN_full (inS_iff.1 hv.fst).1, .inl rfl⟩
theorem meets_none : ¬ MeetsP next f (wiL next (fullL next)) A := by
  rintro ⟨v, hv, _⟩
  obtain ⟨g1, _, g3⟩ := inS_iff.1 (show inS next f (wiL next (fullL next)) v from hv.fst)
  rw [wi_iff g1, hasN_full g1] at g3; cases g3
theorem fair_all : fairB next f (A ++ [fullL next]) (E ++ [fullL next]) = fairB next f A E := by
  rw [Bool.eq_iff_iff, fair_iff, fair_iff]
  simp only [List.mem_append, List.mem_singleton, meets_all]
  exact ⟨fun h e he => h e (.inl he), fun h e he => he.elim (h e) fun q => by rw [q]; exact meets_none⟩
theorem unfair_all : unfairB next f (A ++ [fullL next]) (E ++ [fullL next]) = unfairB next f A E := by
  rw [Bool.eq_iff_iff, unfair_iff, unfair_iff]
  simp only [List.mem_append, List.mem_singleton, meets_all]
  exact ⟨fun h => ⟨h.1, fun e he => h.2 e (.inl he)⟩, fun h => ⟨h.1, fun e he => he.elim (h.2 e) fun q => by rw [q]; exact meets_none⟩⟩
end

/-! ### With fewer ways -/
section
variable {next less : List (List Int)} {f : List Bool} {A E : List (List Bool)}
structure LessG (next less : List (List Int)) : Prop where
  len : less.length = next.length
  sub : ∀ v w, (w : Int) ∈ less.getD v [] → (w : Int) ∈ next.getD v []
theorem LessG.edge (L : LessG next less) {u v : Nat} (h : kE less u v) : kE next u v := ⟨by rw [← L.len]; exact h.1, L.sub u v h.2⟩
theorem LessG.reach (L : LessG next less) {v : Nat} (h : Reaches (nG less) f v) : Reaches (nG next) f v := by
  induction h with
  | start v h hf => exact .start v (by simpa [L.len] using h) hf
  | step v w _ hw ih => exact .step v w ih (by simpa using L.sub v w (by simpa using hw))
theorem way_less {G G' : Nat → Nat → Prop} {S S' : Nat → Prop} (hE : ∀ u v, G u v → G' u v) (hS : ∀ x, S x → S' x) {u v : Nat} (h : Way G S u v) : Way G' S' u v := by
  induction h with
  | one hu hv e => exact .one (hS _ hu) (hS _ hv) (hE _ _ e)
  | cons hu e _ ih => exact .cons (hS _ hu) (hE _ _ e) ih
theorem LessG.meets (L : LessG next less) {i i' : List Bool} (hi : ∀ v, v < next.length → hasN i v = true → hasN i' v = true) (h : MeetsP less f i A) : MeetsP next f i' A := by
  have hS : ∀ x, inS less f i x → inS next f i' x := fun x hx => by
    obtain ⟨g1, g2, g3⟩ := inS_iff.1 hx
    rw [L.len] at g1
    exact inS_iff.2 ⟨g1, L.reach g2, hi x g1 g3⟩
  obtain ⟨v, hv, hr⟩ := MeetsP_iff.1 h
  refine MeetsP_iff.2 ⟨v, way_less (fun _ _ => L.edge) hS hv, fun r hrA => ?_⟩
  obtain ⟨w, h1, h2⟩ := hr r hrA
  refine ⟨w, h1, ?_⟩
  rcases h2 with e | ⟨a, b⟩
  · exact .inl e
  · exact .inr ⟨way_less (fun _ _ => L.edge) hS a, way_less (fun _ _ => L.edge) hS b⟩
theorem LessG.fair (L : LessG next less) (h : fairB next f A E = true) : fairB less f A E = true :=
  fair_iff.2 fun e he q => fair_iff.1 h e he (L.meets (fun v hv g => by
    rw [wi_iff (by rw [L.len]; exact hv)] at g
    exact (wi_iff hv).2 g) q)
theorem LessG.unfair (L : LessG next less) (h : unfairB next f A E = true) : unfairB less f A E = true := by
  obtain ⟨h1, h2⟩ := unfair_iff.1 h
  refine unfair_iff.2 ⟨fun q => h1 (L.meets (fun v hv _ => hasN_full hv) q), fun r hr q => h2 r hr (L.meets (fun v hv g => ?_) q)⟩
  rw [wi_iff (by rw [L.len]; exact hv)] at g
  exact (wi_iff hv).2 g
end
end Go.Par
