/- Two graphs side by side: plain laws. -/
import Derived.Test.YtigipgahgkngcaaTjQ
import Derived.Test.YtigipgahgkngcaaTjP
set_option linter.unusedSimpArgs false
set_option linter.unusedVariables false
namespace Go.Par

theorem way_side {G G' : Nat → Nat → Prop} {S S' : Nat → Prop} (T : Nat → Prop) (ψ : Nat → Nat) (hE : ∀ u v, T u → G u v → T v ∧ G' (ψ u) (ψ v)) (hS : ∀ u, T u → S u → S' (ψ u)) {u v : Nat} (h : Way G S u v) : T u → Way G' S' (ψ u) (ψ v) := by
  induction h with
  | one hu hv e => exact fun t => .one (hS _ t hu) (hS _ (hE _ _ t e).1 hv) (hE _ _ t e).2
  | cons hu e _ ih => exact fun t => .cons (hS _ t hu) (hE _ _ t e).2 (ih (hE _ _ t e).1)

def shL (n : Nat) (l : List Int) : List Int := l.map fun w => w + n
def apN (a b : List (List Int)) : List (List Int) := a ++ b.map (shL a.length)
def apF (n m : Nat) (fa fb : List Bool) : List Bool := tab (n + m) fun v => if v < n then hasN fa v else hasN fb (v - n)
section
variable {a b : List (List Int)} {fa fb : List Bool} {pa pb : List Int}
theorem apN_len : (apN a b).length = a.length + b.length := by simp [apN]
theorem sound_iff {a : List (List Int)} : soundB a = true ↔ ∀ l ∈ a, ∀ w ∈ l, 0 ≤ w ∧ w < a.length := by simp [soundB, okW]
theorem apN_lo {u : Nat} (hu : u < a.length) : (apN a b).getD u [] = a.getD u [] := by simp [apN, List.getD_eq_getElem?_getD, List.getElem?_append_left hu]
theorem apN_hi (u : Nat) : (apN a b).getD (a.length + u) [] = shL a.length (b.getD u []) := by
  simp only [apN, List.getD_eq_getElem?_getD]
  rw [List.getElem?_append_right (by omega), show a.length + u - a.length = u by omega, List.getElem?_map]
  cases b[u]? <;> simp [shL]
theorem apE_lo (ha : soundB a = true) {u v : Nat} (hu : u < a.length) (h : kE (apN a b) u v) : v < a.length ∧ kE a u v := by
  have h2 := h.2
  rw [apN_lo hu] at h2
  have hm : a.getD u [] ∈ a := by simp [hu]
  have := sound_iff.1 ha _ hm _ h2
  exact ⟨by omega, hu, h2⟩
theorem apE_hi (hb : soundB b = true) {u v : Nat} (hu : a.length ≤ u) (h : kE (apN a b) u v) : a.length ≤ v ∧ kE b (u - a.length) (v - a.length) := by
  obtain ⟨u', rfl⟩ : ∃ u', u = a.length + u' := ⟨u - a.length, by omega⟩
  obtain ⟨h1, h2⟩ := h
  rw [apN_len] at h1
  rw [apN_hi, shL, List.mem_map] at h2
  obtain ⟨w, hw, e⟩ := h2
  have hm : b.getD u' [] ∈ b := by simp [show u' < b.length by omega]
  have := sound_iff.1 hb _ hm _ hw
  refine ⟨by omega, ?_⟩
  rw [show a.length + u' - a.length = u' by omega]
  refine ⟨by omega, ?_⟩
  have e2 : ((v - a.length : Nat) : Int) = w := by omega
  rw [e2]; exact hw
theorem apE_lo' {u v : Nat} (h : kE a u v) : kE (apN a b) u v := ⟨by rw [apN_len]; have := h.1; omega, by rw [apN_lo h.1]; exact h.2⟩
theorem apE_hi' {u v : Nat} (h : kE b u v) : kE (apN a b) (a.length + u) (a.length + v) := ⟨by rw [apN_len]; have := h.1; omega, by
  rw [apN_hi, shL, List.mem_map]; exact ⟨v, h.2, by omega⟩⟩
theorem apF_lo {v : Nat} (hv : v < a.length) : hasN (apF a.length b.length fa fb) v = hasN fa v := by
  rw [hasN, apF, getD_tab, if_pos (by omega), if_pos hv]
theorem apF_hi {v : Nat} (hv : v < b.length) : hasN (apF a.length b.length fa fb) (a.length + v) = hasN fb v := by
  rw [hasN, apF, getD_tab, if_pos (by omega), if_neg (by omega), show a.length + v - a.length = v by omega]
theorem nG_mem {next : List (List Int)} {v w : Nat} (h : (w : Int) ∈ (nG next).next.getD v []) : kE next v w := by
  have h' : (w : Int) ∈ next.getD v [] := by simpa using h
  refine ⟨?_, h'⟩
  by_cases q : v < next.length
  · exact q
  · rw [List.getD_eq_getElem?_getD, List.getElem?_eq_none (by omega)] at h'; cases h'
theorem apR (ha : soundB a = true) (hb : soundB b = true) {v : Nat} (h : Reaches (nG (apN a b)) (apF a.length b.length fa fb) v) : (v < a.length → Reaches (nG a) fa v) ∧ (a.length ≤ v → Reaches (nG b) fb (v - a.length)) := by
  induction h with
  | start v h hf =>
    have h' : v < a.length + b.length := by simpa [apN_len] using h
    refine ⟨fun q => .start v (by simpa using q) (by rw [apF_lo q] at hf; exact hf), fun q => ?_⟩
    obtain ⟨v', rfl⟩ : ∃ v', v = a.length + v' := ⟨v - a.length, by omega⟩
    rw [apF_hi (by omega)] at hf
    rw [show a.length + v' - a.length = v' by omega]
    exact .start v' (by simp; omega) hf
  | step v w _ hw ih =>
    have e := nG_mem hw
    refine ⟨fun q => ?_, fun q => ?_⟩
    · by_cases c : v < a.length
      · exact .step v w (ih.1 c) (by simpa using (apE_lo ha c e).2.2)
      · have := (apE_hi hb (by omega) e).1; omega
    · by_cases c : v < a.length
      · have := (apE_lo ha c e).1; omega
      · exact .step _ _ (ih.2 (by omega)) (by simpa using (apE_hi hb (by omega) e).2.2)
theorem apR_lo {v : Nat} (ha : soundB a = true) (h : Reaches (nG a) fa v) : v < a.length ∧ Reaches (nG (apN a b)) (apF a.length b.length fa fb) v := by
  induction h with
  | start v h hf =>
    have h' : v < a.length := by simpa using h
    exact ⟨h', .start v (by simp [apN_len]; omega) (by rw [apF_lo h']; exact hf)⟩
  | step v w _ hw ih =>
    have e := nG_mem hw
    have hm : a.getD v [] ∈ a := by simp [e.1]
    have := sound_iff.1 ha _ hm _ e.2
    exact ⟨by omega, .step v w ih.2 (by simpa using (apE_lo' (b := b) e).2)⟩
theorem apR_hi {v : Nat} (hb : soundB b = true) (h : Reaches (nG b) fb v) : v < b.length ∧ Reaches (nG (apN a b)) (apF a.length b.length fa fb) (a.length + v) := by
  induction h with
  | start v h hf =>
    have h' : v < b.length := by simpa using h
    exact ⟨h', .start _ (by simp [apN_len]; omega) (by rw [apF_hi h']; exact hf)⟩
  | step v w _ hw ih =>
    have e := nG_mem hw
    have hm : b.getD v [] ∈ b := by simp [e.1]
    have := sound_iff.1 hb _ hm _ e.2
    exact ⟨by omega, .step _ _ ih.2 (by simpa using (apE_hi' (a := a) e).2)⟩
theorem apP_lo {v : Nat} (h : pa.length = a.length) (hv : v < a.length) : prF2 (pa ++ pb) v = prF2 pa v := by
  simp only [prF2, List.getD_eq_getElem?_getD]
  rw [List.getElem?_append_left (by omega)]
theorem apP_hi (v : Nat) (h : pa.length = a.length) : prF2 (pa ++ pb) (a.length + v) = prF2 pb v := by
  simp only [prF2, List.getD_eq_getElem?_getD]
  rw [List.getElem?_append_right (by omega), show a.length + v - pa.length = v by omega]
theorem apart_even (ha : soundB a = true) (hb : soundB b = true) (hp : pa.length = a.length) :
    evB (apN a b) (pa ++ pb) (reachL (nG (apN a b)) (apF a.length b.length fa fb)) = (evB a pa (reachL (nG a) fa) && evB b pb (reachL (nG b) fb)) := by
  classical
  have key : BadW (kE (apN a b)) (kS (apN a b) (reachL (nG (apN a b)) (apF a.length b.length fa fb))) (prF2 (pa ++ pb)) ↔ BadW (kE a) (kS a (reachL (nG a) fa)) (prF2 pa) ∨ BadW (kE b) (kS b (reachL (nG b) fb)) (prF2 pb) := by
    constructor
    · rintro ⟨w, h1, h2⟩
      by_cases c : w < a.length
      · left
        refine ⟨w, by rw [← apP_lo hp c]; exact h1, way_side (fun x => x < a.length) (fun x => x) (fun u v t e => apE_lo ha t e) (fun u t hu => ?_) h2 c⟩
        obtain ⟨g1, g2⟩ := hu
        rw [apP_lo hp t, apP_lo hp c] at g2
        exact ⟨kS_reachL.2 ⟨t, (apR ha hb (kS_reachL.1 g1).2).1 t⟩, g2⟩
      · right
        obtain ⟨w', rfl⟩ : ∃ w', w = a.length + w' := ⟨w - a.length, by omega⟩
        have := way_side (S' := fun x => kS b (reachL (nG b) fb) x ∧ prF2 pb x ≤ prF2 pb w') (fun x => a.length ≤ x) (fun x => x - a.length) (fun u v t e => apE_hi hb t e) (fun u t hu => ?_) h2 (by omega)
        · rw [show a.length + w' - a.length = w' by omega] at this
          exact ⟨w', by rw [← apP_hi (a := a) (pa := pa) w' hp]; exact h1, this⟩
        · obtain ⟨g1, g2⟩ := hu
          obtain ⟨u', rfl⟩ : ∃ u', u = a.length + u' := ⟨u - a.length, by omega⟩
          rw [apP_hi _ hp, apP_hi _ hp] at g2
          obtain ⟨g3, g4⟩ := kS_reachL.1 g1
          have g5 := (apR ha hb g4).2 t
          rw [show a.length + u' - a.length = u' by omega] at g5 ⊢
          rw [apN_len] at g3
          exact ⟨kS_reachL.2 ⟨by omega, g5⟩, g2⟩
    · rintro (⟨w, h1, h2⟩ | ⟨w, h1, h2⟩)
      · have c : w < a.length := h2.fst.1.1
        refine ⟨w, by rw [apP_lo hp c]; exact h1, way_side (fun _ => True) (fun x => x) (fun u v _ e => ⟨trivial, apE_lo' e⟩) (fun u _ hu => ?_) h2 trivial⟩
        obtain ⟨g1, g2⟩ := hu
        obtain ⟨g3, g4⟩ := kS_reachL.1 g1
        rw [apP_lo hp g3, apP_lo hp c]
        exact ⟨kS_reachL.2 ⟨by rw [apN_len]; omega, (apR_lo ha g4).2⟩, g2⟩
      · refine ⟨a.length + w, by rw [apP_hi _ hp]; exact h1, way_side (fun _ => True) (fun x => a.length + x) (fun u v _ e => ⟨trivial, apE_hi' e⟩) (fun u _ hu => ?_) h2 trivial⟩
        obtain ⟨g1, g2⟩ := hu
        obtain ⟨g3, g4⟩ := kS_reachL.1 g1
        rw [apP_hi _ hp, apP_hi _ hp]
        exact ⟨kS_reachL.2 ⟨by rw [apN_len]; omega, (apR_hi hb g4).2⟩, g2⟩
  unfold evB
  rw [Bool.eq_iff_iff]
  simp only [decide_eq_true_eq, Bool.and_eq_true, key, not_or]
theorem meets_nil {next : List (List Int)} {f i : List Bool} : MeetsP next f i [] ↔ ∃ v, Way (kE next) (inS next f i) v v :=
  ⟨fun ⟨v, hv, _⟩ => ⟨v, hv⟩, fun ⟨v, hv⟩ => ⟨v, hv, fun r hr => by cases hr⟩⟩
theorem apart_fair (ha : soundB a = true) (hb : soundB b = true) :
    fairB (apN a b) (apF a.length b.length fa fb) [] [apF a.length b.length fa fb] = (fairB a fa [] [fa] && fairB b fb [] [fb]) := by
  have key : MeetsP (apN a b) (apF a.length b.length fa fb) (wiL (apN a b) (apF a.length b.length fa fb)) [] ↔ MeetsP a fa (wiL a fa) [] ∨ MeetsP b fb (wiL b fb) [] := by
    rw [meets_nil, meets_nil, meets_nil]
    constructor
    · rintro ⟨w, h2⟩
      by_cases c : w < a.length
      · left
        refine ⟨w, way_side (fun x => x < a.length) (fun x => x) (fun u v t e => apE_lo ha t e) (fun u t hu => ?_) h2 c⟩
        obtain ⟨g1, g2, g3⟩ := inS_iff.1 hu
        rw [wi_iff g1, apF_lo t] at g3
        exact inS_iff.2 ⟨t, (apR ha hb g2).1 t, (wi_iff t).2 g3⟩
      · right
        refine ⟨w - a.length, way_side (fun x => a.length ≤ x) (fun x => x - a.length) (fun u v t e => apE_hi hb t e) (fun u t hu => ?_) h2 (by omega)⟩
        obtain ⟨g1, g2, g3⟩ := inS_iff.1 hu
        obtain ⟨u', rfl⟩ : ∃ u', u = a.length + u' := ⟨u - a.length, by omega⟩
        have g4 := g1
        rw [apN_len] at g4
        have g5 := (apR ha hb g2).2 t
        rw [wi_iff g1, apF_hi (by omega)] at g3
        rw [show a.length + u' - a.length = u' by omega] at g5 ⊢
        exact inS_iff.2 ⟨by omega, g5, (wi_iff (by omega)).2 g3⟩
    · rintro (⟨w, h2⟩ | ⟨w, h2⟩)
      · refine ⟨w, way_side (fun _ => True) (fun x => x) (fun u v _ e => ⟨trivial, apE_lo' e⟩) (fun u _ hu => ?_) h2 trivial⟩
        obtain ⟨g1, g2, g3⟩ := inS_iff.1 hu
        have g4 : u < (apN a b).length := by rw [apN_len]; omega
        rw [wi_iff g1] at g3
        exact inS_iff.2 ⟨g4, (apR_lo ha g2).2, (wi_iff g4).2 (by rw [apF_lo g1]; exact g3)⟩
      · refine ⟨a.length + w, way_side (fun _ => True) (fun x => a.length + x) (fun u v _ e => ⟨trivial, apE_hi' e⟩) (fun u _ hu => ?_) h2 trivial⟩
        obtain ⟨g1, g2, g3⟩ := inS_iff.1 hu
        have g4 : a.length + u < (apN a b).length := by rw [apN_len]; omega
        rw [wi_iff g1] at g3
        exact inS_iff.2 ⟨g4, (apR_hi hb g2).2, (wi_iff g4).2 (by rw [apF_hi g1]; exact g3)⟩
  rw [Bool.eq_iff_iff, Bool.and_eq_true, fair_iff, fair_iff, fair_iff]
  simp only [List.mem_singleton, forall_eq, key, not_or]
end
end Go.Par
