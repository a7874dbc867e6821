/- One circle with a tail: plain laws. -/
import Derived.Test.YtigipgahgkngcaaTjS
set_option linter.unusedSimpArgs false
set_option linter.unusedVariables false
namespace Go.Par

def rdS (n t v : Nat) : Nat := if v + 1 = n then t else v + 1
def rdN (n t : Nat) : List (List Int) := tab n fun v => [(rdS n t v : Int)]
open Classical in
theorem tjE_iff {next : List (List Int)} {P : List Int} {a : List Bool} : evB next P a = true ↔ ¬ BadW (kE next) (kS next a) (prF2 P) := by
  unfold evB; exact decide_eq_true_iff
section
variable {n t : Nat}
theorem rdN_len : (rdN n t).length = n := length_tab _ _
theorem rdE {u v : Nat} : kE (rdN n t) u v ↔ u < n ∧ v = rdS n t u := by
  unfold kE
  rw [rdN_len]
  refine and_congr_right fun hu => ?_
  unfold rdN
  rw [getD_tab, if_pos hu, List.mem_singleton]
  omega
theorem rdS_lt (ht : t < n) {u : Nat} (hu : u < n) : rdS n t u < n := by unfold rdS; split <;> omega
theorem rdS_ge (ht : t < n) {u : Nat} (hu : t ≤ u) : t ≤ rdS n t u := by unfold rdS; split <;> omega
variable {S : Nat → Prop}
theorem rd_up (ht : t < n) (hS : ∀ u, t ≤ u → u < n → S u) : ∀ d u, t ≤ u → u + d + 1 < n → Way (kE (rdN n t)) S u (u + d + 1)
  | 0, u, h1, h2 => .one (hS u h1 (by omega)) (hS _ (by omega) h2) (rdE.2 ⟨by omega, by unfold rdS; rw [if_neg (by omega)]⟩)
  | d + 1, u, h1, h2 => by
    have := rd_up ht hS d (u + 1) (by omega) (by omega)
    rw [show u + (d + 1) + 1 = u + 1 + d + 1 by omega]
    exact .cons (hS u h1 (by omega)) (rdE.2 ⟨by omega, by unfold rdS; rw [if_neg (by omega)]⟩) this
theorem rd_to (ht : t < n) (hS : ∀ u, t ≤ u → u < n → S u) {u v : Nat} (h1 : t ≤ u) (h2 : u < v) (h3 : v < n) : Way (kE (rdN n t)) S u v := by
  have := rd_up ht hS (v - u - 1) u h1 (by omega)
  rwa [show u + (v - u - 1) + 1 = v by omega] at this
theorem rd_end (ht : t < n) : kE (rdN n t) (n - 1) t := rdE.2 ⟨by omega, by unfold rdS; rw [if_pos (by omega)]⟩
/-- From the end to each. -/
theorem rd_back (ht : t < n) (hS : ∀ u, t ≤ u → u < n → S u) {v : Nat} (h1 : t ≤ v) (h3 : v < n) : Way (kE (rdN n t)) S (n - 1) v := by
  rcases Nat.lt_or_eq_of_le h1 with q | q
  · exact .cons (hS _ (by omega) (by omega)) (rd_end ht) (rd_to ht hS (Nat.le_refl _) q h3)
  · subst q; exact .one (hS _ (by omega) (by omega)) (hS _ h1 h3) (rd_end ht)
theorem rd_all (ht : t < n) (hS : ∀ u, t ≤ u → u < n → S u) {u v : Nat} (hu : t ≤ u) (hu2 : u < n) (hv : t ≤ v) (hv2 : v < n) : Way (kE (rdN n t)) S u v := by
  by_cases e : u = n - 1
  · subst e; exact rd_back ht hS hv hv2
  · exact (rd_to ht hS hu (show u < n - 1 by omega) (by omega)).trans (rd_back ht hS hv hv2)
/-- Whatever goes round goes over all of the circle. -/
theorem rd_round (ht : t < n) {v : Nat} (h : Way (kE (rdN n t)) S v v) : (t ≤ v ∧ v < n) ∧ ∀ u, t ≤ u → u < n → S u := by
  have hvn : v < n := by
    obtain ⟨w, _, e, _⟩ := h.head
    exact (rdE.1 e).1
  have step : ∀ x, x < n → (S x ∧ Way (kE (rdN n t)) S x v) → S (rdS n t x) ∧ Way (kE (rdN n t)) S (rdS n t x) v := fun x hx ⟨_, hw⟩ => by
    obtain ⟨w, hSw, e, q⟩ := hw.head
    obtain ⟨_, rfl⟩ := rdE.1 e
    refine ⟨hSw, ?_⟩
    rcases q with q | q
    · rw [q]; exact h
    · exact q
  have hvt : t ≤ v := by
    apply Classical.byContradiction
    intro q
    have s1 := (step v hvn ⟨h.fst, h⟩).2
    have e1 : rdS n t v = v + 1 := by unfold rdS; rw [if_neg (by omega)]
    rw [e1] at s1
    have := s1.closed (T := fun x => v < x) (fun x y _ _ hx e => by
      obtain ⟨h1, rfl⟩ := rdE.1 e
      unfold rdS; split <;> omega) (show v < v + 1 by omega)
    exact absurd this (Nat.lt_irrefl _)
  refine ⟨⟨hvt, hvn⟩, ?_⟩
  have up : ∀ d x, (S x ∧ Way (kE (rdN n t)) S x v) → x + d < n → S (x + d) ∧ Way (kE (rdN n t)) S (x + d) v := by
    intro d
    induction d with
    | zero => intro x hx _; exact hx
    | succ d ih =>
      intro x hx hl
      have := step (x + d) (by omega) (ih x hx (by omega))
      rwa [show rdS n t (x + d) = x + (d + 1) by unfold rdS; rw [if_neg (by omega)]; omega] at this
  have h1 := up (n - 1 - v) v ⟨h.fst, h⟩ (by omega)
  have h2 := step _ (by omega) h1
  rw [show rdS n t (v + (n - 1 - v)) = t by unfold rdS; rw [if_pos (by omega)]] at h2
  intro u hu hun
  have := (up (u - t) t h2 (by omega)).1
  rwa [show t + (u - t) = u by omega] at this
theorem rd_reach (ht : t < n) : ∀ v, v < n → Reaches (nG (rdN n t)) [true] v
  | 0, h => .start 0 (by simpa [rdN_len] using h) rfl
  | v + 1, h => by
    refine .step v (v + 1) (rd_reach ht v (by omega)) ?_
    have : kE (rdN n t) v (v + 1) := rdE.2 ⟨by omega, by unfold rdS; rw [if_neg (by omega)]⟩
    simpa using this.2
theorem rd_inS (ht : t < n) {i : List Bool} {v : Nat} : inS (rdN n t) [true] i v ↔ v < n ∧ hasN i v = true := by
  rw [inS_iff, rdN_len]
  exact ⟨fun h => ⟨h.1, h.2.2⟩, fun h => ⟨h.1, rd_reach ht v h.1, h.2⟩⟩
/-- Is a row met on the circle? -/
def rdM (n t : Nat) (r : List Bool) : Prop := ∃ w, t ≤ w ∧ w < n ∧ hasN r w = true
theorem rd_meets (ht : t < n) {i : List Bool} {A : List (List Bool)} : MeetsP (rdN n t) [true] i A ↔ (∀ u, t ≤ u → u < n → hasN i u = true) ∧ ∀ r ∈ A, rdM n t r := by
  rw [MeetsP_iff]
  constructor
  · rintro ⟨v, hv, hr⟩
    obtain ⟨⟨h1, h2⟩, h3⟩ := rd_round ht hv
    refine ⟨fun u hu hun => ((rd_inS ht).1 (h3 u hu hun)).2, fun r hrA => ?_⟩
    obtain ⟨w, g1, g2⟩ := hr r hrA
    have lw := g2.loop hv
    obtain ⟨⟨g3, g4⟩, _⟩ := rd_round ht lw
    exact ⟨w, g3, g4, g1⟩
  · rintro ⟨h1, h2⟩
    have hS : ∀ u, t ≤ u → u < n → inS (rdN n t) [true] i u := fun u hu hun => (rd_inS ht).2 ⟨hun, h1 u hu hun⟩
    refine ⟨t, rd_all ht hS (Nat.le_refl _) ht (Nat.le_refl _) ht, fun r hr => ?_⟩
    obtain ⟨w, g1, g2, g3⟩ := h2 r hr
    exact ⟨w, g3, .inr ⟨rd_all ht hS g1 g2 (Nat.le_refl _) ht, rd_all ht hS (Nat.le_refl _) ht g1 g2⟩⟩
theorem rd_miss (ht : t < n) {r : List Bool} : (∀ u, t ≤ u → u < n → hasN (wiL (rdN n t) r) u = true) ↔ ¬ rdM n t r := by
  constructor
  · rintro h ⟨w, h1, h2, h3⟩
    have := (wi_iff (by rw [rdN_len]; exact h2)).1 (h w h1 h2)
    rw [h3] at this; cases this
  · intro h u hu hun
    refine (wi_iff (by rw [rdN_len]; exact hun)).2 ?_
    cases q : hasN r u with
    | false => rfl
    | true => exact absurd ⟨u, hu, hun, q⟩ h
theorem rd_fair (ht : t < n) {A E : List (List Bool)} : fairB (rdN n t) [true] A E = true ↔ ((∀ r ∈ A, rdM n t r) → ∀ e ∈ E, rdM n t e) := by
  rw [fair_iff]
  constructor
  · intro h hA e he
    apply Classical.byContradiction
    intro q
    exact h e he ((rd_meets ht).2 ⟨(rd_miss ht).2 q, hA⟩)
  · intro h e he q
    obtain ⟨q1, q2⟩ := (rd_meets ht).1 q
    exact (rd_miss ht).1 q1 (h q2 e he)
theorem rd_unfair (ht : t < n) {A E : List (List Bool)} : unfairB (rdN n t) [true] A E = true ↔ (∀ r ∈ A, rdM n t r) ∧ ¬ ∀ e ∈ E, rdM n t e := by
  rw [unfair_iff]
  constructor
  · rintro ⟨h1, h2⟩
    refine ⟨fun r hr => ?_, fun q => h1 ((rd_meets ht).2 ⟨fun u hu hun => hasN_full (by rw [rdN_len]; exact hun), q⟩)⟩
    apply Classical.byContradiction
    intro q
    exact h2 r hr ((rd_meets ht).2 ⟨(rd_miss ht).2 q, fun r hr => by cases hr⟩)
  · rintro ⟨h1, h2⟩
    exact ⟨fun q => h2 ((rd_meets ht).1 q).2, fun r hr q => (rd_miss ht).1 ((rd_meets ht).1 q).1 (h1 r hr)⟩
theorem rd_even (ht : t < n) {P : List Int} {w : Nat} (hw : t ≤ w) (hwn : w < n) (hm : ∀ u, t ≤ u → u < n → prF2 P u ≤ prF2 P w) :
    evB (rdN n t) P (reachL (nG (rdN n t)) [true]) = decide ((prF2 P w).tmod 2 = 0) := by
  have hS : ∀ v, kS (rdN n t) (reachL (nG (rdN n t)) [true]) v ↔ v < n := fun v => by
    rw [kS_reachL, rdN_len]; exact ⟨fun h => h.1, fun h => ⟨h, rd_reach ht v h⟩⟩
  rw [Bool.eq_iff_iff, decide_eq_true_eq]
  rw [tjE_iff]
  constructor
  · intro h
    apply Classical.byContradiction
    intro q
    exact h ⟨w, q, rd_all ht (fun u hu hun => ⟨(hS u).2 hun, hm u hu hun⟩) hw hwn hw hwn⟩
  · rintro h ⟨v, h1, h2⟩
    obtain ⟨⟨g1, g2⟩, g3⟩ := rd_round ht h2
    have h4 := (g3 w hw hwn).2
    have h5 := hm v g1 g2
    have : prF2 P v = prF2 P w := by omega
    rw [this] at h1; exact h1 h
end
end Go.Par
