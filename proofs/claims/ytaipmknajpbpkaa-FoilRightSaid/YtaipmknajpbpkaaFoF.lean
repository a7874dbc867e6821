/- FoilRight: the rows of the play, plain. -/
import Derived.Test.YtaipmknajpbpkaaFoE
import Derived.Test.YtaipmknajpbpkaaLwFoilAll
set_option linter.unusedSimpArgs false
set_option linter.unusedVariables false
set_option maxRecDepth 8000
namespace Go.Par

def plS (row : Nat → List Int) (p k i : Nat) : List Int := if i < p then row i else if i = p then (row i).take k else []
theorem plS_zero (row : Nat → List Int) (i : Nat) : plS row 0 0 i = [] := by unfold plS; simp
theorem plS_full (row : Nat → List Int) (p i : Nat) : plS row p (row p).length i = plS row (p + 1) 0 i := by
  unfold plS
  by_cases h : i < p
  · rw [if_pos h, if_pos (by omega)]
  · rw [if_neg h]
    by_cases e : i = p
    · subst e; simp
    · rw [if_neg e, if_neg (by omega)]; split <;> simp
theorem plS_step (row : Nat → List Int) (p i : Nat) {k : Nat} (hk : k < (row p).length) : plS row p (k + 1) i = plS row p k i ++ if i = p then [(row p)[k]] else [] := by
  unfold plS
  by_cases h : i < p
  · rw [if_pos h, if_pos h, if_neg (by omega)]; simp
  · rw [if_neg h, if_neg h]
    by_cases e : i = p
    · subst e; rw [if_pos rfl, if_pos rfl, if_pos rfl, List.take_succ_eq_append_getElem hk]
    · simp [e]
theorem plS_at (row : Nat → List Int) (p k : Nat) : plS row p k p = (row p).take k := by unfold plS; simp
theorem plS_ne (row : Nat → List Int) (p i : Nat) (h : i ≠ p) : plS row (p + 1) 0 i = plS row p 0 i := by
  unfold plS
  by_cases q : i < p
  · rw [if_pos q, if_pos (by omega)]
  · rw [if_neg q, if_neg (by omega), if_neg h]; split <;> simp
theorem plS_self (row : Nat → List Int) (p : Nat) : plS row (p + 1) 0 p = row p := by unfold plS; simp
def plC (M : Nat) (f : Nat → Nat) (row : Nat → List Int) (p k : Nat) : Ob := ⟨tab M fun i => .mu (f i) (plS row p k i).length, 22, 1, true⟩
def plR (row : Nat → List Int) (nn : Nat → Bool) (p k : Nat) : Nat → Ob := fun i => ⟨ints (plS row p k i), 3, 1, nn i⟩
def frS (Z : List Bool) (M K p : Nat) : List Bool := tab M fun i => decide (i < p) && !hasN Z (i / K)
theorem frS_set (Z : List Bool) (M K p : Nat) : (frS Z M K p).set p (!hasN Z (p / K)) = frS Z M K (p + 1) := by
  unfold frS; rw [set_tab]
  refine tab_congr fun i hi => ?_
  by_cases e : i = p
  · subst e; simp
  · by_cases h1 : i < p
    · simp [e, h1, show i < p + 1 by omega]
    · simp [e, h1, show ¬ i < p + 1 by omega]

noncomputable def rowF (g : G) (A E : List (List Bool)) (i : Nat) : List Int :=
  if ow g (vC A E i) = 1 ∨ hasN (solveL g A E).1 (vC A E i) = true then (nx g (vC A E i)).map fun w => w * (kC A E : Int) + (onThen A E (vC A E i) (i % kC A E) : Nat) else [fI (toL (cgG g A E) (cgP g A E)) i]

theorem stepV_get {g : G} {A E : List (List Bool)} {W T : List Int} {K v m : Nat} (c : ow g v = 0 ∧ fI W (v * K) = 0) (hm : m < K) : ∀ n, v < n →
    (stepV g A E W T K n)[(stepV g A E W T K v).length + m]? = some ⟨v, m, ((fI T (v * K + m)).toNat / K : Nat), (onThen A E v m : Nat)⟩
  | 0, h => by omega
  | n + 1, h => by
    rw [stepV]
    by_cases e : v = n
    · subst e
      rw [if_pos c, List.getElem?_append_right (by omega), Nat.add_sub_cancel_left]
      simp [stepM, getElem?_tab, hm]
    · have ih := stepV_get (A := A) (E := E) (T := T) c hm n (by omega)
      rw [List.getElem?_append_left (List.getElem?_eq_some_iff.1 ih).1]
      exact ih

section
variable {g : G} {A E : List (List Bool)} (h : cgErr g A E = 0)
include h
theorem win_zp {p : Nat} (hp : p < g.owner.length * kC A E) : fI (winL (cgG g A E) (cgP g A E)) p = 0 ↔ hasN (solveL g A E).1 (vC A E p) = false := by
  have q := gr1_counter h hp
  rcases solve_win (cg_pok h) (v := p) (by rw [cg_len h]; exact hp) with w | w
  · rw [w] at q ⊢
    refine ⟨fun _ => ?_, fun _ => rfl⟩
    cases z : hasN (solveL g A E).1 (vC A E p) with
    | false => rfl
    | true => exact absurd (q.2 z) (by decide)
  · rw [w] at q ⊢
    rw [q.1 rfl]
    exact ⟨fun z => (by cases z), fun z => (by cases z)⟩
theorem rowF_edge {p q : Nat} (hp : p < g.owner.length * kC A E) (hq : (q : Int) ∈ rowF g A E p) : gE (cgG g A E) p q ∧ (fI (winL (cgG g A E) (cgP g A E)) p = 0 → ow (cgG g A E) p = 0 → fI (toL (cgG g A E) (cgP g A E)) p = q) := by
  have ok := cg_ok h
  have hv := cg_v h hp
  unfold rowF at hq
  split at hq
  · rename_i c
    obtain ⟨w, hw, e⟩ := List.mem_map.1 hq
    obtain ⟨b0, b1⟩ := (nx_ok ok.m hv).2 w hw
    obtain ⟨w', rfl⟩ := Int.eq_ofNat_of_zero_le b0
    refine ⟨(cg_edge h hp).2 ⟨w', hw, ?_⟩, fun z o => ?_⟩
    · have : ((w' * kC A E + onThen A E (vC A E p) (p % kC A E) : Nat) : Int) = q := by rw [← e]; push_cast; rfl
      omega
    · exfalso
      rw [cg_ow h hp] at o
      rcases c with c | c
      · rw [o] at c; cases c
      · rw [(win_zp h hp).1 z] at c; cases c
  · rename_i c
    simp only [not_or] at c
    have o0 : ow g (vC A E p) = 0 := (ow_all ok.m _).resolve_right c.1
    have z0 : hasN (solveL g A E).1 (vC A E p) = false := by simpa using c.2
    have hm : p % kC A E < kC A E := Nat.mod_lt _ ok.k0
    have pe : vC A E p * kC A E + p % kC A E = p := by rw [Nat.mul_comm]; exact Nat.div_add_mod _ _
    obtain ⟨q', q1, q2, q3, q4, q5, q6⟩ := fo_env h hv hm o0 ((win_z h hv).2 z0)
    rw [pe] at q1 q5
    rw [List.mem_singleton, q1] at hq
    have : q = q' := by omega
    subst this
    exact ⟨q5, fun _ _ => q1⟩
end
end Go.Par
