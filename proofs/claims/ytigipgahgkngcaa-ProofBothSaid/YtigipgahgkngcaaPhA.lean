import Derived.Test.YtigipgahgkngcaaPrG
set_option linter.unusedSimpArgs false
set_option linter.unusedVariables false
set_option maxRecDepth 8000
set_option maxHeartbeats 1000000
namespace Go.Par
open Go.Proofs

theorem r9_MayPrio (g : G) (hf : g.fits) (P : List Int) (hP : P.length ≤ 1152921504606846976) : Pure Try.prog 23 [g.av, .ro false (ints P)] (.bool (mayP g P)) := by
  intro h
  refine AC.body Θ_ok Try.func23 rfl rfl (Nat.le_of_ble_eq_true rfl) ?_
  refine AW.seq fun _ k1 => AW.region [] Θ_ok ?_
  simp
  refine k1 _ ?_
  refine AW.seq fun _ k1 => ?_
  by_cases hm : mayE g = 0
  · by_cases hl : P.length = g.owner.length
    · have hl' : (P.length : Int) = g.owner.length := by omega
      refine AW.seq fun _ k2 => AW.regionAt 2 [] Θ_ok fun B hB => ?_
      simp
      refine (r9_May g hf).use (by simp [G.av]) ?_
      refine hB _ ?_
      clear hB B
      simp [hm, hl, hl']
      refine k2 _ ?_
      refine AW.cond false (by simp [Int.natCast_inj, hm, hl]) (fun h => by cases h) (fun _ => ?_)
      refine AW.skip ?_
      simp
      refine k1 _ ?_
      refine AW.seq fun _ k1 => ?_
      refine AW.seq fun _ k2 => AW.region [] Θ_ok ?_
      simp
      refine k2 _ ?_
      refine AW.block ?_
      refine AW.loopI (X := Nat) (fun x => x ≤ P.length ∧ ∀ j (h : j < P.length), j < x → 0 ≤ P[j] ∧ P[j] < 6) (fun x => ⟨31, [(18, .ro false (ints P)), (19, .int .i64 P.length), (20, .int .i64 x)], h⟩) (fun x => P.length - x) 0 ⟨Nat.zero_le _, fun j _ h => by omega⟩ (GStep.eq (by simp) (subH.refl _)) fun x hx => ?_
      obtain ⟨hx, hno⟩ := hx
      refine AW.seq fun _ k2 => AW.region [] Θ_ok ?_
      simp
      refine k2 _ ?_
      by_cases hlt : x < P.length
      · have inc := wrap_succ (show x < 9223372036854775807 by omega)
        refine AW.seq fun _ k2 => AW.cond true (by simp [Int.natCast_inj, hlt]) (fun _ => ?_) (fun h => by cases h)
        refine AW.skip ?_
        simp
        refine k2 _ ?_
        refine AW.seq fun _ k2 => ?_
        refine AW.block ?_
        refine AW.seq fun _ k3 => AW.region [] Θ_ok ?_
        simp [hlt]
        refine k3 _ ?_
        by_cases c1 : P[x] < 0
        · refine AW.seq fun _ k3 => AW.region [] Θ_ok ?_
          simp [c1]
          refine k3 _ ?_
          refine AW.cond true (by simp [Int.natCast_inj, c1]) (fun _ => ?_) (fun h => by cases h)
          refine AW.seq fun _ kr => AW.region [] Θ_ok ?_
          simp
          refine kr _ (AW.ret ?_)
          simp [Try.f23]
          have : mayP g P = false := by
            rw [← Bool.not_eq_true]
            intro q
            simp only [mayP, Bool.and_eq_true, decide_eq_true_eq, List.all_eq_true] at q
            have := q.2 P[x] (List.getElem_mem hlt)
            omega
          exact Fin.refl ⟨by rw [this], rfl⟩
        · by_cases c2 : 6 ≤ P[x]
          · refine AW.seq fun _ k3 => AW.region [] Θ_ok ?_
            simp [c1, c2, Int.not_lt.1 c1]
            refine k3 _ ?_
            refine AW.cond true (by simp [Int.natCast_inj, c1, c2, Int.not_lt.1 c1]) (fun _ => ?_) (fun h => by cases h)
            refine AW.seq fun _ kr => AW.region [] Θ_ok ?_
            simp
            refine kr _ (AW.ret ?_)
            simp [Try.f23]
            have : mayP g P = false := by
              rw [← Bool.not_eq_true]
              intro q
              simp only [mayP, Bool.and_eq_true, decide_eq_true_eq, List.all_eq_true] at q
              have := q.2 P[x] (List.getElem_mem hlt)
              omega
            exact Fin.refl ⟨by rw [this], rfl⟩
          · have c3 : P[x] < 6 := by omega
            refine AW.seq fun _ k3 => AW.region [] Θ_ok ?_
            simp [c1, c2, c3, Int.not_lt.1 c1]
            refine k3 _ ?_
            refine AW.cond false (by simp [Int.natCast_inj, c1, c2, c3, Int.not_lt.1 c1]) (fun h => by cases h) (fun _ => ?_)
            refine AW.skip ?_
            simp
            refine k2 _ ?_
            refine AW.region [] Θ_ok ?_
            simp
            exact ⟨x + 1, ⟨by omega, fun j h hj => by
              by_cases e : j = x
              · subst e; exact ⟨by omega, by omega⟩
              · exact hno j h (by omega)⟩, by omega, GStep.eq (by simp [inc]) (subH.refl _)⟩
      · obtain rfl : x = P.length := by omega
        refine AW.seq fun _ k2 => AW.cond false (by simp [Int.natCast_inj]) (fun h => by cases h) (fun _ => ?_)
        refine AW.exit ?_
        simp
        refine k1 _ ?_
        refine AW.seq fun _ kr => AW.region [] Θ_ok ?_
        simp
        refine kr _ (AW.ret ?_)
        simp [Try.f23]
        have : mayP g P = true := by
          simp only [mayP, Bool.and_eq_true, decide_eq_true_eq, List.all_eq_true]
          refine ⟨⟨hm, hl⟩, fun p hp => ?_⟩
          obtain ⟨j, hj, rfl⟩ := List.getElem_of_mem hp
          exact hno j hj hj
        exact Fin.refl ⟨by rw [this], rfl⟩
    · have hl' : ¬ (P.length : Int) = g.owner.length := by omega
      have : mayP g P = false := by simp [mayP, hl]
      refine AW.seq fun _ k2 => AW.regionAt 2 [] Θ_ok fun B hB => ?_
      simp
      refine (r9_May g hf).use (by simp [G.av]) ?_
      refine hB _ ?_
      clear hB B
      simp [hm, hl, hl']
      refine k2 _ ?_
      refine AW.cond true (by simp [Int.natCast_inj, hm, hl]) (fun _ => ?_) (fun h => by cases h)
      refine AW.seq fun _ kr => AW.region [] Θ_ok ?_
      simp
      refine kr _ (AW.ret ?_)
      simp [Try.f23]
      exact Fin.refl ⟨by rw [this], rfl⟩
  · have : mayP g P = false := by simp [mayP, hm]
    refine AW.seq fun _ k2 => AW.regionAt 2 [] Θ_ok fun B hB => ?_
    simp
    refine (r9_May g hf).use (by simp [G.av]) ?_
    refine hB _ ?_
    clear hB B
    simp [hm]
    refine k2 _ ?_
    refine AW.cond true (by simp [Int.natCast_inj, hm]) (fun _ => ?_) (fun h => by cases h)
    refine AW.seq fun _ kr => AW.region [] Θ_ok ?_
    simp
    refine kr _ (AW.ret ?_)
    simp [Try.f23]
    exact Fin.refl ⟨by rw [this], rfl⟩

/-- How heavy a game with priorities is. -/
def heavy15 (g : G) (P : List Int) : Int := if 0 < heavyE g then heavyE g else if 300 < P.length ∨ 60 < g.owner.length then 1 else 0
theorem l15_Heavy (g : G) (hf : g.fits) (P : List Int) : Pure Try.prog 19 [g.av, .ro false (ints P)] (.int .i64 (heavy15 g P)) := by
  unfold heavy15
  intro h
  refine AC.body Θ_ok Try.func19 rfl rfl (Nat.le_of_ble_eq_true rfl) ?_
  refine AW.seq fun _ k1 => AW.region [] Θ_ok ?_
  simp
  refine k1 _ ?_
  refine AW.seq fun _ k1 => ?_
  refine AW.seq fun _ k2 => AW.regionAt 2 [] Θ_ok fun B hB => ?_
  simp
  refine (l9_Heavy g hf).use (by simp [G.av]) ?_
  refine hB _ ?_
  clear hB B
  simp
  refine k2 _ ?_
  refine AW.seq fun _ k2 => AW.region [] Θ_ok ?_
  simp
  refine k2 _ ?_
  by_cases h1 : 0 < heavyE g
  · refine AW.cond true (by simp [Int.natCast_inj, h1]) (fun _ => ?_) (fun h => by cases h)
    refine AW.seq fun _ kr => AW.region [] Θ_ok ?_
    simp
    refine kr _ (AW.ret ?_)
    simp [Try.f19]
    exact Fin.refl ⟨by rw [if_pos h1], rfl⟩
  · refine AW.cond false (by simp [Int.natCast_inj, h1]) (fun h => by cases h) (fun _ => ?_)
    refine AW.skip ?_
    simp
    refine k1 _ ?_
    refine AW.seq fun _ k1 => ?_
    rw [if_neg h1]
    by_cases h2 : 300 < P.length
    · have h2' : (300 : Int) < P.length := by omega
      refine AW.seq fun _ k2 => AW.region [] Θ_ok ?_
      simp [h2, h2']
      refine k2 _ ?_
      refine AW.cond true (by simp [Int.natCast_inj, h2, h2']) (fun _ => ?_) (fun h => by cases h)
      refine AW.seq fun _ kr => AW.region [] Θ_ok ?_
      simp
      refine kr _ (AW.ret ?_)
      simp [Try.f19]
      exact Fin.refl ⟨by rw [if_pos (.inl h2)], rfl⟩
    · have h2' : ¬ (300 : Int) < P.length := by omega
      by_cases h3 : 60 < g.owner.length
      · have h3' : (60 : Int) < g.owner.length := by omega
        refine AW.seq fun _ k2 => AW.region [] Θ_ok ?_
        simp [h2, h2', h3, h3']
        refine k2 _ ?_
        refine AW.cond true (by simp [Int.natCast_inj, h2, h2', h3, h3']) (fun _ => ?_) (fun h => by cases h)
        refine AW.seq fun _ kr => AW.region [] Θ_ok ?_
        simp
        refine kr _ (AW.ret ?_)
        simp [Try.f19]
        exact Fin.refl ⟨by rw [if_pos (.inr h3)], rfl⟩
      · have h3' : ¬ (60 : Int) < g.owner.length := by omega
        refine AW.seq fun _ k2 => AW.region [] Θ_ok ?_
        simp [h2, h2', h3, h3']
        refine k2 _ ?_
        refine AW.cond false (by simp [Int.natCast_inj, h2, h2', h3, h3']) (fun h => by cases h) (fun _ => ?_)
        refine AW.skip ?_
        simp
        refine k1 _ ?_
        refine AW.seq fun _ kr => AW.region [] Θ_ok ?_
        simp
        refine kr _ (AW.ret ?_)
        simp [Try.f19]
        exact Fin.refl ⟨by simp [h1, h2, h3], rfl⟩
theorem heavy15_ok {g : G} {P : List Int} (h : ¬ 0 < heavy15 g P) : P.length ≤ 300 ∧ g.owner.length ≤ 60 := by
  unfold heavy15 at h
  split at h
  · omega
  · split at h
    · omega
    · rename_i q; exact ⟨by omega, by omega⟩

/-! ### A game that is known -/
def ring15 : G := ⟨[0, 1], [[0, 1], [1]]⟩
theorem ring15_fits : ring15.fits := ⟨by decide, by decide, by decide⟩
theorem ring15_A : mayP ring15 [1, 2] = true := rfl
theorem ring15_B : mayP ring15 [2, 2] = true := rfl
theorem ring15_e0 {w : Nat} (h : gE ring15 0 w) : w = 0 ∨ w = 1 := by
  have : (w : Int) ∈ ([0, 1] : List Int) := h
  simp at this; omega
theorem ring15_e1 {w : Nat} (h : gE ring15 1 w) : w = 1 := by
  have : (w : Int) ∈ ([1] : List Int) := h
  simp at this; omega
theorem ring15_wA : winL ring15 [1, 2] = [0, 1] := by
  have ok := mayP_ok ring15_A
  have w0 : fI (winL ring15 [1, 2]) 0 = 0 := win_uniq ok (.inl rfl) (T := fun _ => 0) (D := fun v => v = 0) (fun v h => by subst h; decide)
    ⟨fun v hv _ => by subst hv; exact ⟨0, rfl, by show (0 : Int) ∈ ([0, 1] : List Int); simp, rfl⟩, fun v hv e => by subst hv; exact absurd rfl e, fun v hv e => by subst hv; cases e⟩ rfl
  have w1 : fI (winL ring15 [1, 2]) 1 = 1 := win_uniq ok (.inr rfl) (T := fun _ => 1) (D := fun v => v = 1) (fun v h => by subst h; decide)
    ⟨fun v hv _ => by subst hv; exact ⟨1, rfl, by show (1 : Int) ∈ ([1] : List Int); simp, rfl⟩, fun v hv e => by subst hv; exact absurd rfl e, fun v hv e => by subst hv; cases e⟩ rfl
  have l : (winL ring15 [1, 2]).length = 2 := (zfin_spec ok).2.2.1
  match h : winL ring15 [1, 2], l with
  | [a, b], _ =>
    rw [h] at w0 w1
    have e1 : a = 0 := w0
    have e2 : b = 1 := w1
    rw [e1, e2]
theorem ring15_tA : toL ring15 [1, 2] = [0, 1] := by
  have ok := mayP_ok ring15_A
  have s := solve_sol ok
  have w := ring15_wA
  obtain ⟨u0, q1, q2, q3, q4⟩ := s.own 0 (by decide) (by rw [w]; rfl)
  obtain ⟨u1, r1, r2, r3, r4⟩ := s.own 1 (by decide) (by rw [w]; rfl)
  have e0 : u0 = 0 := by
    rcases ring15_e0 q2 with e | e
    · exact e
    · subst e; rw [w] at q4; cases q4
  have e1 := ring15_e1 r2
  subst e0 e1
  have l : (toL ring15 [1, 2]).length = 2 := length_tab _ _
  match h : toL ring15 [1, 2], l with
  | [a, b], _ =>
    rw [h] at q1 r1
    have e1 : a = 0 := q1
    have e2 : b = 1 := r1
    rw [e1, e2]
theorem ring15_wB : (winL ring15 [2, 2]).length = 2 ∧ fI (winL ring15 [2, 2]) 0 = 1 := by
  have ok := mayP_ok ring15_B
  refine ⟨(zfin_spec ok).2.2.1, win_uniq ok (.inr rfl) (T := fun _ => 1) (D := fun v => v < 2) (fun v h => h) ⟨fun v hv e => ?_, fun v hv e w hw => ?_, fun v hv e => ?_⟩ (show 0 < 2 by decide)⟩
  · have : v = 0 ∨ v = 1 := by omega
    rcases this with rfl | rfl
    · cases e
    · exact ⟨1, rfl, by show (1 : Int) ∈ ([1] : List Int); simp, by decide⟩
  · have : v = 0 ∨ v = 1 := by omega
    rcases this with rfl | rfl
    · rcases ring15_e0 hw with e | e <;> omega
    · have := ring15_e1 hw; omega
  · have : v = 0 ∨ v = 1 := by omega
    rcases this with rfl | rfl <;> cases e

end Go.Par
