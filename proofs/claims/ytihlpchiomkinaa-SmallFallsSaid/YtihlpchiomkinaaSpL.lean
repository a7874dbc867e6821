/- parrylaw16.falls. -/
import Derived.Test.YtihlpchiomkinaaSpK
import Derived.Test.YtihlpchiomkinaaSmQ
set_option linter.unusedSimpArgs false
set_option linter.unusedVariables false
set_option maxRecDepth 8000
set_option maxHeartbeats 1000000
namespace Go.Par
open Go.Proofs

def triI (t : Nat × Nat × Nat) : List Int := [(t.1 : Int), (t.2.1 : Int), (t.2.2 : Int)]
theorem triI_len (t : Nat × Nat × Nat) : (triI t).length = 3 := rfl
theorem triI_get (t : Nat × Nat × Nat) {i : Nat} (h : i < (triI t).length) : (triI t)[i] = atM t i := by
  have h3 : i < 3 := h
  rcases three h3 with rfl | rfl | rfl <;> rfl
theorem falls_ne {t u : Nat × Nat × Nat} {p i : Nat} (hi : i < 3) (hp : p ≤ 2 * i + 1) (he : ∀ k, i < k → k < 3 → atM t k = atM u k) (hne : atM t i ≠ atM u i) : fallsM t u p = decide (atM u i < atM t i) := by
  obtain ⟨a, b, c⟩ := t
  obtain ⟨a', b', c'⟩ := u
  rcases three hi with rfl | rfl | rfl
  · have h1 : (b : Int) = b' := he 1 (by omega) (by omega)
    have h2 : (c : Int) = c' := he 2 (by omega) (by omega)
    have hn : ¬ (a : Int) = a' := hne
    show _ = decide ((a' : Int) < (a : Int))
    simp only [fallsM]
    repeat' split
    all_goals first | (exfalso; omega) | (apply decide_eq_decide.2; omega)
  · have h2 : (c : Int) = c' := he 2 (by omega) (by omega)
    have hn : ¬ (b : Int) = b' := hne
    show _ = decide ((b' : Int) < (b : Int))
    simp only [fallsM]
    repeat' split
    all_goals first | (exfalso; omega) | (apply decide_eq_decide.2; omega)
  · have hn : ¬ (c : Int) = c' := hne
    show _ = decide ((c' : Int) < (c : Int))
    simp only [fallsM]
    repeat' split
    all_goals first | (exfalso; omega) | (apply decide_eq_decide.2; omega)
theorem falls_eq {t u : Nat × Nat × Nat} {p j : Nat} (hj : j ≤ 3) (hp5 : p ≤ 5) (hp : j = 0 ∨ 2 * j - 1 < p) (he : ∀ k, j ≤ k → k < 3 → atM t k = atM u k) : fallsM t u p = decide (p % 2 = 0) := by
  obtain ⟨a, b, c⟩ := t
  obtain ⟨a', b', c'⟩ := u
  have : j = 0 ∨ j = 1 ∨ j = 2 := by omega
  rcases this with rfl | rfl | rfl
  · have h0 : (a : Int) = a' := he 0 (by omega) (by omega)
    have h1 : (b : Int) = b' := he 1 (by omega) (by omega)
    have h2 : (c : Int) = c' := he 2 (by omega) (by omega)
    simp only [fallsM]
    repeat' split
    all_goals first | rfl | (exfalso; omega)
  · have h1 : (b : Int) = b' := he 1 (by omega) (by omega)
    have h2 : (c : Int) = c' := he 2 (by omega) (by omega)
    simp only [fallsM]
    repeat' split
    all_goals first | rfl | (exfalso; omega)
  · have h2 : (c : Int) = c' := he 2 (by omega) (by omega)
    simp only [fallsM]
    repeat' split
    all_goals first | rfl | (exfalso; omega)

theorem l16_falls (t u : Nat × Nat × Nat) (p : Nat) (hp5 : p ≤ 5) : Pure Try.prog 37 [.ro false (ints (triI t)), .ro false (ints (triI u)), .int .i64 (p : Int)] (.bool (fallsM t u p)) := by
  have lA := triI_len t
  have lB := triI_len u
  have gA := fun i (h : i < (triI t).length) => triI_get t h
  have gB := fun i (h : i < (triI u).length) => triI_get u h
  generalize triI t = A at *
  generalize triI u = B at *
  have wp : (p : Int).tmod 2 = ((p % 2 : Nat) : Int) := by rw [Int.tmod_eq_emod_of_nonneg (by omega)]; omega
  have ep : ((p : Int) % 2 == 0) = decide (p % 2 = 0) := by rw [Bool.eq_iff_iff]; simp; omega
  intro h
  refine AC.body Θ_ok Try.func37 rfl rfl (Nat.le_of_ble_eq_true rfl) ?_
  refine AW.seq fun _ k1 => AW.region [] Θ_ok ?_
  simp
  refine k1 _ ?_
  refine AW.seq fun _ k2 => ?_
  refine AW.seq fun _ k3 => AW.region [] Θ_ok ?_
  simp [lA, show IntKind.i64.wrap (3 - 1) = 2 from rfl, show IntKind.i64.wrap 2 = 2 from rfl]
  refine k3 _ ?_
  refine AW.block ?_
  refine AW.loopI (X := Nat) (fun j => j ≤ 3 ∧ ∀ k, j ≤ k → k < 3 → atM t k = atM u k) (fun j => ⟨43, [(0, .ro false (ints A)), (1, .ro false (ints B)), (2, .int .i64 (p : Int)), (7, .int .i64 ((j : Int) - 1))], h⟩) (fun j => j) 3 ⟨Nat.le_refl _, fun k h1 h2 => by omega⟩ (GStep.eq (by simp [lA, show IntKind.i64.wrap 2 = 2 from rfl]) (subH.refl _)) ?_
  rintro j ⟨hj, he⟩
  cases j with
  | zero =>
    have fe := falls_eq (p := p) hj hp5 (.inl rfl) he
    refine AW.seq fun _ k4 => ?_
    refine AW.seq fun _ k5 => AW.region [] Θ_ok ?_
    simp
    refine k5 _ ?_
    refine AW.cond false (by simp [Int.natCast_inj]) (fun h => by cases h) (fun _ => ?_)
    refine AW.exit ?_
    simp
    refine k2 _ ?_
    refine AW.seq fun _ kr => AW.region [] Θ_ok ?_
    simp [wp, ep]
    refine kr _ (AW.ret ?_)
    simp [Try.f37]
    exact Fin.refl ⟨by rw [fe], rfl⟩
  | succ i =>
    have hi : i < 3 := by omega
    have e1 : (((i + 1 : Nat) : Int) - 1) = (i : Int) := by omega
    have w1 : IntKind.i64.wrap (2 * (i : Int)) = 2 * (i : Int) := wrap_id (by omega) (by omega)
    have w2 : IntKind.i64.wrap (2 * (i : Int) + 1) = 2 * (i : Int) + 1 := wrap_id (by omega) (by omega)
    have w3 : IntKind.i64.wrap ((i : Int) - 1) = (i : Int) - 1 := wrap_id (by omega) (by omega)
    rw [e1]
    refine AW.seq fun _ k4 => ?_
    by_cases hp : p ≤ 2 * i + 1
    · have hp1 : (p : Int) ≤ 2 * (i : Int) + 1 := by omega
      refine AW.seq fun _ k5 => AW.region [] Θ_ok ?_
      simp [w1, w2, hp1]
      refine k5 _ ?_
      refine AW.cond true (by simp [Int.natCast_inj, hp1]) (fun _ => ?_) (fun h => by cases h)
      refine AW.skip ?_
      simp
      refine k4 _ ?_
      have hiA : i < A.length := by omega
      have hiB : i < B.length := by omega
      have g1 := gA i hiA
      have g2 := gB i hiB
      have he' : ∀ k, i < k → k < 3 → atM t k = atM u k := fun k h1 h2 => he k (by omega) h2
      refine AW.seq fun _ k4 => ?_
      refine AW.block ?_
      by_cases hc : atM t i = atM u i
      · refine AW.seq fun _ k7 => AW.draw [] 9 [] Θ_ok mixed (by kernel_rfl) (by kernel_rfl) ?_
        simp [vcDraw, vcPre, vcTail, callA, isAlloc, isLoad, effOp, obl, obA, mkOK, valA, hiA, hiB, g1, g2, hc]
        refine k7 _ ?_
        refine AW.cond false (by simp [Int.natCast_inj]) (fun h => by cases h) (fun _ => ?_)
        refine AW.skip ?_
        simp
        refine k4 _ ?_
        refine AW.region [] Θ_ok ?_
        simp [w3]
        exact ⟨i, ⟨by omega, fun k h1 h2 => by
          by_cases e : k = i
          · subst e; exact hc
          · exact he' k (by omega) h2⟩, by omega, GStep.eq (by simp) (subH.refl _)⟩
      · have fn := falls_ne hi hp he' hc
        refine AW.seq fun _ k7 => AW.draw [] 9 [] Θ_ok mixed (by kernel_rfl) (by kernel_rfl) ?_
        simp [vcDraw, vcPre, vcTail, callA, isAlloc, isLoad, effOp, obl, obA, mkOK, valA, hiA, hiB, g1, g2, hc]
        refine k7 _ ?_
        refine AW.cond true (by simp [Int.natCast_inj, hc]) (fun _ => ?_) (fun h => by cases h)
        refine AW.seq fun _ kr => AW.draw [] 10 [] Θ_ok mixed (by kernel_rfl) (by kernel_rfl) ?_
        simp [vcDraw, vcPre, vcTail, callA, isAlloc, isLoad, effOp, obl, obA, mkOK, valA, hiA, hiB, g1, g2]
        refine kr _ (AW.ret ?_)
        simp [Try.f37]
        exact Fin.refl ⟨by rw [fn], rfl⟩
    · have hp1 : ¬ (p : Int) ≤ 2 * (i : Int) + 1 := by omega
      have hp2 : 2 * (i : Int) + 1 < (p : Int) := by omega
      have fe := falls_eq (p := p) hj hp5 (.inr (by omega)) he
      refine AW.seq fun _ k5 => AW.region [] Θ_ok ?_
      simp [w1, w2, hp1, hp2]
      refine k5 _ ?_
      refine AW.cond false (by simp [Int.natCast_inj, hp1, hp2]) (fun h => by cases h) (fun _ => ?_)
      refine AW.exit ?_
      simp
      refine k2 _ ?_
      refine AW.seq fun _ kr => AW.region [] Θ_ok ?_
      simp [wp, ep]
      refine kr _ (AW.ret ?_)
      simp [Try.f37]
      exact Fin.refl ⟨by rw [fe], rfl⟩
end Go.Par
