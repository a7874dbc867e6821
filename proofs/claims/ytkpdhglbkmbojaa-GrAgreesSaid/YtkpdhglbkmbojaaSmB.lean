/- parryref9.below, Measures, Winners. -/
import Derived.Test.YtkpdhglbkmbojaaSmA
set_option linter.unusedSimpArgs false
set_option linter.unusedVariables false
set_option maxRecDepth 8000
set_option maxHeartbeats 1000000
namespace Go.Par
open Go.Proofs

def lM (t : Nat × Nat × Nat) : List AV := [.int .i64 t.1, .int .i64 t.2.1, .int .i64 t.2.2, .bool false]
def atM (t : Nat × Nat × Nat) (x : Nat) : Int := if x = 0 then (t.1 : Int) else if x = 1 then (t.2.1 : Int) else (t.2.2 : Int)
theorem lM_drop (t : Nat × Nat × Nat) {x : Nat} (h : x < 3) : (lM t).drop x = .int .i64 (atM t x) :: (lM t).drop (x + 1) := by
  rcases three h with rfl | rfl | rfl <;> rfl
theorem lM_drop3 (t : Nat × Nat × Nat) : (lM t).drop 3 = [.bool false] := rfl
theorem code_lt {mo : Mo} (ok : mo.ok) {t u : Nat × Nat × Nat} (ht : msOk mo (some t)) (hu : msOk mo (some u)) {x : Nat} (hx : x < 3) (he : ∀ k, x < k → k < 3 → atM t k = atM u k) (hne : atM t x ≠ atM u x) : mcode (some t) < mcode (some u) ↔ atM t x < atM u x := by
  obtain ⟨h1, h2, h3⟩ := ok
  obtain ⟨a, b, c⟩ := t
  obtain ⟨a', b', c'⟩ := u
  simp only [msOk] at ht hu
  have e1 := he 1
  have e2 := he 2
  rcases three hx with rfl | rfl | rfl <;> simp [atM] at e1 e2 hne ⊢ <;> simp only [mcode] <;> omega
theorem code_eq {t u : Nat × Nat × Nat} (he : ∀ k, k < 3 → atM t k = atM u k) : t = u := by
  obtain ⟨a, b, c⟩ := t
  obtain ⟨a', b', c'⟩ := u
  have e0 := he 0 (by omega)
  have e1 := he 1 (by omega)
  have e2 := he 2 (by omega)
  simp [atM] at e0 e1 e2
  have q0 : a = a' := by omega
  have q1 : b = b' := by omega
  have q2 : c = c' := by omega
  subst q0; subst q1; subst q2; rfl
theorem code_top {mo : Mo} (ok : mo.ok) {t : Nat × Nat × Nat} (ht : msOk mo (some t)) : mcode (some t) < mcode none := by
  have := mcode_top ok ht
  have h2 : mcode none = 64000000000 := rfl
  have h3 : mcode (some t) ≠ 64000000000 := fun e => by have := this.2 e; cases this
  omega

theorem r9_below (mo : Mo) (ok : mo.ok) (x y : Ms) (hx : msOk mo x) (hy : msOk mo y) : Pure Try.prog 64 [avM x, avM y] (.bool (decide (mcode x < mcode y))) := by
  cases x with
  | none =>
    have e : decide (mcode none < mcode y) = false := decide_eq_false (by have := (mcode_top ok hy).1; have h2 : mcode none = 64000000000 := rfl; omega)
    rw [e]
    intro h
    refine AC.body Θ_ok Try.func64 rfl rfl (Nat.le_of_ble_eq_true rfl) ?_
    cases y with
    | none =>
      refine AW.seq fun _ k1 => AW.region [] Θ_ok ?_
      simp
      refine k1 _ ?_
      refine AW.seq fun _ k1 => ?_
      refine AW.seq fun _ k2 => AW.region [] Θ_ok ?_
      simp
      refine k2 _ ?_
      refine AW.cond true (by simp [Int.natCast_inj]) (fun _ => ?_) (fun h => by cases h)
      refine AW.seq fun _ kr => AW.region [] Θ_ok ?_
      simp
      refine kr _ (AW.ret ?_)
      simp [Try.f64]
      exact Fin.refl ⟨rfl, rfl⟩
    | some u =>
      obtain ⟨a, b, c⟩ := u
      refine AW.seq fun _ k1 => AW.region [] Θ_ok ?_
      simp
      refine k1 _ ?_
      refine AW.seq fun _ k1 => ?_
      refine AW.seq fun _ k2 => AW.region [] Θ_ok ?_
      simp
      refine k2 _ ?_
      refine AW.cond true (by simp [Int.natCast_inj]) (fun _ => ?_) (fun h => by cases h)
      refine AW.seq fun _ kr => AW.region [] Θ_ok ?_
      simp
      refine kr _ (AW.ret ?_)
      simp [Try.f64]
      exact Fin.refl ⟨rfl, rfl⟩
  | some t =>
    cases y with
    | none =>
      have e : decide (mcode (some t) < mcode none) = true := decide_eq_true (code_top ok hx)
      rw [e]
      intro h
      refine AC.body Θ_ok Try.func64 rfl rfl (Nat.le_of_ble_eq_true rfl) ?_
      obtain ⟨a, b, c⟩ := t
      refine AW.seq fun _ k1 => AW.region [] Θ_ok ?_
      simp
      refine k1 _ ?_
      refine AW.seq fun _ k1 => ?_
      refine AW.seq fun _ k2 => AW.region [] Θ_ok ?_
      simp
      refine k2 _ ?_
      refine AW.cond true (by simp [Int.natCast_inj]) (fun _ => ?_) (fun h => by cases h)
      refine AW.seq fun _ kr => AW.region [] Θ_ok ?_
      simp
      refine kr _ (AW.ret ?_)
      simp [Try.f64]
      exact Fin.refl ⟨rfl, rfl⟩
    | some u =>
      have eT : avM (some t) = .agg (lM t) := rfl
      have eU : avM (some u) = .agg (lM u) := rfl
      have e1 := fun x (hx' : x < 3) => code_lt ok hx hy hx'
      have e2 := code_eq (t := t) (u := u)
      obtain ⟨bb, hbb⟩ : ∃ bb, bb = decide (mcode (some t) < mcode (some u)) := ⟨_, rfl⟩
      rw [eT, eU, ← hbb]
      intro h
      refine AC.body Θ_ok Try.func64 rfl rfl (Nat.le_of_ble_eq_true rfl) ?_
      have d3 := lM_drop3 t
      have d3' := lM_drop3 u
      refine AW.seq fun _ k1 => AW.region [] Θ_ok ?_
      simp
      refine k1 _ ?_
      refine AW.seq fun _ k1 => ?_
      refine AW.seq fun _ k2 => AW.region [] Θ_ok ?_
      simp [d3, d3']
      refine k2 _ ?_
      refine AW.cond false (by simp [Int.natCast_inj]) (fun h => by cases h) (fun _ => ?_)
      refine AW.skip ?_
      simp
      refine k1 _ ?_
      refine AW.seq fun _ k1 => ?_
      refine AW.seq fun _ k2 => AW.region [] Θ_ok ?_
      simp
      refine k2 _ ?_
      refine AW.block ?_
      refine AW.loopI (X := Nat) (fun j => j ≤ 3 ∧ ∀ k, 3 - j ≤ k → k < 3 → atM t k = atM u k) (fun j => ⟨41, [(2, .rop (lM t)), (3, .rop (lM u)), (5, .int .i64 (2 - (j : Int)))], h⟩) (fun j => 3 - j) 0 ⟨Nat.zero_le _, fun k h1 h2 => by omega⟩ (GStep.eq (by simp) (subH.refl _)) fun j hj => ?_
      obtain ⟨hj, heq⟩ := hj
      refine AW.seq fun _ k2 => ?_
      refine AW.seq fun _ k3 => AW.region [] Θ_ok ?_
      simp
      refine k3 _ ?_
      by_cases hlt : j < 3
      · obtain ⟨x, hxj⟩ : ∃ x, x = 2 - j := ⟨_, rfl⟩
        have hx3 : x < 3 := by omega
        have ej : 2 - (j : Int) = (x : Int) := by omega
        have w : IntKind.i64.wrap ((x : Int) - 1) = 2 - ((j + 1 : Nat) : Int) := by rw [wrap_id (by omega) (by omega)]; omega
        have hge : (0 : Int) ≤ (x : Int) := by omega
        have hx3' : (x : Int) < 3 := by omega
        have dx := lM_drop t hx3
        have du := lM_drop u hx3
        rw [ej]
        have hj2 : (j : Int) ≤ 2 := by omega
        refine AW.cond true (by simp [Int.natCast_inj, hge, hj2]) (fun _ => ?_) (fun h => by cases h)
        refine AW.skip ?_
        simp
        refine k2 _ ?_
        refine AW.seq fun _ k3 => ?_
        refine AW.block ?_
        refine AW.seq fun _ k5 => AW.draw [] 9 [] Θ_ok mixed (by kernel_rfl) (by kernel_rfl) ?_
        simp [vcDraw, vcPre, vcTail, callA, isAlloc, isLoad, effOp, obl, obA, mkOK, valA, dx, du, hx3, hx3']
        refine k5 _ ?_
        by_cases c1 : atM t x = atM u x
        · refine AW.cond false (by simp [Int.natCast_inj, c1]) (fun h => by cases h) (fun _ => ?_)
          refine AW.skip ?_
          simp
          refine k3 _ ?_
          refine AW.region [] Θ_ok ?_
          simp
          exact ⟨j + 1, ⟨by omega, fun k h1 h2 => by
            by_cases e : k = x
            · subst e; exact c1
            · exact heq k (by omega) h2⟩, by omega, GStep.eq (by simp [w]) (subH.refl _)⟩
        · have := e1 x hx3 (fun k h1 h2 => heq k (by omega) h2) c1
          have eb : bb = decide (atM t x < atM u x) := by rw [hbb]; simp [this]
          refine AW.cond true (by simp [Int.natCast_inj, c1]) (fun _ => ?_) (fun h => by cases h)
          refine AW.seq fun _ kr => AW.draw [] 10 [] Θ_ok mixed (by kernel_rfl) (by kernel_rfl) ?_
          simp [vcDraw, vcPre, vcTail, callA, isAlloc, isLoad, effOp, obl, obA, mkOK, valA, dx, du, hx3, hx3']
          refine kr _ (AW.ret ?_)
          simp [Try.f64]
          exact Fin.refl ⟨by rw [eb], rfl⟩
      have : j = 3 := by omega
      subst this
      have := e2 fun k hk => heq k (by omega) hk
      subst this
      have eb : bb = false := by rw [hbb]; simp
      refine AW.cond false (by simp [Int.natCast_inj]) (fun h => by cases h) (fun _ => ?_)
      refine AW.exit ?_
      simp
      refine k1 _ ?_
      refine AW.seq fun _ kr => AW.region [] Θ_ok ?_
      simp
      refine kr _ (AW.ret ?_)
      simp [Try.f64]
      exact Fin.refl ⟨by rw [eb], rfl⟩
end Go.Par
