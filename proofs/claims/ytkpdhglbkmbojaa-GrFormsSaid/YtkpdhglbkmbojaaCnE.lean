import Derived.Test.YtkpdhglbkmbojaaCnC
set_option linter.unusedSimpArgs false
set_option maxRecDepth 8000
namespace Go.Par
open Go.Proofs

def longB (L : List (List Bool)) : Bool := L.any fun r => decide (300 < r.length)
def heavy18 (g : G) (A E : List (List Bool)) : Int :=
  if 0 < heavyE g then heavyE g else if 40 < g.owner.length ∨ 6 < A.length ∨ 6 < E.length then 1 else if longB A || longB E then 1 else 0

theorem l18_Heavy (g : G) (hf : g.fits) (A E : List (List Bool)) (hA : A.length ≤ 17592186044416) (hE : E.length ≤ 17592186044416) : Pure Try.prog 13 [g.av, .ro false (bools2 A), .ro false (bools2 E)] (.int .i64 (heavy18 g A E)) := by
  have eH : heavy18 g A E = if 0 < heavyE g then heavyE g else if 40 < g.owner.length ∨ 6 < A.length ∨ 6 < E.length then 1 else if longB A || longB E then 1 else 0 := rfl
  generalize heavy18 g A E = r at *
  intro h
  refine AC.body Θ_ok Try.func13 rfl rfl (Nat.le_of_ble_eq_true rfl) ?_
  refine AW.seq fun _ k1 => AW.region [] Θ_ok ?_
  simp
  refine k1 _ ?_
  refine AW.seq fun _ k1 => ?_
  refine AW.seq fun _ k2 => AW.region [] Θ_ok ?_
  simp
  refine (l9_Heavy g hf).use (by simp [G.av]) ?_
  refine k2 _ ?_
  refine AW.seq fun _ k2 => AW.region [] Θ_ok ?_
  simp
  refine k2 _ ?_
  by_cases c1 : 0 < heavyE g
  · refine AW.cond true (by simp [Int.natCast_inj, c1]) (fun _ => ?_) (fun h => by cases h)
    refine AW.seq fun _ kr => AW.region [] Θ_ok ?_
    simp
    refine kr _ (AW.ret ?_)
    simp [Try.f13]
    exact Fin.refl ⟨by rw [eH, if_pos c1], rfl⟩
  have c1' := Int.not_lt.1 c1
  refine AW.cond false (by simp [Int.natCast_inj, c1']) (fun h => by cases h) (fun _ => ?_)
  refine AW.skip ?_
  simp
  refine k1 _ ?_
  refine AW.seq fun _ k1 => ?_
  rw [if_neg c1] at eH
  by_cases c2 : (40 : Int) < (g.owner.length : Int)
  · refine AW.seq fun _ k2 => AW.region [] Θ_ok ?_
    simp [c2]
    refine k2 _ ?_
    refine AW.cond true (by simp [Int.natCast_inj]) (fun _ => ?_) (fun h => by cases h)
    refine AW.seq fun _ kr => AW.region [] Θ_ok ?_
    simp
    refine kr _ (AW.ret ?_)
    simp [Try.f13]
    exact Fin.refl ⟨by rw [eH, if_pos (.inl (by omega))], rfl⟩
  by_cases c3 : (6 : Int) < (A.length : Int)
  · refine AW.seq fun _ k2 => AW.region [] Θ_ok ?_
    simp [c2, Int.not_lt.1 c2, c3]
    refine k2 _ ?_
    refine AW.cond true (by simp [Int.natCast_inj]) (fun _ => ?_) (fun h => by cases h)
    refine AW.seq fun _ kr => AW.region [] Θ_ok ?_
    simp
    refine kr _ (AW.ret ?_)
    simp [Try.f13]
    exact Fin.refl ⟨by rw [eH, if_pos (.inr (.inl (by omega)))], rfl⟩
  by_cases c4 : (6 : Int) < (E.length : Int)
  · refine AW.seq fun _ k2 => AW.region [] Θ_ok ?_
    simp [c2, Int.not_lt.1 c2, c3, Int.not_lt.1 c3, c4]
    refine k2 _ ?_
    refine AW.cond true (by simp [Int.natCast_inj, c4]) (fun _ => ?_) (fun h => by cases h)
    refine AW.seq fun _ kr => AW.region [] Θ_ok ?_
    simp
    refine kr _ (AW.ret ?_)
    simp [Try.f13]
    exact Fin.refl ⟨by rw [eH, if_pos (.inr (.inr (by omega)))], rfl⟩
  have c4' := Int.not_lt.1 c4
  refine AW.seq fun _ k2 => AW.region [] Θ_ok ?_
  simp [c2, Int.not_lt.1 c2, c3, Int.not_lt.1 c3, c4, Int.not_lt.1 c4]
  refine k2 _ ?_
  refine AW.cond false (by simp [Int.natCast_inj, c4']) (fun h => by cases h) (fun _ => ?_)
  refine AW.skip ?_
  simp
  refine k1 _ ?_
  rw [if_neg (by omega)] at eH
  refine AW.seq fun _ k1 => ?_
  refine AW.seq fun _ k2 => AW.region [] Θ_ok ?_
  simp
  refine k2 _ ?_
  refine AW.block ?_
  refine AW.loopI (X := Nat) (fun x => x ≤ 2 ∧ (0 < x → longB A = false) ∧ (1 < x → longB E = false)) (fun x => ⟨48, [(34, .int .i64 x), (33, .agg [.ro false (bools2 A), .ro false (bools2 E)])], h⟩) (fun x => 2 - x) 0 ⟨Nat.zero_le _, fun q => by omega, fun q => by omega⟩ (GStep.eq (by simp) (subH.refl _)) ?_
  rintro x ⟨hx, hxA, hxE⟩
  refine AW.seq fun _ k2 => AW.region [] Θ_ok ?_
  simp
  refine k2 _ ?_
  by_cases hlt : x < 2
  · have inc := wrap_succ (show x < 9223372036854775807 by omega)
    have hltI : (x : Int) < 2 := by omega
    obtain ⟨L, hL, hd, hok, hbad⟩ : ∃ L : List (List Bool), L.length ≤ 17592186044416 ∧ (∃ t, List.drop x [AV.ro false (bools2 A), AV.ro false (bools2 E)] = .ro false (bools2 L) :: t) ∧ (longB L = false → (0 < x + 1 → longB A = false) ∧ (1 < x + 1 → longB E = false)) ∧ (longB L = true → (longB A || longB E) = true) := by
      rcases (show x = 0 ∨ x = 1 by omega) with rfl | rfl
      · exact ⟨A, hA, ⟨_, rfl⟩, fun h => ⟨fun _ => h, fun q => by omega⟩, fun h => by rw [h]; rfl⟩
      · exact ⟨E, hE, ⟨_, rfl⟩, fun h => ⟨fun _ => hxA (by omega), fun _ => h⟩, fun h => by rw [h, Bool.or_true]⟩
    obtain ⟨t, hd⟩ := hd
    refine AW.seq fun _ k2 => AW.cond true (by simp [Int.natCast_inj, hltI]) (fun _ => ?_) (fun h => by cases h)
    refine AW.skip ?_
    simp
    refine k2 _ ?_
    refine AW.seq fun _ k2 => ?_
    refine AW.block ?_
    refine AW.seq fun _ k3 => AW.region [] Θ_ok ?_
    simp [hltI, hlt, hd]
    refine k3 _ ?_
    refine AW.seq fun _ k3 => AW.region [] Θ_ok ?_
    simp
    refine k3 _ ?_
    refine AW.block ?_
    refine AW.loopI (X := Nat) (fun y => y ≤ L.length ∧ ∀ (i : Nat) (r : List Bool), i < y → L[i]? = some r → r.length ≤ 300) (fun y => ⟨48, [(39, .int .i64 y), (38, .int .i64 L.length), (37, .ro false (bools2 L)), (34, .int .i64 x), (33, .agg [.ro false (bools2 A), .ro false (bools2 E)])], h⟩) (fun y => L.length - y) 0 ⟨Nat.zero_le _, fun i _ q => by omega⟩ (GStep.eq (by simp) (subH.refl _)) ?_
    rintro y ⟨hy, hyo⟩
    refine AW.seq fun _ k3 => AW.region [] Θ_ok ?_
    simp
    refine k3 _ ?_
    by_cases hly : y < L.length
    · have incy := wrap_succ (show y < 9223372036854775807 by omega)
      refine AW.seq fun _ k3 => AW.cond true (by simp [Int.natCast_inj, hly]) (fun _ => ?_) (fun h => by cases h)
      refine AW.skip ?_
      simp
      refine k3 _ ?_
      refine AW.seq fun _ k3 => ?_
      refine AW.block ?_
      refine AW.seq fun _ k4 => AW.region [] Θ_ok ?_
      simp [hly]
      refine k4 _ ?_
      refine AW.seq fun _ k4 => AW.region [] Θ_ok ?_
      simp
      refine k4 _ ?_
      by_cases hb : (300 : Int) < (L[y].length : Int)
      · refine AW.cond true (by simp [Int.natCast_inj, hb]) (fun _ => ?_) (fun h => by cases h)
        refine AW.seq fun _ kr => AW.region [] Θ_ok ?_
        simp
        refine kr _ (AW.ret ?_)
        simp [Try.f13]
        have : longB L = true := List.any_eq_true.2 ⟨L[y], List.getElem_mem hly, by simp; omega⟩
        exact Fin.refl ⟨by rw [eH, hbad this]; rfl, rfl⟩
      have hb' := Int.not_lt.1 hb
      refine AW.cond false (by simp [Int.natCast_inj, hb']) (fun h => by cases h) (fun _ => ?_)
      refine AW.skip ?_
      simp
      refine k3 _ ?_
      refine AW.region [] Θ_ok ?_
      simp
      refine ⟨y + 1, ⟨by omega, fun i r hi hr => ?_⟩, by omega, GStep.eq (by simp [incy]) (subH.refl _)⟩
      by_cases e : i = y
      · subst e
        rw [List.getElem?_eq_getElem hly] at hr
        cases hr
        omega
      · exact hyo i r (by omega) hr
    · obtain rfl : y = L.length := by omega
      refine AW.seq fun _ k3 => AW.cond false (by simp [Int.natCast_inj]) (fun h => by cases h) (fun _ => ?_)
      refine AW.exit ?_
      simp
      refine k2 _ ?_
      have hl : longB L = false := by
        rw [← Bool.not_eq_true, longB, List.any_eq_true]
        rintro ⟨r, hr, hq⟩
        obtain ⟨i, hi⟩ := List.mem_iff_getElem?.1 hr
        have := hyo i r (List.getElem?_eq_some_iff.1 hi).1 hi
        simp at hq
        omega
      obtain ⟨q1, q2⟩ := hok hl
      refine AW.region [] Θ_ok ?_
      simp
      exact ⟨x + 1, ⟨by omega, q1, q2⟩, by omega, GStep.eq (by simp [inc]) (subH.refl _)⟩
  · obtain rfl : x = 2 := by omega
    refine AW.seq fun _ k2 => AW.cond false (by simp [Int.natCast_inj]) (fun h => by cases h) (fun _ => ?_)
    refine AW.exit ?_
    simp
    refine k1 _ ?_
    refine AW.seq fun _ kr => AW.region [] Θ_ok ?_
    simp
    refine kr _ (AW.ret ?_)
    simp [Try.f13]
    exact Fin.refl ⟨by rw [eH, hxA (by omega), hxE (by omega)]; rfl, rfl⟩
end Go.Par
