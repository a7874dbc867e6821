import Derived.Test.YtlpfokngocdanaaAtE
import Derived.Test.YtlpfokngocdanaaFnC
set_option linter.unusedSimpArgs false
set_option linter.unusedVariables false
set_option maxRecDepth 8000
set_option maxHeartbeats 1000000
namespace Go.Par
open Go.Proofs

theorem wrap_u64_nat' {n : Nat} (h : n < 9223372036854775808) : IntKind.u64.wrap (n : Int) = n := by
  rw [IntKind.wrap_u64]; omega
theorem mod_nat (p : Int) {n : Nat} (h0 : 0 < n) (h : n < 9223372036854775808) : ∃ u : Nat, u < n ∧ IntKind.i64.wrap ((IntKind.u64.wrap p).tmod n) = u := by
  have h1 : 0 ≤ IntKind.u64.wrap p := by rw [IntKind.wrap_u64]; omega
  have h2 : (IntKind.u64.wrap p).tmod n = (IntKind.u64.wrap p) % n := Int.tmod_eq_emod_of_nonneg h1
  have h3 := Int.emod_nonneg (IntKind.u64.wrap p) (show (n : Int) ≠ 0 by omega)
  have h4 := Int.emod_lt_of_pos (IntKind.u64.wrap p) (show (0 : Int) < n by omega)
  refine ⟨((IntKind.u64.wrap p) % n).toNat, by omega, ?_⟩
  rw [h2, IntKind.wrap_i64]
  omega

def light12 (g : G) (s : List Bool) : Bool := decide (heavyE g = 0) && decide (s.length ≤ 300)
theorem l12_light (g : G) (hf : g.fits) (s : List Bool) : Pure Try.prog 13 [g.av, .ro false (bools s)] (.bool (light12 g s)) := by
  unfold light12
  intro h
  refine AC.body Θ_ok Try.func13 rfl rfl (Nat.le_of_ble_eq_true rfl) ?_
  refine AW.seq fun _ k1 => AW.region [] Θ_ok ?_
  simp
  refine k1 _ ?_
  by_cases h1 : heavyE g = 0
  · by_cases h2 : s.length ≤ 300
    · have h3 : (s.length : Int) ≤ 300 := by omega
      refine AW.seq fun _ k1 => AW.regionAt 2 [] Θ_ok fun B hB => ?_
      simp
      refine (l9_Heavy g hf).use (by simp [G.av]) ?_
      refine hB _ ?_
      clear hB B
      simp [h1, h2, h3]
      refine k1 _ (AW.ret ?_)
      simp [Try.f13]
      exact Fin.refl ⟨by simp [h1, h2], rfl⟩
    · have h3 : ¬ (s.length : Int) ≤ 300 := by omega
      refine AW.seq fun _ k1 => AW.regionAt 2 [] Θ_ok fun B hB => ?_
      simp
      refine (l9_Heavy g hf).use (by simp [G.av]) ?_
      refine hB _ ?_
      clear hB B
      simp [h1, h2, h3]
      refine k1 _ (AW.ret ?_)
      simp [Try.f13]
      exact Fin.refl ⟨by simp [h1, h2], rfl⟩
  · refine AW.seq fun _ k1 => AW.regionAt 2 [] Θ_ok fun B hB => ?_
    simp
    refine (l9_Heavy g hf).use (by simp [G.av]) ?_
    refine hB _ ?_
    clear hB B
    simp [h1]
    refine k1 _ (AW.ret ?_)
    simp [Try.f13]
    exact Fin.refl ⟨by simp [h1], rfl⟩

theorem ring_ranks : ranksL ring11 0 [false, false, true] = [1, 2, 0] := by
  have e : ranksL ring11 0 [false, false, true] = [rkN ring11 0 [false, false, true] 0, rkN ring11 0 [false, false, true] 1, rkN ring11 0 [false, false, true] 2] := rfl
  have h0 : atR ring11 0 [false, false, true] 0 1 := ⟨rfl, fun j hj => by
    obtain rfl : j = 0 := by omega
    intro h; cases h⟩
  have h1 : atR ring11 0 [false, false, true] 1 2 := ⟨rfl, fun j hj => by
    have : j = 0 ∨ j = 1 := by omega
    rcases this with rfl | rfl <;> (intro h; cases h)⟩
  have h2 : atR ring11 0 [false, false, true] 2 0 := ⟨rfl, fun j hj => by omega⟩
  rw [e, rk_at h0, rk_at h1, rk_at h2]
  rfl
theorem ring_ok : okP ring11 0 := ⟨rfl, .inl rfl⟩
theorem ring_ranksA : ranksA ring11 0 [false, false, true] = .ro true (ints [1, 2, 0]) := by rw [ranksA_eq, if_pos ring_ok, ring_ranks]
theorem ring_awayA : awayA ring11 0 [false, false, true] = .ro true (ints [2, -1, -1]) := by
  rw [awayA, if_pos ring_ok, awayL, ring_ranks]; rfl

theorem l12_awake : Pure Try.prog 15 [] (.bool true) := by
  obtain ⟨a, ha⟩ : ∃ a, a = ([1, 2, 0] : List Int) := ⟨_, rfl⟩
  obtain ⟨b, hb⟩ : ∃ b, b = ([2, -1, -1] : List Int) := ⟨_, rfl⟩
  have al : a.length = 3 := by rw [ha]; rfl
  have bl : b.length = 3 := by rw [hb]; rfl
  have a0 : ∀ h, a[0]'h = 1 := by subst ha; exact fun _ => rfl
  have a1 : ∀ h, a[1]'h = 2 := by subst ha; exact fun _ => rfl
  have a2 : ∀ h, a[2]'h = 0 := by subst ha; exact fun _ => rfl
  have b0 : ∀ h, b[0]'h = 2 := by subst hb; exact fun _ => rfl
  have b1 : ∀ h, b[1]'h = -1 := by subst hb; exact fun _ => rfl
  have hA := ring_ranksA
  have hB := ring_awayA
  rw [← ha] at hA
  rw [← hb] at hB
  clear ha hb
  have sR := attract_Ranks ring11 ring11_fits 0 [false, false, true] (by decide)
  have sW := attract_Ways ring11 ring11_fits 0 [false, false, true] (by decide)
  rw [hA] at sR
  rw [hB] at sW
  intro h
  refine AC.body Θ_ok Try.func15 rfl rfl (Nat.le_of_ble_eq_true rfl) ?_
  refine AW.seq fun _ k1 => AW.region [] Θ_ok ?_
  simp
  refine k1 _ ?_
  refine AW.seq fun _ k1 => AW.region [1] Θ_ok ?_
  simp [newA]
  refine ⟨rfl, rfl, rfl, fun o ho => k1 _ ?_⟩
  refine AW.box 1 (o := o) rfl (upd_same _ _ _) ?_
  simp only [upd_upd, upd_none_id ho]
  refine AW.seq fun _ k1 => AW.regionAt 3 [] Θ_ok fun B hB => ?_
  simp
  refine ⟨rfl, ?_⟩
  refine sR.use (by simp [G.av, ring11]) ?_
  refine hB _ ?_
  clear hB B
  simp
  refine k1 _ ?_
  refine AW.seq fun _ k1 => AW.regionAt 3 [] Θ_ok fun B hB => ?_
  simp
  refine ⟨rfl, ?_⟩
  refine sW.use (by simp [G.av, ring11]) ?_
  refine hB _ ?_
  clear hB B
  simp
  refine k1 _ ?_
  refine AW.seq fun _ kr => AW.region [] Θ_ok ?_
  simp [al, bl, a0, a1, a2, b0, b1]
  refine kr _ (AW.ret ?_)
  simp [Try.f15]
  exact Fin.refl ⟨rfl, rfl⟩
end Go.Par
