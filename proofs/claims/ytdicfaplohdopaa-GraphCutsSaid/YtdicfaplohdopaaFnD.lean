import Derived.Test.YtdicfaplohdopaaFnD0
set_option linter.unusedSimpArgs false
set_option maxRecDepth 8000
namespace Go.Par
open Go.Proofs

theorem l11_awake : Pure Try.prog 13 [] (.bool true) := by
  obtain ⟨a, ha⟩ : ∃ a, a = [true, false, true] := ⟨_, rfl⟩
  obtain ⟨b, hb⟩ : ∃ b, b = [false, true, false] := ⟨_, rfl⟩
  have al : a.length = 3 := by rw [ha]; rfl
  have bl : b.length = 3 := by rw [hb]; rfl
  have a0 : ∀ h, a[0]'h = true := by subst ha; exact fun _ => rfl
  have a1 : ∀ h, a[1]'h = false := by subst ha; exact fun _ => rfl
  have a2 : ∀ h, a[2]'h = true := by subst ha; exact fun _ => rfl
  have b0 : ∀ h, b[0]'h = false := by subst hb; exact fun _ => rfl
  have b1 : ∀ h, b[1]'h = true := by subst hb; exact fun _ => rfl
  have b2 : ∀ h, b[2]'h = false := by subst hb; exact fun _ => rfl
  have hA := ring11_A
  have hB := ring11_B
  have hC := ring11_C
  rw [← ha] at hA hC
  rw [← hb] at hB
  clear ha hb
  intro h
  refine AC.body Θ_ok Try.func13 rfl rfl (Nat.le_of_ble_eq_true rfl) ?_
  refine AW.seq fun _ k1 => AW.region [] Θ_ok ?_
  simp
  refine k1 _ ?_
  refine AW.seq fun _ k1 => AW.region [] Θ_ok ?_
  simp
  refine l11_ring.use (by simp) ⟨rfl, ?_⟩
  refine (pre_Force ring11 ring11_fits 0 [false, false, true]).use (by simp [G.av, ring11A, ring11]) ?_
  rw [hA]
  refine l11_ring.use (by simp) ?_
  show AC _ _ _ _ _
  refine (pre_Force ring11 ring11_fits 1 [true]).use (by simp [G.av, ring11A, ring11]) ?_
  rw [hB]
  refine k1 _ ?_
  refine AW.seq fun _ k1 => AW.region [] Θ_ok ?_
  simp [al, bl, a0, a1, a2, b0, b1, b2]
  refine l11_ring.use (by simp) ?_
  show AC _ _ _ _ _
  refine (pre_Count ring11 a ring11_fits.owner).use (by simp [G.av, ring11A, ring11]) ?_
  rw [hC]
  simp
  refine k1 _ (AW.ret ?_)
  simp [Try.f13]
  exact Fin.refl ⟨rfl, rfl⟩

end Go.Par
