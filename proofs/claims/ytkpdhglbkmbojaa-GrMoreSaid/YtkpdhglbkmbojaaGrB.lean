import Derived.Test.YtkpdhglbkmbojaaGrA
import Derived.Test.YtkpdhglbkmbojaaPlL
import Derived.Test.YtkpdhglbkmbojaaFgA
import Derived.Test.YtkpdhglbkmbojaaCgA
set_option linter.unusedSimpArgs false
set_option maxRecDepth 8000
namespace Go.Par
open Go.Proofs

def aw18 : G := ⟨[0, 1, 1], [[1], [0, 2], [2]]⟩
theorem aw18_fits : aw18.fits := ⟨by decide, by decide, by decide⟩
theorem aw18_A : regionA aw18 [] [[true]] = .ro false (bools [true, true, false]) := rfl
theorem aw18_B : regionA aw18 [[true]] [[]] = .ro false (bools [true, true, true]) := rfl

theorem l18_awake : Pure Try.prog 23 [] (.bool true) := by
  have hA := gr1_Region aw18 aw18_fits [] [[true]]
  have hB := gr1_Region aw18 aw18_fits [[true]] [[]]
  rw [aw18_A] at hA
  rw [aw18_B] at hB
  obtain ⟨a, ha⟩ : ∃ a, a = [true, true, false] := ⟨_, rfl⟩
  obtain ⟨b, hb⟩ : ∃ b, b = [true, true, true] := ⟨_, rfl⟩
  rw [← ha] at hA
  rw [← hb] at hB
  have al : a.length = 3 := by rw [ha]; rfl
  have a0 : ∀ h, a[0]'h = true := by subst ha; exact fun _ => rfl
  have a1 : ∀ h, a[1]'h = true := by subst ha; exact fun _ => rfl
  have a2 : ∀ h, a[2]'h = false := by subst ha; exact fun _ => rfl
  have bl : b.length = 3 := by rw [hb]; rfl
  have b0 : ∀ h, b[0]'h = true := by subst hb; exact fun _ => rfl
  have b2 : ∀ h, b[2]'h = true := by subst hb; exact fun _ => rfl
  clear ha hb
  intro h
  refine AC.body Θ_ok Try.func23 rfl rfl (Nat.le_of_ble_eq_true rfl) ?_
  refine AW.seq fun _ k1 => AW.region [] Θ_ok ?_
  simp
  refine k1 _ ?_
  refine AW.seq fun _ k1 => AW.region [1] Θ_ok ?_
  simp [newA]
  refine ⟨rfl, rfl, rfl, fun o ho => k1 _ ?_⟩
  refine AW.box 1 rfl (upd_same _ _ _) ?_
  simp only [upd_upd_none ho]
  refine AW.seq fun _ k1 => AW.regionAt 4 [] Θ_ok fun B hB' => ?_
  simp
  refine hA.use (by simp [G.av, aw18]) ?_
  refine hB' _ ?_
  clear hB' B
  simp
  refine k1 _ ?_
  refine AW.seq fun _ k1 => AW.regionAt 5 [] Θ_ok fun B hB' => ?_
  simp
  refine hB.use (by simp [G.av, aw18]) ?_
  refine hB' _ ?_
  clear hB' B
  simp
  refine k1 _ ?_
  refine AW.seq fun _ kr => AW.region [] Θ_ok ?_
  simp [al, a0, a1, a2, bl, b0, b2]
  refine kr _ (AW.ret ?_)
  simp [Try.f23]
  exact Fin.refl ⟨rfl, rfl⟩
end Go.Par
