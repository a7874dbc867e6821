import Derived.Test.YtaipmknajpbpkaaCgA
set_option linter.unusedSimpArgs false
set_option maxRecDepth 8000
namespace Go.Par
open Go.Proofs

def aw20 : G := ⟨[1], [[0]]⟩
theorem aw20_fits : aw20.fits := ⟨by decide, by decide, by decide⟩
theorem aw20_game : cgA aw20 [] [[true], [true]] = .tup [.agg [.ro false (ints [1, 1]), .ro false (rows [[1], [0]])], .ro false (ints [1, 2]), .int .i64 0] := rfl

theorem l20_awake : Pure Try.prog 34 [] (.bool true) := by
  have hG := counter_Game aw20 aw20_fits [] [[true], [true]]
  rw [aw20_game] at hG
  obtain ⟨a, ha⟩ : ∃ a : List Int, a = [1, 1] := ⟨_, rfl⟩
  obtain ⟨b, hb⟩ : ∃ b : List (List Int), b = [[1], [0]] := ⟨_, rfl⟩
  obtain ⟨c, hc⟩ : ∃ c : List Int, c = [1, 2] := ⟨_, rfl⟩
  rw [← ha, ← hb, ← hc] at hG
  have al : a.length = 2 := by rw [ha]; rfl
  have bl : b.length = 2 := by rw [hb]; rfl
  have b0 : ∀ h, b[0]'h = [1] := by subst hb; exact fun _ => rfl
  have cl : c.length = 2 := by rw [hc]; rfl
  have c0 : ∀ h, c[0]'h = 1 := by subst hc; exact fun _ => rfl
  have c1 : ∀ h, c[1]'h = 2 := by subst hc; exact fun _ => rfl
  clear ha hb hc
  have hM := counter_Mems [] []
  have hM1 : (memsN ([] : List (List Bool)).length ([] : List (List Bool)).length : Int) = 1 := rfl
  rw [hM1] at hM
  intro h
  refine AC.body Θ_ok Try.func34 rfl rfl (Nat.le_of_ble_eq_true rfl) ?_
  refine AW.seq fun _ k1 => AW.region [] Θ_ok ?_
  simp
  refine k1 _ ?_
  refine AW.seq fun _ k1 => AW.region [1] Θ_ok ?_
  simp [newA]
  refine fun o ho => k1 _ ?_
  refine AW.box 1 rfl (upd_same _ _ _) ?_
  simp only [upd_upd_none ho]
  refine AW.seq fun _ k1 => AW.regionAt 5 [2] Θ_ok fun B hB => ?_
  simp
  refine ⟨rfl, ?_⟩
  refine hG.use (by simp [G.av, aw20]) ?_
  refine hB _ ?_
  clear hB B
  simp [newA, upd_same]
  refine fun o ho => k1 _ ?_
  refine AW.box 2 rfl (upd_same _ _ _) ?_
  simp only [upd_upd_none ho]
  refine AW.seq fun _ kr => AW.regionAt 50 [] Θ_ok fun B hB => ?_
  simp [al, bl, b0, cl, c0, c1]
  refine hM.use (by simp) ?_
  refine hB _ ?_
  clear hB B
  simp
  refine kr _ (AW.ret ?_)
  simp [Try.f34]
  exact Fin.refl ⟨rfl, rfl⟩
end Go.Par
