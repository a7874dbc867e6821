/- What every program must know to plan. -/
import Derived.Test.YtaipmknajpbpkaaPnG
import Derived.Test.YtaipmknajpbpkaaFoC
set_option linter.unusedSimpArgs false
set_option linter.unusedVariables false
set_option maxRecDepth 8000
set_option maxHeartbeats 1000000
namespace Go.Par
open Go.Proofs

def aw19 : G := ⟨[0, 1, 1], [[1], [0, 2], [2]]⟩
theorem aw19_fits : aw19.fits := ⟨by decide, by decide, by decide⟩
theorem aw19_l : pnA aw19 [] [[true]] = .ro false (avS [⟨1, 0, 0, 0⟩]) := rfl
theorem aw19_t0 : planTh aw19 [[true], []] 0 0 = 1 := rfl
theorem aw19_t1 : planTh aw19 [[true], []] 0 1 = 1 := rfl
theorem l19_awake : Pure Try.prog 13 [] (.bool true) := by
  have sA := plan_Steps aw19 aw19_fits [] [[true]]
  rw [aw19_l] at sA
  have sT := plan_Then aw19 aw19_fits [[true], []] 0 0
  rw [aw19_t0] at sT
  have sU := plan_Then aw19 aw19_fits [[true], []] 0 1
  rw [aw19_t1] at sU
  obtain ⟨l, hl⟩ : ∃ l, l = avS [⟨1, 0, 0, 0⟩] := ⟨_, rfl⟩
  rw [← hl] at sA
  have ll : l.length = 1 := by rw [hl]; rfl
  have l0 : ∀ h, l[0]'h = .agg [.int .i64 1, .int .i64 0, .int .i64 0, .int .i64 0] := by subst hl; exact fun _ => rfl
  clear hl
  intro h
  refine AC.body Θ_ok Try.func13 rfl rfl (Nat.le_of_ble_eq_true rfl) ?_
  refine AW.seq fun _ k1 => AW.region [] Θ_ok ?_
  simp
  refine k1 _ ?_
  refine AW.seq fun _ k1 => AW.region [1] Θ_ok ?_
  simp [newA]
  refine ⟨rfl, rfl, rfl, fun o ho => k1 _ ?_⟩
  refine AW.box 1 rfl (upd_same _ _ _) ?_
  simp only [updNF _ ho]
  refine AW.seq fun _ k1 => AW.regionAt 4 [] Θ_ok fun B hB' => ?_
  simp
  refine sA.use (by simp [G.av, aw19]) ?_
  refine hB' _ ?_
  clear hB' B
  simp
  refine k1 _ ?_
  refine AW.seq fun _ kr => AW.regionAt 15 [] Θ_ok fun B hB' => ?_
  simp [ll, l0]
  refine ⟨rfl, ?_⟩
  refine sT.use (by simp [G.av, aw19]) ?_
  refine hB' _ ?_
  clear hB' B
  refine vcOps_split 7 fun B hB' => ?_
  simp
  refine ⟨rfl, ?_⟩
  refine sU.use (by simp [G.av, aw19]) ?_
  refine hB' _ ?_
  clear hB' B
  simp
  refine kr _ (AW.ret ?_)
  simp [Try.f13]
  exact Fin.refl ⟨rfl, rfl⟩
end Go.Par
