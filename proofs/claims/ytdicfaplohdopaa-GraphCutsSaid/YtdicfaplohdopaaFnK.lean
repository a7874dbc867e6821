import Derived.Test.YtdicfaplohdopaaFnJ
import Derived.Test.YtdicfaplohdopaaFnH
import Derived.Test.YtdicfaplohdopaaFnI
import Derived.Test.YtdicfaplohdopaaMaX
set_option linter.unusedSimpArgs false
set_option maxRecDepth 8000
namespace Go.Par
open Go.Proofs

def aw9 : G := ⟨[0, 1], [[1], []]⟩
theorem aw9_fits : aw9.fits := ⟨by decide, by decide, by decide⟩
theorem aw9_may : mayE aw9 = 0 := rfl
theorem aw9_bef : befA aw9 = .ro true (rows [[], [0]]) := rfl
theorem aw9_dead : deadA aw9 1 = .ro true (bools [false, true]) := rfl
open Classical in
theorem aw9_reach : reachA aw9 [true] = .ro true (bools [true, true]) := by
  have h0 : Reaches aw9 [true] 0 := .start 0 (by decide) rfl
  have h1 : Reaches aw9 [true] 1 := .step 0 1 h0 (by decide)
  have e : reachL aw9 [true] = [true, true] := by
    have : reachL aw9 [true] = tab 2 fun v => decide (Reaches aw9 [true] v) := rfl
    rw [this]
    simp [tab, List.range_succ, h0, h1]
  rw [reachA, if_pos aw9_may, e]

theorem l9_awake : Pure Try.prog 23 [] (.bool true) := by
  have hB := graph_Before aw9 aw9_fits
  have hR := graph_Reach aw9 aw9_fits [true]
  have hD := graph_Dead aw9 aw9_fits 1
  have hM := graph_May aw9 aw9_fits
  rw [aw9_bef] at hB
  rw [aw9_reach] at hR
  rw [aw9_dead] at hD
  rw [aw9_may] at hM
  obtain ⟨a, ha⟩ : ∃ a : List (List Int), a = [[], [0]] := ⟨_, rfl⟩
  obtain ⟨b, hb⟩ : ∃ b, b = [true, true] := ⟨_, rfl⟩
  obtain ⟨c, hc⟩ : ∃ c, c = [false, true] := ⟨_, rfl⟩
  rw [← ha] at hB
  rw [← hb] at hR
  rw [← hc] at hD
  have al : a.length = 2 := by rw [ha]; rfl
  have a1 : ∀ h, a[1]'h = [0] := by subst ha; exact fun _ => rfl
  have bl : b.length = 2 := by rw [hb]; rfl
  have b1 : ∀ h, b[1]'h = true := by subst hb; exact fun _ => rfl
  have cl : c.length = 2 := by rw [hc]; rfl
  have c0 : ∀ h, c[0]'h = false := by subst hc; exact fun _ => rfl
  have c1 : ∀ h, c[1]'h = true := by subst hc; exact fun _ => rfl
  clear ha hb hc
  intro h
  refine AC.body Θ_ok Try.func23 rfl rfl (Nat.le_of_ble_eq_true rfl) ?_
  refine AW.seq fun _ k1 => AW.region [] Θ_ok ?_
  simp
  refine k1 _ ?_
  refine AW.seq fun _ k1 => AW.region [1] Θ_ok ?_
  simp [newA]
  refine ⟨rfl, fun o ho => k1 _ ?_⟩
  refine AW.box 1 rfl (upd_same _ _ _) ?_
  simp only [upd_upd_none ho]
  refine AW.seq fun _ k1 => AW.region [] Θ_ok ?_
  simp
  refine hB.use (by simp [G.av, aw9]) ?_
  try simp
  refine k1 _ ?_
  refine AW.seq fun _ k1 => AW.draw [] 7 [] Θ_ok mixed (by kernel_rfl) (by kernel_rfl) ?_
  simp [vcDraw, vcPre, vcTail, callA, isAlloc, isLoad, effOp, obl, obA, mkOK, valA]
  refine ⟨_, hR.wk (by simp [G.av, aw9]), ?_⟩
  try simp
  refine ⟨_, hD.wk (by simp [G.av, aw9]), ?_⟩
  try simp
  refine k1 _ ?_
  refine AW.seq fun _ k1 => AW.regionAt 2 [] Θ_ok fun B hB => ?_
  simp
  refine hM.use (by simp [G.av, aw9]) ?_
  refine hB _ ?_
  clear hB B
  simp [al, a1, bl, b1, cl, c0, c1]
  refine k1 _ (AW.ret ?_)
  simp [Try.f23]
  exact Fin.refl ⟨rfl, rfl⟩
end Go.Par
