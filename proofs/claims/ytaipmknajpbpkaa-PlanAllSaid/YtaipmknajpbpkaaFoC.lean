/- What every program must know to spoil. -/
import Derived.Test.YtaipmknajpbpkaaFoB
set_option linter.unusedSimpArgs false
set_option linter.unusedVariables false
set_option maxRecDepth 8000
set_option maxHeartbeats 1000000
namespace Go.Par
open Go.Proofs

@[simp] theorem eqTy_step : eqTy Try.prog 37 4 = true := by kernel_rfl
def aw21 : G := ⟨[0, 1], [[0, 1], [0]]⟩
theorem aw21_fits : aw21.fits := ⟨by decide, by decide, by decide⟩
theorem aw21_err : cgErr aw21 [] [[false, true]] = 0 := rfl
theorem aw21_g : cgG aw21 [] [[false, true]] = ⟨[0, 1], [[0, 1], [0]]⟩ := rfl
theorem aw21_p : cgP aw21 [] [[false, true]] = [1, 2] := rfl
theorem aw21_e0 {w : Nat} (h : gE (cgG aw21 [] [[false, true]]) 0 w) : w = 0 ∨ w = 1 := by
  have : (w : Int) ∈ ([0, 1] : List Int) := h
  simp at this; omega
theorem aw21_w : fI (winL (cgG aw21 [] [[false, true]]) (cgP aw21 [] [[false, true]])) 0 = 0 := by
  have ok := cg_pok aw21_err
  exact win_uniq ok (.inl rfl) (T := fun _ => 0) (D := fun v => v = 0) (fun v h => by subst h; decide)
    ⟨fun v hv _ => by subst hv; exact ⟨0, rfl, by show (0 : Int) ∈ ([0, 1] : List Int); simp, rfl⟩, fun v hv e => by subst hv; exact absurd rfl e, fun v hv e => by subst hv; cases e⟩ rfl
theorem aw21_t : fI (toL (cgG aw21 [] [[false, true]]) (cgP aw21 [] [[false, true]])) 0 = 0 := by
  have ok := cg_pok aw21_err
  have sol := solve_sol ok
  have w0 := aw21_w
  obtain ⟨q, q1, q2, q3, q4⟩ := sol.own 0 (by decide) (by rw [w0]; rfl)
  rcases aw21_e0 q2 with e | e
  · rw [q1, e]; rfl
  · exfalso
    subst e
    rw [w0] at q4
    refine sol.circ 1 (by decide) (by rw [q4]; rfl) ?_
    rw [q4]
    have e10 : gE (cgG aw21 [] [[false, true]]) 1 0 := by show (0 : Int) ∈ ([0] : List Int); simp
    refine .cons (w := 0) ⟨by decide, q4, by decide⟩ ⟨e10, fun o => absurd o (by decide)⟩ (.one ⟨by decide, w0, by decide⟩ ⟨by decide, q4, by decide⟩ ⟨q2, fun _ => q1⟩)
theorem aw21_l : foL aw21 [] [[false, true]] = [⟨0, 0, 0, 0⟩] := by
  unfold foL
  have w0 := aw21_w
  have t0 := aw21_t
  generalize winL (cgG aw21 [] [[false, true]]) (cgP aw21 [] [[false, true]]) = W at *
  generalize toL (cgG aw21 [] [[false, true]]) (cgP aw21 [] [[false, true]]) = T at *
  show ([] ++ (if ow aw21 0 = 0 ∧ fI W (0 * 1) = 0 then stepM [] [[false, true]] T 1 0 1 else [])) ++ (if ow aw21 1 = 0 ∧ fI W (1 * 1) = 0 then stepM [] [[false, true]] T 1 1 1 else []) = _
  rw [if_pos ⟨rfl, w0⟩, if_neg (fun z => absurd z.1 (by decide))]
  show [(⟨(0 : Nat), (0 : Nat), ((fI T (0 * 1 + 0)).toNat / 1 : Nat), (onThen [] [[false, true]] 0 0 : Nat)⟩ : S4)] = _
  rw [show fI T (0 * 1 + 0) = 0 from t0]
  rfl

theorem l21_awake : Pure Try.prog 24 [] (.bool true) := by
  have sA := foil_Steps aw21 aw21_fits [] [[false, true]]
  rw [foA, if_pos aw21_err, aw21_l] at sA
  have sT := foil_Then aw21 aw21_fits [] [[]] 0 0
  rw [show foThen aw21 [] [[]] 0 0 = 0 from rfl] at sT
  obtain ⟨l, hl⟩ : ∃ l, l = avS [⟨0, 0, 0, 0⟩] := ⟨_, rfl⟩
  rw [← hl] at sA
  have ll : l.length = 1 := by rw [hl]; rfl
  have l0 : ∀ h, l[0]'h = .agg [.int .i64 0, .int .i64 0, .int .i64 0, .int .i64 0] := by subst hl; exact fun _ => rfl
  clear hl
  intro h
  refine AC.body Θ_ok Try.func24 rfl rfl (Nat.le_of_ble_eq_true rfl) ?_
  refine AW.seq fun _ k1 => AW.region [] Θ_ok ?_
  simp
  refine k1 _ ?_
  refine AW.seq fun _ k1 => AW.region [1] Θ_ok ?_
  simp [newA]
  refine ⟨rfl, fun o ho => k1 _ ?_⟩
  refine AW.box 1 rfl (upd_same _ _ _) ?_
  simp only [updNF _ ho]
  refine AW.seq fun _ k1 => AW.regionAt 4 [] Θ_ok fun B hB' => ?_
  simp
  refine ⟨rfl, ?_⟩
  refine sA.use (by simp [G.av, aw21]) ?_
  refine hB' _ ?_
  clear hB' B
  simp
  refine k1 _ ?_
  refine AW.seq fun _ kr => AW.regionAt 18 [] Θ_ok fun B hB' => ?_
  simp [ll, l0]
  refine sT.use (by simp [G.av, aw21]) ?_
  refine hB' _ ?_
  clear hB' B
  simp
  refine kr _ (AW.ret ?_)
  simp [Try.f24]
  exact Fin.refl ⟨rfl, rfl⟩
end Go.Par
