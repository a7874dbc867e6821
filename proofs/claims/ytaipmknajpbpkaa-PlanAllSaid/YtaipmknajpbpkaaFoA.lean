/- foil: met, turns, Then; parryref9.FoilThen. -/
import Derived.Test.YtaipmknajpbpkaaCgA
import Derived.Test.YtaipmknajpbpkaaFgA
set_option linter.unusedSimpArgs false
set_option linter.unusedVariables false
set_option maxRecDepth 8000
set_option maxHeartbeats 1000000
namespace Go.Par
open Go.Proofs

def turnN (A : List (List Bool)) (i v : Nat) : Nat := if metB A i v then (i + 1) % max 1 A.length else i
theorem foil_met (A : List (List Bool)) (i v : Nat) (hi : A ≠ [] → i < A.length) : Pure Try.prog 85 [.ro false (bools2 A), .int .i64 i, .int .i64 v] (.bool (metB A i v)) := by
  intro h
  refine AC.body Θ_ok Try.func85 rfl rfl (Nat.le_of_ble_eq_true rfl) ?_
  refine AW.seq fun _ k1 => AW.region [] Θ_ok ?_
  simp
  refine k1 _ ?_
  by_cases h0 : A = []
  · have h0' : (A.length : Int) = 0 := by simp [h0]
    refine AW.seq fun _ kr => AW.region [] Θ_ok ?_
    simp [h0]
    refine kr _ (AW.ret ?_)
    simp [Try.f85]
    exact Fin.refl ⟨by simp [metB, h0], rfl⟩
  · have hl := hi h0
    by_cases hv : v < A[i].length
    · refine AW.seq fun _ kr => AW.region [] Θ_ok ?_
      simp [h0, hl, hv]
      refine kr _ (AW.ret ?_)
      simp [Try.f85]
      exact Fin.refl ⟨by simp [metB, h0, hl, hasN, hv], rfl⟩
    · refine AW.seq fun _ kr => AW.region [] Θ_ok ?_
      simp [h0, hl, hv]
      refine kr _ (AW.ret ?_)
      simp [Try.f85]
      exact Fin.refl ⟨by simp [metB, h0, hl, hasN, Nat.le_of_not_lt hv], rfl⟩
theorem foil_turns (A : List (List Bool)) (hA : A.length ≤ 4) (i v : Nat) (hi : i < max 1 A.length) : Pure Try.prog 60 [.ro false (bools2 A), .int .i64 i, .int .i64 v] (.int .i64 (turnN A i v)) := by
  have sM := foil_met A i v (fun h => by have := List.length_pos_iff.2 h; omega)
  have e : turnN A i v = if metB A i v then (i + 1) % max 1 A.length else i := rfl
  generalize metB A i v = b at *
  have hM : max 1 A.length ≤ 4 := by omega
  have hM0 : ¬ max 1 A.length = 0 := by omega
  intro h
  refine AC.body Θ_ok Try.func60 rfl rfl (Nat.le_of_ble_eq_true rfl) ?_
  refine AW.seq fun _ k1 => AW.region [] Θ_ok ?_
  simp
  refine k1 _ ?_
  refine AW.seq fun _ k1 => ?_
  refine AW.seq fun _ k2 => AW.regionAt 4 [] Θ_ok fun B hB => ?_
  simp
  refine sM.use (by simp) ?_
  refine hB _ ?_
  clear hB B
  simp
  refine k2 _ ?_
  cases b with
  | false =>
    refine AW.cond false (by simp [Int.natCast_inj]) (fun h => by cases h) (fun _ => ?_)
    refine AW.skip ?_
    simp
    refine k1 _ ?_
    refine AW.seq fun _ kr => AW.region [] Θ_ok ?_
    simp
    refine kr _ (AW.ret ?_)
    simp [Try.f60]
    exact Fin.refl ⟨by rw [e]; rfl, rfl⟩
  | true =>
    have wi : IntKind.i64.wrap ((i : Int) + 1) = (i : Int) + 1 := wrap_id (by omega) (by omega)
    obtain ⟨M, eM⟩ : ∃ M, M = max 1 A.length := ⟨_, rfl⟩
    obtain ⟨i', hi'⟩ : ∃ i', i' = (i + 1) % M := ⟨_, rfl⟩
    have mi : ((i : Int) + 1) % (M : Int) = (i' : Int) := by rw [hi']; simp
    have mi2 : ((i : Int) + 1).tmod (M : Int) = (i' : Int) := by rw [Int.tmod_eq_emod_of_nonneg (by omega)]; exact mi
    have im1 : (if (1 : Int) < (A.length : Int) then (A.length : Int) else 1) = (M : Int) := by rw [imax1, eM]
    have im2 : (if 1 < A.length then (A.length : Int) else 1) = (M : Int) := by rw [imax1', eM]
    rw [← eM] at e hM0 hM hi
    have e' : turnN A i v = i' := by rw [e, hi']; rfl
    rw [e']
    refine AW.cond true (by simp [Int.natCast_inj]) (fun _ => ?_) (fun h => by cases h)
    refine AW.seq fun _ kr => AW.region [] Θ_ok ?_
    simp [wi, im1, im2, hM0, mi, mi2]
    refine kr _ (AW.ret ?_)
    simp [Try.f60]
    exact Fin.refl ⟨rfl, rfl⟩

theorem atE_ok {A E : List (List Bool)} {v mem : Int} (h : ¬ atE A E v mem < 0) : A.length ≤ 4 ∧ E.length ≤ 4 ∧ ∃ a b : Nat, v = a ∧ mem = b ∧ a ≤ 3000 ∧ b < max 1 A.length * max 1 E.length := by
  unfold atE at h
  split at h
  · omega
  · rename_i c
    simp only [not_or, Int.not_lt, Int.not_le] at c
    obtain ⟨c1, c2, c3, c4, c5⟩ := c
    have c6 : ¬ 4 < max A.length E.length := fun q => c1 (by simp [memsN, q])
    have c7 : memsN A.length E.length = max 1 A.length * max 1 E.length := by rw [memsN, if_neg c6]
    rw [c7] at c5
    exact ⟨by omega, by omega, v.toNat, mem.toNat, by omega, by omega, by omega, by omega⟩
def foThen (g : G) (A E : List (List Bool)) (v mem : Int) : Int := if mayE g ≠ 0 ∨ atE A E v mem < 0 ∨ (g.owner.length : Int) ≤ v then -1 else (onThen A E v.toNat mem.toNat : Nat)

theorem foil_Then (g : G) (hf : g.fits) (A E : List (List Bool)) (v mem : Int) : Pure Try.prog 31 [g.av, .ro false (bools2 A), .ro false (bools2 E), .int .i64 v, .int .i64 mem] (.int .i64 (foThen g A E v mem)) := by
  have sM := graph_May g hf
  have sA := counter_At A E v mem
  have eT : foThen g A E v mem = if mayE g ≠ 0 ∨ atE A E v mem < 0 ∨ (g.owner.length : Int) ≤ v then (-1 : Int) else ((onThen A E v.toNat mem.toNat : Nat) : Int) := rfl
  intro h
  refine AC.body Θ_ok Try.func31 rfl rfl (Nat.le_of_ble_eq_true rfl) ?_
  refine AW.seq fun _ k1 => AW.region [] Θ_ok ?_
  simp
  refine k1 _ ?_
  refine AW.seq fun _ k1 => ?_
  by_cases hm : mayE g = 0
  · rw [hm] at sM
    by_cases ha : atE A E v mem < 0
    · rw [if_pos (.inr (.inl ha))] at eT
      refine AW.seq fun _ k2 => AW.regionAt 2 [] Θ_ok fun B hB => ?_
      simp
      refine sM.use (by simp [G.av]) ?_
      refine hB _ ?_
      clear hB B
      refine vcOps_split 7 fun B hB => ?_
      simp
      refine sA.use (by simp) ?_
      refine hB _ ?_
      clear hB B
      simp [ha]
      refine k2 _ ?_
      refine AW.cond true (by simp [Int.natCast_inj]) (fun _ => ?_) (fun h => by cases h)
      refine AW.seq fun _ kr => AW.region [] Θ_ok ?_
      simp
      refine kr _ (AW.ret ?_)
      simp [Try.f31]
      exact Fin.refl ⟨by rw [eT], rfl⟩
    have ha' := Int.not_lt.1 ha
    by_cases hv : (g.owner.length : Int) ≤ v
    · rw [if_pos (.inr (.inr hv))] at eT
      refine AW.seq fun _ k2 => AW.regionAt 2 [] Θ_ok fun B hB => ?_
      simp
      refine sM.use (by simp [G.av]) ?_
      refine hB _ ?_
      clear hB B
      refine vcOps_split 7 fun B hB => ?_
      simp
      refine sA.use (by simp) ?_
      refine hB _ ?_
      clear hB B
      simp [ha, ha', hv]
      refine k2 _ ?_
      refine AW.cond true (by simp [Int.natCast_inj, ha, ha', hv]) (fun _ => ?_) (fun h => by cases h)
      refine AW.seq fun _ kr => AW.region [] Θ_ok ?_
      simp
      refine kr _ (AW.ret ?_)
      simp [Try.f31]
      exact Fin.refl ⟨by rw [eT], rfl⟩
    have hv' := Int.not_le.1 hv
    rw [if_neg (by simp only [not_or]; exact ⟨fun q => q hm, ha, hv⟩)] at eT
    obtain ⟨a4, e4, a, b, rfl, rfl, ha3, hb⟩ := atE_ok ha
    rw [show ((a : Nat) : Int).toNat = a from by omega, show ((b : Nat) : Int).toNat = b from by omega] at eT
    have hi : b / max 1 E.length < max 1 A.length := Nat.div_lt_of_lt_mul (by rw [Nat.mul_comm]; exact hb)
    have hj : b % max 1 E.length < max 1 E.length := Nat.mod_lt _ (by omega)
    have sI := foil_turns A a4 (b / max 1 E.length) a hi
    have sJ := foil_turns E e4 (b % max 1 E.length) a hj
    have eO : onThen A E a b = turnN A (b / max 1 E.length) a * max 1 E.length + turnN E (b % max 1 E.length) a := rfl
    have hT := onThen_lt A E a b hb
    have hq : max 1 A.length * max 1 E.length ≤ 4 * 4 := Nat.mul_le_mul (by omega) (by omega)
    obtain ⟨N, eN⟩ : ∃ N, N = max 1 E.length := ⟨_, rfl⟩
    have im1 : (if (1 : Int) < (E.length : Int) then (E.length : Int) else 1) = (N : Int) := by rw [imax1, eN]
    have im2 : (if 1 < E.length then (E.length : Int) else 1) = (N : Int) := by rw [imax1', eN]
    rw [← eN] at sI sJ eO hq hT hb
    have hN0 : ¬ N = 0 := by omega
    have d1 : (b : Int) / (N : Int) = ((b / N : Nat) : Int) := (Int.natCast_ediv _ _).symm
    have d2 : (b : Int) % (N : Int) = ((b % N : Nat) : Int) := (Int.natCast_emod _ _).symm
    have d3 : (b : Int).tmod (N : Int) = ((b % N : Nat) : Int) := by rw [Int.tmod_eq_emod_of_nonneg (by omega)]; exact d2
    have d4 : (b : Int).tdiv (N : Int) = ((b / N : Nat) : Int) := by rw [Int.tdiv_eq_ediv_of_nonneg (by omega)]; exact d1
    have hb16 : b < 16 := by omega
    have w1 : IntKind.i64.wrap ((b / N : Nat) : Int) = ((b / N : Nat) : Int) := wrap_nat (by have := Nat.div_le_self b N; omega)
    generalize b / N = i at *
    generalize b % N = j at *
    generalize turnN A i a = x at *
    generalize turnN E j a = y at *
    have wx : IntKind.i64.wrap ((x : Int) * (N : Int)) = (x : Int) * (N : Int) := by
      rw [show ((x : Int) * (N : Int)) = ((x * N : Nat) : Int) by push_cast; rfl]; exact wrap_nat (by omega)
    have wy : IntKind.i64.wrap ((x : Int) * (N : Int) + (y : Int)) = ((onThen A E a b : Nat) : Int) := by
      rw [show ((x : Int) * (N : Int) + (y : Int)) = ((onThen A E a b : Nat) : Int) by rw [eO]; push_cast; rfl]; exact wrap_nat (by omega)
    refine AW.seq fun _ k2 => AW.regionAt 2 [] Θ_ok fun B hB => ?_
    simp
    refine sM.use (by simp [G.av]) ?_
    refine hB _ ?_
    clear hB B
    refine vcOps_split 7 fun B hB => ?_
    simp
    refine sA.use (by simp) ?_
    refine hB _ ?_
    clear hB B
    simp [ha, ha', hv, hv']
    refine k2 _ ?_
    refine AW.cond false (by simp [Int.natCast_inj, ha, ha', hv, hv']) (fun h => by cases h) (fun _ => ?_)
    refine AW.skip ?_
    simp
    refine k1 _ ?_
    refine AW.seq fun _ k1 => AW.region [] Θ_ok ?_
    simp [im1, im2]
    refine k1 _ ?_
    refine AW.seq fun _ kr => AW.draw [] 16 [] Θ_ok mixed (by kernel_rfl) (by kernel_rfl) ?_
    refine vcDraw_split 5 fun B hB => ?_
    simp [vcPre, vcTail, callA, isAlloc, isLoad, effOp, obl, obA, mkOK, valA, hN0, d1, d2, d3, d4, w1]
    refine hB _ _ _ ?_
    clear hB B
    refine vcPre_split 1 fun B hB => ?_
    simp [vcPre, vcTail, callA, isAlloc, isLoad, effOp, obl, obA, mkOK, valA]
    refine ⟨_, sI.wk (by simp), ?_⟩
    refine hB _ _ _ ?_
    clear hB B
    refine vcPre_split 8 fun B hB => ?_
    simp [vcPre, vcTail, callA, isAlloc, isLoad, effOp, obl, obA, mkOK, valA, hN0, d1, d2, d3, d4, w1, wx]
    refine ⟨_, sJ.wk (by simp), ?_⟩
    refine hB _ _ _ ?_
    clear hB B
    simp [vcPre, vcTail, callA, isAlloc, isLoad, effOp, obl, obA, mkOK, valA, wx, wy]
    refine kr _ (AW.ret ?_)
    simp [Try.f31]
    exact Fin.refl ⟨by rw [eT], rfl⟩
  · rw [if_pos (.inl hm)] at eT
    refine AW.seq fun _ k2 => AW.regionAt 2 [] Θ_ok fun B hB => ?_
    simp
    refine sM.use (by simp [G.av]) ?_
    refine hB _ ?_
    clear hB B
    simp [hm]
    refine k2 _ ?_
    refine AW.cond true (by simp [Int.natCast_inj]) (fun _ => ?_) (fun h => by cases h)
    refine AW.seq fun _ kr => AW.region [] Θ_ok ?_
    simp
    refine kr _ (AW.ret ?_)
    simp [Try.f31]
    exact Fin.refl ⟨by rw [eT], rfl⟩

theorem r9_FoilThen (g : G) (hf : g.fits) (A E : List (List Bool)) (v mem : Int) : Pure Try.prog 30 [g.av, .ro false (bools2 A), .ro false (bools2 E), .int .i64 v, .int .i64 mem] (.int .i64 (foThen g A E v mem)) := by
  have sM := r9_May g hf
  have sA := r9_At A E v mem
  have eT : foThen g A E v mem = if mayE g ≠ 0 ∨ atE A E v mem < 0 ∨ (g.owner.length : Int) ≤ v then (-1 : Int) else ((onThen A E v.toNat mem.toNat : Nat) : Int) := rfl
  intro h
  refine AC.body Θ_ok Try.func30 rfl rfl (Nat.le_of_ble_eq_true rfl) ?_
  refine AW.seq fun _ k1 => AW.region [] Θ_ok ?_
  simp
  refine k1 _ ?_
  refine AW.seq fun _ k1 => ?_
  by_cases hm : mayE g = 0
  · rw [hm] at sM
    by_cases ha : atE A E v mem < 0
    · rw [if_pos (.inr (.inl ha))] at eT
      refine AW.seq fun _ k2 => AW.regionAt 2 [] Θ_ok fun B hB => ?_
      simp
      refine sM.use (by simp [G.av]) ?_
      refine hB _ ?_
      clear hB B
      refine vcOps_split 7 fun B hB => ?_
      simp
      refine sA.use (by simp) ?_
      refine hB _ ?_
      clear hB B
      simp [ha]
      refine k2 _ ?_
      refine AW.cond true (by simp [Int.natCast_inj]) (fun _ => ?_) (fun h => by cases h)
      refine AW.seq fun _ kr => AW.region [] Θ_ok ?_
      simp
      refine kr _ (AW.ret ?_)
      simp [Try.f30]
      exact Fin.refl ⟨by rw [eT], rfl⟩
    have ha' := Int.not_lt.1 ha
    by_cases hv : (g.owner.length : Int) ≤ v
    · rw [if_pos (.inr (.inr hv))] at eT
      refine AW.seq fun _ k2 => AW.regionAt 2 [] Θ_ok fun B hB => ?_
      simp
      refine sM.use (by simp [G.av]) ?_
      refine hB _ ?_
      clear hB B
      refine vcOps_split 7 fun B hB => ?_
      simp
      refine sA.use (by simp) ?_
      refine hB _ ?_
      clear hB B
      simp [ha, ha', hv]
      refine k2 _ ?_
      refine AW.cond true (by simp [Int.natCast_inj, ha, ha', hv]) (fun _ => ?_) (fun h => by cases h)
      refine AW.seq fun _ kr => AW.region [] Θ_ok ?_
      simp
      refine kr _ (AW.ret ?_)
      simp [Try.f30]
      exact Fin.refl ⟨by rw [eT], rfl⟩
    have hv' := Int.not_le.1 hv
    rw [if_neg (by simp only [not_or]; exact ⟨fun q => q hm, ha, hv⟩)] at eT
    obtain ⟨a4, e4, a, b, rfl, rfl, ha3, hb⟩ := atE_ok ha
    rw [show ((a : Nat) : Int).toNat = a from by omega, show ((b : Nat) : Int).toNat = b from by omega] at eT
    have sG := r9_goes A E a4 e4 a b hb
    refine AW.seq fun _ k2 => AW.regionAt 2 [] Θ_ok fun B hB => ?_
    simp
    refine sM.use (by simp [G.av]) ?_
    refine hB _ ?_
    clear hB B
    refine vcOps_split 7 fun B hB => ?_
    simp
    refine sA.use (by simp) ?_
    refine hB _ ?_
    clear hB B
    simp [ha, ha', hv, hv']
    refine k2 _ ?_
    refine AW.cond false (by simp [Int.natCast_inj, ha, ha', hv, hv']) (fun h => by cases h) (fun _ => ?_)
    refine AW.skip ?_
    simp
    refine k1 _ ?_
    refine AW.seq fun _ k1 => AW.regionAt 5 [] Θ_ok fun B hB => ?_
    simp
    refine sG.use (by simp) ?_
    refine hB _ ?_
    clear hB B
    simp
    refine k1 _ ?_
    refine AW.seq fun _ kr => AW.region [] Θ_ok ?_
    simp
    refine kr _ (AW.ret ?_)
    simp [Try.f30]
    exact Fin.refl ⟨by rw [eT], rfl⟩
  · rw [if_pos (.inl hm)] at eT
    refine AW.seq fun _ k2 => AW.regionAt 2 [] Θ_ok fun B hB => ?_
    simp
    refine sM.use (by simp [G.av]) ?_
    refine hB _ ?_
    clear hB B
    simp [hm]
    refine k2 _ ?_
    refine AW.cond true (by simp [Int.natCast_inj]) (fun _ => ?_) (fun h => by cases h)
    refine AW.seq fun _ kr => AW.region [] Θ_ok ?_
    simp
    refine kr _ (AW.ret ?_)
    simp [Try.f30]
    exact Fin.refl ⟨by rw [eT], rfl⟩
end Go.Par
