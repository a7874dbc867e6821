/- Texts FoA FoB FoC, one behind another. -/
import Derived.Test.YtaipmknajpbpkaaCgA
import Derived.Test.YtaipmknajpbpkaaFgA
import Derived.Test.YtaipmknajpbpkaaS4A
import Derived.Test.YtaipmknajpbpkaaGgA
import Derived.Test.YtaipmknajpbpkaaPrG
set_option linter.unusedSimpArgs false
set_option linter.unusedVariables false
set_option maxRecDepth 8000
set_option maxHeartbeats 1000000
namespace Go.Par
open Go.Proofs

def turnN (A : List (List Bool)) (i v : Nat) : Nat := if metB A i v then (i + 1) % max 1 A.length else i
theorem foil_met (A : List (List Bool)) (i v : Nat) (hi : A ≠ [] → i < A.length) : Pure Try.prog 85 [.ro false (bools2 A), .int .i64 i, .int .i64 v] (.bool (metB A i v)) := by
  intro h
  refine AC.body Θ_ok Try.func85 rfl rfl (Nat.le_of_ble_eq_true rfl) ?_
  refine AW.seq fun _ k1 => AW.region [] Θ_ok ?_
  simp
  refine k1 _ ?_
  by_cases h0 : A = []
  · have h0' : (A.length : Int) = 0 := by simp [h0]
    refine AW.seq fun _ kr => AW.region [] Θ_ok ?_
    simp [h0]
    refine kr _ (AW.ret ?_)
    simp [Try.f85]
    exact Fin.refl ⟨by simp [metB, h0], rfl⟩
  · have hl := hi h0
    by_cases hv : v < A[i].length
    · refine AW.seq fun _ kr => AW.region [] Θ_ok ?_
      simp [h0, hl, hv]
      refine kr _ (AW.ret ?_)
      simp [Try.f85]
      exact Fin.refl ⟨by simp [metB, h0, hl, hasN, hv], rfl⟩
    · refine AW.seq fun _ kr => AW.region [] Θ_ok ?_
      simp [h0, hl, hv]
      refine kr _ (AW.ret ?_)
      simp [Try.f85]
      exact Fin.refl ⟨by simp [metB, h0, hl, hasN, Nat.le_of_not_lt hv], rfl⟩
theorem foil_turns (A : List (List Bool)) (hA : A.length ≤ 4) (i v : Nat) (hi : i < max 1 A.length) : Pure Try.prog 60 [.ro false (bools2 A), .int .i64 i, .int .i64 v] (.int .i64 (turnN A i v)) := by
  have sM := foil_met A i v (fun h => by have := List.length_pos_iff.2 h; omega)
  have e : turnN A i v = if metB A i v then (i + 1) % max 1 A.length else i := rfl
  generalize metB A i v = b at *
  have hM : max 1 A.length ≤ 4 := by omega
  have hM0 : ¬ max 1 A.length = 0 := by omega
  intro h
  refine AC.body Θ_ok Try.func60 rfl rfl (Nat.le_of_ble_eq_true rfl) ?_
  refine AW.seq fun _ k1 => AW.region [] Θ_ok ?_
  simp
  refine k1 _ ?_
  refine AW.seq fun _ k1 => ?_
  refine AW.seq fun _ k2 => AW.regionAt 4 [] Θ_ok fun B hB => ?_
  simp
  refine sM.use (by simp) ?_
  refine hB _ ?_
  clear hB B
  simp
  refine k2 _ ?_
  cases b with
  | false =>
    refine AW.cond false (by simp [Int.natCast_inj]) (fun h => by cases h) (fun _ => ?_)
    refine AW.skip ?_
    simp
    refine k1 _ ?_
    refine AW.seq fun _ kr => AW.region [] Θ_ok ?_
    simp
    refine kr _ (AW.ret ?_)
    simp [Try.f60]
    exact Fin.refl ⟨by rw [e]; rfl, rfl⟩
  | true =>
    have wi : IntKind.i64.wrap ((i : Int) + 1) = (i : Int) + 1 := wrap_id (by omega) (by omega)
    obtain ⟨M, eM⟩ : ∃ M, M = max 1 A.length := ⟨_, rfl⟩
    obtain ⟨i', hi'⟩ : ∃ i', i' = (i + 1) % M := ⟨_, rfl⟩
    have mi : ((i : Int) + 1) % (M : Int) = (i' : Int) := by rw [hi']; simp
    have mi2 : ((i : Int) + 1).tmod (M : Int) = (i' : Int) := by rw [Int.tmod_eq_emod_of_nonneg (by omega)]; exact mi
    have im1 : (if (1 : Int) < (A.length : Int) then (A.length : Int) else 1) = (M : Int) := by rw [imax1, eM]
    have im2 : (if 1 < A.length then (A.length : Int) else 1) = (M : Int) := by rw [imax1', eM]
    rw [← eM] at e hM0 hM hi
    have e' : turnN A i v = i' := by rw [e, hi']; rfl
    rw [e']
    refine AW.cond true (by simp [Int.natCast_inj]) (fun _ => ?_) (fun h => by cases h)
    refine AW.seq fun _ kr => AW.region [] Θ_ok ?_
    simp [wi, im1, im2, hM0, mi, mi2]
    refine kr _ (AW.ret ?_)
    simp [Try.f60]
    exact Fin.refl ⟨rfl, rfl⟩

theorem atE_ok {A E : List (List Bool)} {v mem : Int} (h : ¬ atE A E v mem < 0) : A.length ≤ 4 ∧ E.length ≤ 4 ∧ ∃ a b : Nat, v = a ∧ mem = b ∧ a ≤ 3000 ∧ b < max 1 A.length * max 1 E.length := by
  unfold atE at h
  split at h
  · omega
  · rename_i c
    simp only [not_or, Int.not_lt, Int.not_le] at c
    obtain ⟨c1, c2, c3, c4, c5⟩ := c
    have c6 : ¬ 4 < max A.length E.length := fun q => c1 (by simp [memsN, q])
    have c7 : memsN A.length E.length = max 1 A.length * max 1 E.length := by rw [memsN, if_neg c6]
    rw [c7] at c5
    exact ⟨by omega, by omega, v.toNat, mem.toNat, by omega, by omega, by omega, by omega⟩
def foThen (g : G) (A E : List (List Bool)) (v mem : Int) : Int := if mayE g ≠ 0 ∨ atE A E v mem < 0 ∨ (g.owner.length : Int) ≤ v then -1 else (onThen A E v.toNat mem.toNat : Nat)

theorem foil_Then (g : G) (hf : g.fits) (A E : List (List Bool)) (v mem : Int) : Pure Try.prog 31 [g.av, .ro false (bools2 A), .ro false (bools2 E), .int .i64 v, .int .i64 mem] (.int .i64 (foThen g A E v mem)) := by
  have sM := graph_May g hf
  have sA := counter_At A E v mem
  have eT : foThen g A E v mem = if mayE g ≠ 0 ∨ atE A E v mem < 0 ∨ (g.owner.length : Int) ≤ v then (-1 : Int) else ((onThen A E v.toNat mem.toNat : Nat) : Int) := rfl
  intro h
  refine AC.body Θ_ok Try.func31 rfl rfl (Nat.le_of_ble_eq_true rfl) ?_
  refine AW.seq fun _ k1 => AW.region [] Θ_ok ?_
  simp
  refine k1 _ ?_
  refine AW.seq fun _ k1 => ?_
  by_cases hm : mayE g = 0
  · rw [hm] at sM
    by_cases ha : atE A E v mem < 0
    · rw [if_pos (.inr (.inl ha))] at eT
      refine AW.seq fun _ k2 => AW.regionAt 2 [] Θ_ok fun B hB => ?_
      simp
      refine sM.use (by simp [G.av]) ?_
      refine hB _ ?_
      clear hB B
      refine vcOps_split 7 fun B hB => ?_
      simp
      refine sA.use (by simp) ?_
      refine hB _ ?_
      clear hB B
      simp [ha]
      refine k2 _ ?_
      refine AW.cond true (by simp [Int.natCast_inj]) (fun _ => ?_) (fun h => by cases h)
      refine AW.seq fun _ kr => AW.region [] Θ_ok ?_
      simp
      refine kr _ (AW.ret ?_)
      simp [Try.f31]
      exact Fin.refl ⟨by rw [eT], rfl⟩
    have ha' := Int.not_lt.1 ha
    by_cases hv : (g.owner.length : Int) ≤ v
    · rw [if_pos (.inr (.inr hv))] at eT
      refine AW.seq fun _ k2 => AW.regionAt 2 [] Θ_ok fun B hB => ?_
      simp
      refine sM.use (by simp [G.av]) ?_
      refine hB _ ?_
      clear hB B
      refine vcOps_split 7 fun B hB => ?_
      simp
      refine sA.use (by simp) ?_
      refine hB _ ?_
      clear hB B
      simp [ha, ha', hv]
      refine k2 _ ?_
      refine AW.cond true (by simp [Int.natCast_inj, ha, ha', hv]) (fun _ => ?_) (fun h => by cases h)
      refine AW.seq fun _ kr => AW.region [] Θ_ok ?_
      simp
      refine kr _ (AW.ret ?_)
      simp [Try.f31]
      exact Fin.refl ⟨by rw [eT], rfl⟩
    have hv' := Int.not_le.1 hv
    rw [if_neg (by simp only [not_or]; exact ⟨fun q => q hm, ha, hv⟩)] at eT
    obtain ⟨a4, e4, a, b, rfl, rfl, ha3, hb⟩ := atE_ok ha
    rw [show ((a : Nat) : Int).toNat = a from by omega, show ((b : Nat) : Int).toNat = b from by omega] at eT
    have hi : b / max 1 E.length < max 1 A.length := Nat.div_lt_of_lt_mul (by rw [Nat.mul_comm]; exact hb)
    have hj : b % max 1 E.length < max 1 E.length := Nat.mod_lt _ (by omega)
    have sI := foil_turns A a4 (b / max 1 E.length) a hi
    have sJ := foil_turns E e4 (b % max 1 E.length) a hj
    have eO : onThen A E a b = turnN A (b / max 1 E.length) a * max 1 E.length + turnN E (b % max 1 E.length) a := rfl
    have hT := onThen_lt A E a b hb
    have hq : max 1 A.length * max 1 E.length ≤ 4 * 4 := Nat.mul_le_mul (by omega) (by omega)
    obtain ⟨N, eN⟩ : ∃ N, N = max 1 E.length := ⟨_, rfl⟩
    have im1 : (if (1 : Int) < (E.length : Int) then (E.length : Int) else 1) = (N : Int) := by rw [imax1, eN]
    have im2 : (if 1 < E.length then (E.length : Int) else 1) = (N : Int) := by rw [imax1', eN]
    rw [← eN] at sI sJ eO hq hT hb
    have hN0 : ¬ N = 0 := by omega
    have d1 : (b : Int) / (N : Int) = ((b / N : Nat) : Int) := (Int.natCast_ediv _ _).symm
    have d2 : (b : Int) % (N : Int) = ((b % N : Nat) : Int) := (Int.natCast_emod _ _).symm
    have d3 : (b : Int).tmod (N : Int) = ((b % N : Nat) : Int) := by rw [Int.tmod_eq_emod_of_nonneg (by omega)]; exact d2
    have d4 : (b : Int).tdiv (N : Int) = ((b / N : Nat) : Int) := by rw [Int.tdiv_eq_ediv_of_nonneg (by omega)]; exact d1
    have hb16 : b < 16 := by omega
    have w1 : IntKind.i64.wrap ((b / N : Nat) : Int) = ((b / N : Nat) : Int) := wrap_nat (by have := Nat.div_le_self b N; omega)
    generalize b / N = i at *
    generalize b % N = j at *
    generalize turnN A i a = x at *
    generalize turnN E j a = y at *
    have wx : IntKind.i64.wrap ((x : Int) * (N : Int)) = (x : Int) * (N : Int) := by
      rw [show ((x : Int) * (N : Int)) = ((x * N : Nat) : Int) by push_cast; rfl]; exact wrap_nat (by omega)
    have wy : IntKind.i64.wrap ((x : Int) * (N : Int) + (y : Int)) = ((onThen A E a b : Nat) : Int) := by
      rw [show ((x : Int) * (N : Int) + (y : Int)) = ((onThen A E a b : Nat) : Int) by rw [eO]; push_cast; rfl]; exact wrap_nat (by omega)
    refine AW.seq fun _ k2 => AW.regionAt 2 [] Θ_ok fun B hB => ?_
    simp
    refine sM.use (by simp [G.av]) ?_
    refine hB _ ?_
    clear hB B
    refine vcOps_split 7 fun B hB => ?_
    simp
    refine sA.use (by simp) ?_
    refine hB _ ?_
    clear hB B
    simp [ha, ha', hv, hv']
    refine k2 _ ?_
    refine AW.cond false (by simp [Int.natCast_inj, ha, ha', hv, hv']) (fun h => by cases h) (fun _ => ?_)
    refine AW.skip ?_
    simp
    refine k1 _ ?_
    refine AW.seq fun _ k1 => AW.region [] Θ_ok ?_
    simp [im1, im2]
    refine k1 _ ?_
    refine AW.seq fun _ kr => AW.draw [] 16 [] Θ_ok mixed (by kernel_rfl) (by kernel_rfl) ?_
    refine vcDraw_split 5 fun B hB => ?_
    simp [vcPre, vcTail, callA, isAlloc, isLoad, effOp, obl, obA, mkOK, valA, hN0, d1, d2, d3, d4, w1]
    refine hB _ _ _ ?_
    clear hB B
    refine vcPre_split 1 fun B hB => ?_
    simp [vcPre, vcTail, callA, isAlloc, isLoad, effOp, obl, obA, mkOK, valA]
    refine ⟨_, sI.wk (by simp), ?_⟩
    refine hB _ _ _ ?_
    clear hB B
    refine vcPre_split 8 fun B hB => ?_
    simp [vcPre, vcTail, callA, isAlloc, isLoad, effOp, obl, obA, mkOK, valA, hN0, d1, d2, d3, d4, w1, wx]
    refine ⟨_, sJ.wk (by simp), ?_⟩
    refine hB _ _ _ ?_
    clear hB B
    simp [vcPre, vcTail, callA, isAlloc, isLoad, effOp, obl, obA, mkOK, valA, wx, wy]
    refine kr _ (AW.ret ?_)
    simp [Try.f31]
    exact Fin.refl ⟨by rw [eT], rfl⟩
  · rw [if_pos (.inl hm)] at eT
    refine AW.seq fun _ k2 => AW.regionAt 2 [] Θ_ok fun B hB => ?_
    simp
    refine sM.use (by simp [G.av]) ?_
    refine hB _ ?_
    clear hB B
    simp [hm]
    refine k2 _ ?_
    refine AW.cond true (by simp [Int.natCast_inj]) (fun _ => ?_) (fun h => by cases h)
    refine AW.seq fun _ kr => AW.region [] Θ_ok ?_
    simp
    refine kr _ (AW.ret ?_)
    simp [Try.f31]
    exact Fin.refl ⟨by rw [eT], rfl⟩

theorem r9_FoilThen (g : G) (hf : g.fits) (A E : List (List Bool)) (v mem : Int) : Pure Try.prog 30 [g.av, .ro false (bools2 A), .ro false (bools2 E), .int .i64 v, .int .i64 mem] (.int .i64 (foThen g A E v mem)) := by
  have sM := r9_May g hf
  have sA := r9_At A E v mem
  have eT : foThen g A E v mem = if mayE g ≠ 0 ∨ atE A E v mem < 0 ∨ (g.owner.length : Int) ≤ v then (-1 : Int) else ((onThen A E v.toNat mem.toNat : Nat) : Int) := rfl
  intro h
  refine AC.body Θ_ok Try.func30 rfl rfl (Nat.le_of_ble_eq_true rfl) ?_
  refine AW.seq fun _ k1 => AW.region [] Θ_ok ?_
  simp
  refine k1 _ ?_
  refine AW.seq fun _ k1 => ?_
  by_cases hm : mayE g = 0
  · rw [hm] at sM
    by_cases ha : atE A E v mem < 0
    · rw [if_pos (.inr (.inl ha))] at eT
      refine AW.seq fun _ k2 => AW.regionAt 2 [] Θ_ok fun B hB => ?_
      simp
      refine sM.use (by simp [G.av]) ?_
      refine hB _ ?_
      clear hB B
      refine vcOps_split 7 fun B hB => ?_
      simp
      refine sA.use (by simp) ?_
      refine hB _ ?_
      clear hB B
      simp [ha]
      refine k2 _ ?_
      refine AW.cond true (by simp [Int.natCast_inj]) (fun _ => ?_) (fun h => by cases h)
      refine AW.seq fun _ kr => AW.region [] Θ_ok ?_
      simp
      refine kr _ (AW.ret ?_)
      simp [Try.f30]
      exact Fin.refl ⟨by rw [eT], rfl⟩
    have ha' := Int.not_lt.1 ha
    by_cases hv : (g.owner.length : Int) ≤ v
    · rw [if_pos (.inr (.inr hv))] at eT
      refine AW.seq fun _ k2 => AW.regionAt 2 [] Θ_ok fun B hB => ?_
      simp
      refine sM.use (by simp [G.av]) ?_
      refine hB _ ?_
      clear hB B
      refine vcOps_split 7 fun B hB => ?_
      simp
      refine sA.use (by simp) ?_
      refine hB _ ?_
      clear hB B
      simp [ha, ha', hv]
      refine k2 _ ?_
      refine AW.cond true (by simp [Int.natCast_inj, ha, ha', hv]) (fun _ => ?_) (fun h => by cases h)
      refine AW.seq fun _ kr => AW.region [] Θ_ok ?_
      simp
      refine kr _ (AW.ret ?_)
      simp [Try.f30]
      exact Fin.refl ⟨by rw [eT], rfl⟩
    have hv' := Int.not_le.1 hv
    rw [if_neg (by simp only [not_or]; exact ⟨fun q => q hm, ha, hv⟩)] at eT
    obtain ⟨a4, e4, a, b, rfl, rfl, ha3, hb⟩ := atE_ok ha
    rw [show ((a : Nat) : Int).toNat = a from by omega, show ((b : Nat) : Int).toNat = b from by omega] at eT
    have sG := r9_goes A E a4 e4 a b hb
    refine AW.seq fun _ k2 => AW.regionAt 2 [] Θ_ok fun B hB => ?_
    simp
    refine sM.use (by simp [G.av]) ?_
    refine hB _ ?_
    clear hB B
    refine vcOps_split 7 fun B hB => ?_
    simp
    refine sA.use (by simp) ?_
    refine hB _ ?_
    clear hB B
    simp [ha, ha', hv, hv']
    refine k2 _ ?_
    refine AW.cond false (by simp [Int.natCast_inj, ha, ha', hv, hv']) (fun h => by cases h) (fun _ => ?_)
    refine AW.skip ?_
    simp
    refine k1 _ ?_
    refine AW.seq fun _ k1 => AW.regionAt 5 [] Θ_ok fun B hB => ?_
    simp
    refine sG.use (by simp) ?_
    refine hB _ ?_
    clear hB B
    simp
    refine k1 _ ?_
    refine AW.seq fun _ kr => AW.region [] Θ_ok ?_
    simp
    refine kr _ (AW.ret ?_)
    simp [Try.f30]
    exact Fin.refl ⟨by rw [eT], rfl⟩
  · rw [if_pos (.inl hm)] at eT
    refine AW.seq fun _ k2 => AW.regionAt 2 [] Θ_ok fun B hB => ?_
    simp
    refine sM.use (by simp [G.av]) ?_
    refine hB _ ?_
    clear hB B
    simp [hm]
    refine k2 _ ?_
    refine AW.cond true (by simp [Int.natCast_inj]) (fun _ => ?_) (fun h => by cases h)
    refine AW.seq fun _ kr => AW.region [] Θ_ok ?_
    simp
    refine kr _ (AW.ret ?_)
    simp [Try.f30]
    exact Fin.refl ⟨by rw [eT], rfl⟩
end Go.Par

set_option linter.unusedSimpArgs false
set_option linter.unusedVariables false
set_option maxRecDepth 8000
set_option maxHeartbeats 2000000
namespace Go.Par
open Go.Proofs

def stepM (A E : List (List Bool)) (T : List Int) (K v m : Nat) : List S4 := tab m fun mem => ⟨v, mem, ((fI T (v * K + mem)).toNat / K : Nat), (onThen A E v mem : Nat)⟩
def stepV (g : G) (A E : List (List Bool)) (W T : List Int) (K : Nat) : Nat → List S4
  | 0 => []
  | v + 1 => stepV g A E W T K v ++ (if ow g v = 0 ∧ fI W (v * K) = 0 then stepM A E T K v K else [])
theorem stepM_len (A E : List (List Bool)) (T : List Int) (K v m : Nat) : (stepM A E T K v m).length = m := length_tab _ _
theorem stepM_succ (A E : List (List Bool)) (T : List Int) (K v m : Nat) : stepM A E T K v (m + 1) = stepM A E T K v m ++ [⟨v, m, ((fI T (v * K + m)).toNat / K : Nat), (onThen A E v m : Nat)⟩] := by simp [stepM, tab_succ]
theorem stepV_len (g : G) (A E : List (List Bool)) (W T : List Int) (K : Nat) : ∀ v, (stepV g A E W T K v).length ≤ v * K
  | 0 => by simp [stepV]
  | v + 1 => by
    have := stepV_len g A E W T K v
    rw [stepV, List.length_append, Nat.add_mul]
    split
    · rw [stepM_len]; omega
    · simp; omega
def stepN (g : G) (A E : List (List Bool)) (W T : List Int) (K v m : Nat) : List S4 := stepV g A E W T K v ++ stepM A E T K v m
theorem stepN_zero (g : G) (A E : List (List Bool)) (W T : List Int) (K v : Nat) : stepN g A E W T K v 0 = stepV g A E W T K v := by simp [stepN, stepM, tab]
theorem stepN_full {g : G} {A E : List (List Bool)} {W T : List Int} {K v : Nat} (h : ow g v = 0 ∧ fI W (v * K) = 0) : stepN g A E W T K v K = stepV g A E W T K (v + 1) := by rw [stepV, if_pos h]; rfl
theorem stepN_succ (g : G) (A E : List (List Bool)) (W T : List Int) (K v m : Nat) : stepN g A E W T K v (m + 1) = stepN g A E W T K v m ++ [⟨v, m, ((fI T (v * K + m)).toNat / K : Nat), (onThen A E v m : Nat)⟩] := by
  rw [stepN, stepM_succ, ← List.append_assoc]; rfl
theorem stepN_len (g : G) (A E : List (List Bool)) (W T : List Int) (K v m : Nat) : (stepN g A E W T K v m).length ≤ v * K + m := by
  have := stepV_len g A E W T K v
  rw [stepN, List.length_append, stepM_len]; omega
noncomputable def foL (g : G) (A E : List (List Bool)) : List S4 := stepV g A E (winL (cgG g A E) (cgP g A E)) (toL (cgG g A E) (cgP g A E)) (kC A E) g.owner.length
noncomputable def foA (g : G) (A E : List (List Bool)) : AV := if cgErr g A E = 0 then .tup [.ro false (avS (foL g A E)), .int .i64 0] else .tup [.nils, .int .i64 (cgErr g A E)]

theorem foil_then1 (g : G) (hf : g.fits) (A E : List (List Bool)) (v mem : Int) : Pure Try.prog 56 ([.int .i64 v, .int .i64 mem] ++ [.rop [.ro false (ints g.owner), .ro false (rows g.next)], .rop [.ro false (bools2 A)], .rop [.ro false (bools2 E)]]) (.int .i64 (foThen g A E v mem)) := by
  have sT := foil_Then g hf A E v mem
  intro h
  refine AC.body Θ_ok Try.func56 rfl rfl (Nat.le_of_ble_eq_true rfl) ?_
  refine AW.seq fun _ k1 => AW.region [] Θ_ok ?_
  simp
  refine k1 _ ?_
  refine AW.seq fun _ kr => AW.regionAt 6 [] Θ_ok fun B hB => ?_
  simp
  refine sT.use (by simp [G.av]) ?_
  refine hB _ ?_
  clear hB B
  simp
  refine kr _ (AW.ret ?_)
  simp [Try.f56]
  exact Fin.refl ⟨rfl, rfl⟩

theorem fo_fits {g : G} (hf : g.fits) {A E : List (List Bool)} (h : cgErr g A E = 0) : (cgG g A E).fits := by
  have ok := cg_ok h
  have hn := ok.n
  have hn2 := (may_ok ok.m).2.1
  have lo : (cgG g A E).owner.length = g.owner.length * kC A E := length_tab _ _
  have ln : (cgG g A E).next.length = g.owner.length * kC A E := length_tab _ _
  refine ⟨by rw [lo]; exact Nat.le_trans hn (by omega), by rw [ln]; exact Nat.le_trans hn (by omega), fun l hl => ?_⟩
  obtain ⟨i, hi, rfl⟩ := mem_tab.1 hl
  have hv := cg_div hi
  have hv' : i / memsN A.length E.length < g.next.length := by omega
  have := hf.row _ (List.getElem_mem hv')
  simpa [cgRow, hv'] using this
theorem fo_mayP {g : G} {A E : List (List Bool)} (h : cgErr g A E = 0) : mayP (cgG g A E) (cgP g A E) = true := by
  have ok := cg_pok h
  simp only [mayP, Bool.and_eq_true, decide_eq_true_eq, List.all_eq_true]
  refine ⟨⟨ok.m, ok.len⟩, fun p hp => ?_⟩
  obtain ⟨i, hi, rfl⟩ := List.mem_iff_getElem.1 hp
  have h1 := ok.lo i
  have h2 := ok.hi i
  rw [show fI (cgP g A E) i = (cgP g A E)[i] by simp [fI, hi]] at h1 h2
  omega
/-- Where Env wins it does so with all memory, and is told where to go. -/
theorem fo_env {g : G} {A E : List (List Bool)} (h : cgErr g A E = 0) {v mem : Nat} (hv : v < g.owner.length) (hm : mem < kC A E) (ho : ow g v = 0) (hw : fI (winL (cgG g A E) (cgP g A E)) (v * kC A E) = 0) :
    ∃ q : Nat, fI (toL (cgG g A E) (cgP g A E)) (v * kC A E + mem) = q ∧ gE g v (vC A E q) ∧ q < g.owner.length * kC A E ∧ hasN (solveL g A E).1 (vC A E q) = false ∧ gE (cgG g A E) (v * kC A E + mem) q ∧ fI (winL (cgG g A E) (cgP g A E)) q = 0 := by
  have ok := cg_ok h
  have k0 := ok.k0
  have hp0 := cg_lt h hv k0
  have hp := cg_lt h hv hm
  have nz : ¬ hasN (solveL g A E).1 v = true := fun z => by
    have := (gr1_counter h hp0).2 (by rw [(cg_at h v 0 k0).1]; exact z)
    rw [Nat.add_zero, hw] at this
    cases this
  have w0 : fI (winL (cgG g A E) (cgP g A E)) (v * kC A E + mem) = 0 := by
    rcases solve_win (cg_pok h) (v := v * kC A E + mem) (by rw [cg_len h]; exact hp) with q | q
    · exact q
    · exact absurd (by have := (gr1_counter h hp).1 q; rwa [(cg_at h v mem hm).1] at this) nz
  obtain ⟨q, q1, q2, q3, q4⟩ := (solve_sol (cg_pok h)).own (v * kC A E + mem) (by rw [cg_len h]; exact hp) (by rw [w0, cg_ow h hp, (cg_at h v mem hm).1]; exact ho)
  rw [cg_len h] at q3
  obtain ⟨st, _⟩ := cg_step h hp q2
  rw [(cg_at h v mem hm).1] at st
  refine ⟨q, q1, st, q3, ?_, q2, by rw [q4, w0]⟩
  cases z : hasN (solveL g A E).1 (vC A E q) with
  | false => rfl
  | true =>
    have := (gr1_counter h q3).2 z
    rw [q4, w0] at this; cases this
theorem fo_then {g : G} {A E : List (List Bool)} (h : cgErr g A E = 0) {v mem : Nat} (hv : v < g.owner.length) (hm : mem < kC A E) : foThen g A E v mem = (onThen A E v mem : Nat) := by
  have ok := cg_ok h
  have k0 := ok.k0
  have hn := ok.n
  have h3 := (may_ok ok.m).1
  have hv3 : ¬ (3000 : Int) < (v : Int) := by omega
  have hat : ¬ atE A E v mem < 0 := by
    unfold atE
    rw [if_neg]
    · have : (0 : Int) ≤ (v : Int) * (memsN A.length E.length : Nat) := Int.mul_nonneg (by omega) (by omega)
      omega
    · simp only [not_or]
      have hm' : mem < memsN A.length E.length := hm
      exact ⟨by omega, by omega, hv3, by omega, by omega⟩
  unfold foThen
  rw [if_neg (by simp only [not_or]; exact ⟨fun q => q ok.m, hat, by omega⟩)]
  rw [show ((v : Nat) : Int).toNat = v by omega, show ((mem : Nat) : Int).toNat = mem by omega]

theorem foil_Steps (g : G) (hf : g.fits) (A E : List (List Bool)) : Pure Try.prog 25 [g.av, .ro false (bools2 A), .ro false (bools2 E)] (foA g A E) := by
  have sG := counter_Game g hf A E
  have sK := counter_Mems A E
  have sF := fun v mem => foil_then1 g hf A E v mem
  intro h
  refine AC.body Θ_ok Try.func25 rfl rfl (Nat.le_of_ble_eq_true rfl) ?_
  refine AW.seq fun _ k1 => AW.region [] Θ_ok ?_
  simp
  refine k1 _ ?_
  by_cases hE : cgErr g A E = 0
  · have hfin : foA g A E = .tup [.ro false (avS (foL g A E)), .int .i64 0] := if_pos hE
    have ok := cg_ok hE
    have hn := ok.n
    have k0 := ok.k0
    have hn3 := (may_ok ok.m).1
    have sS := parity_Solve (cgG g A E) (fo_fits hf hE) (cgP g A E) (by
      have : (cgP g A E).length = g.owner.length * kC A E := length_tab _ _
      rw [this]; exact Nat.le_trans ok.n (by omega))
    rw [solA, if_pos (fo_mayP hE)] at sS
    rw [cgA, if_pos hE] at sG
    have lW : (winL (cgG g A E) (cgP g A E)).length = g.owner.length * kC A E := by
      rw [← cg_len hE]; exact (zfin_spec (cg_pok hE)).2.2.1
    have lT : (toL (cgG g A E) (cgP g A E)).length = g.owner.length * kC A E := by
      rw [← cg_len hE]; exact length_tab _ _
    have env := fun v mem (hv : v < g.owner.length) (hm : mem < kC A E) (ho : ow g v = 0) hw => fo_env hE hv hm ho hw
    have thn := fun v mem (hv : v < g.owner.length) (hm : mem < kC A E) => fo_then hE hv hm
    have lt := fun v mem (hv : v < g.owner.length) (hm : mem < kC A E) => cg_lt hE hv hm
    have eL : foL g A E = stepV g A E (winL (cgG g A E) (cgP g A E)) (toL (cgG g A E) (cgP g A E)) (kC A E) g.owner.length := rfl
    obtain ⟨L, hL⟩ : ∃ L, L = foL g A E := ⟨_, rfl⟩
    rw [← hL] at eL hfin
    obtain ⟨K, eK⟩ : ∃ K, K = kC A E := ⟨_, rfl⟩
    have env2 : ∀ v mem, v < g.owner.length → mem < K → ow g v = 0 → fI (winL (cgG g A E) (cgP g A E)) (v * K) = 0 → ∃ q : Nat, fI (toL (cgG g A E) (cgP g A E)) (v * K + mem) = q ∧ q ≤ 3000 := by
      subst eK
      intro v mem hv hm ho hw
      obtain ⟨q, hq, _, hq2, _⟩ := env v mem hv hm ho hw
      exact ⟨q, hq, Nat.le_trans (Nat.le_of_lt hq2) hn⟩
    have hK16 : K ≤ 16 := by rw [eK]; exact memsN_le _ _
    clear env
    simp only [← eK] at lW lT thn lt eL
    rw [show memsN A.length E.length = K from eK.symm] at sK k0 hn
    clear ok eK hL
    generalize winL (cgG g A E) (cgP g A E) = W at *
    generalize toL (cgG g A E) (cgP g A E) = To at *
    generalize cgG g A E = C at *
    generalize cgP g A E = P at *
    refine AW.seq fun _ k1 => AW.regionAt 4 [8] Θ_ok fun B hB => ?_
    simp
    refine sG.use (by simp [G.av]) ?_
    refine hB _ ?_
    clear hB B
    simp [newA]
    refine fun o ho => k1 _ ?_
    refine AW.box 8 rfl (upd_same _ _ _) ?_
    simp only [updNF _ ho]
    clear ho
    refine AW.seq fun _ k1 => ?_
    refine AW.seq fun _ k2 => AW.region [] Θ_ok ?_
    simp
    refine k2 _ ?_
    refine AW.cond false (by simp [Int.natCast_inj]) (fun h => by cases h) (fun _ => ?_)
    refine AW.skip ?_
    simp
    refine k1 _ ?_
    refine AW.seq fun _ k1 => AW.regionAt 3 [] Θ_ok fun B hB => ?_
    simp
    refine sS.use (by simp [G.av]) ?_
    refine hB _ ?_
    clear hB B
    simp
    refine k1 _ ?_
    refine AW.seq fun _ k1 => AW.regionAt 3 [] Θ_ok fun B hB => ?_
    simp
    refine sK.use (by simp) ?_
    refine hB _ ?_
    clear hB B
    simp
    refine k1 _ ?_
    refine AW.seq fun _ k1 => AW.region [] Θ_ok ?_
    simp
    refine k1 _ ?_
    refine AW.seq fun _ k1 => AW.region [] Θ_ok ?_
    simp
    refine k1 _ ?_
    refine AW.mine 15 37 4 rfl fun a ha => ?_
    simp only at ha ⊢
    have N1 : HN h [a] := HL.new (l := []) ⟨List.nodup_nil, fun o ho => by cases ho⟩ ha
    rw [show upd h a (some ⟨[], 37, 4, false⟩) = HL h [(a, obSt [] false)] from rfl]
    clear ha
    refine AW.seq fun _ k1 => ?_
    refine AW.seq fun _ k2 => AW.region [] Θ_ok ?_
    simp
    refine k2 _ ?_
    obtain ⟨cl, hcl⟩ : ∃ cl, cl = AV.clo 56 [.rop [.ro false (ints g.owner), .ro false (rows g.next)], .rop [.ro false (bools2 A)], .rop [.ro false (bools2 E)]] := ⟨_, rfl⟩
    refine AW.block ?_
    refine AW.loopI (X := FoX) (fun s => HN h [s.o] ∧ s.x ≤ g.owner.length) (fun s => ⟨86, [(11, .ro true (ints W)), (12, .ro true (ints To)), (13, .int .i64 K), (14, cl), (15, .mu s.o (stepV g A E W To K s.x).length), (41, .ro false (ints g.owner)), (42, .int .i64 g.owner.length), (43, .int .i64 s.x)], HL h [(s.o, obSt (stepV g A E W To K s.x) s.nn)]⟩) (fun s => g.owner.length - s.x) ⟨a, 0, false⟩ ⟨N1, Nat.zero_le _⟩ (GStep.eq (by simp [hcl, stepV]) (subH.refl _)) ?_
    clear N1 a
    rintro ⟨a, v, nn⟩ ⟨N, hx⟩
    simp only at N hx ⊢
    refine AW.seq fun _ k2 => AW.region [] Θ_ok ?_
    simp
    refine k2 _ ?_
    by_cases hlt : v < g.owner.length
    · have inc := wrap_succ (show v < 9223372036854775807 by omega)
      have eV : stepV g A E W To K (v + 1) = stepV g A E W To K v ++ (if ow g v = 0 ∧ fI W (v * K) = 0 then stepM A E To K v K else []) := rfl
      have eo : ow g v = g.owner[v] := by simp [ow, hlt]
      have hvK : v * K < g.owner.length * K := lt v 0 hlt k0
      obtain ⟨b, hb⟩ : ∃ b, b = v * K := ⟨_, rfl⟩
      have hvW : b < W.length := by rw [lW, hb]; exact hvK
      have ew : fI W (v * K) = W[b] := by rw [← hb]; simp [fI, hvW]
      have wv : IntKind.i64.wrap ((v : Int) * (K : Int)) = (b : Int) := by
        rw [show ((v : Int) * (K : Int)) = ((v * K : Nat) : Int) by push_cast; rfl, ← hb]; exact wrap_nat (by omega)
      have e2 := env2 v
      refine AW.seq fun _ k2 => AW.cond true (by simp [Int.natCast_inj, hlt]) (fun _ => ?_) (fun h => by cases h)
      refine AW.skip ?_
      simp
      refine k2 _ ?_
      refine AW.seq fun _ k2 => ?_
      refine AW.block ?_
      refine AW.seq fun _ k3 => AW.region [] Θ_ok ?_
      simp [hlt]
      refine k3 _ ?_
      refine AW.seq fun _ k3 => ?_
      rw [eo, ew] at eV
      rw [eo, ew] at e2
      have hxv := stepV_len g A E W To K v
      by_cases ho : g.owner[v] = 0
      · by_cases hw : W[b] = 0
        · rw [if_pos ⟨ho, hw⟩] at eV
          refine AW.seq fun _ k4 => AW.region [] Θ_ok ?_
          simp [ho, wv, hvW, hw]
          refine k4 _ ?_
          refine AW.cond false (by simp [Int.natCast_inj, ho, hw]) (fun h => by cases h) (fun _ => ?_)
          refine AW.skip ?_
          simp
          refine k3 _ ?_
          refine AW.seq fun _ k3 => AW.region [] Θ_ok ?_
          simp
          refine k3 _ ?_
          refine AW.block ?_
          refine AW.loopI (X := FoX) (fun s => HN h [s.o] ∧ s.x ≤ K) (fun s => ⟨86, [(11, .ro true (ints W)), (12, .ro true (ints To)), (13, .int .i64 K), (14, cl), (15, .mu s.o (stepN g A E W To K v s.x).length), (16, .int .i64 v), (41, .ro false (ints g.owner)), (42, .int .i64 g.owner.length), (43, .int .i64 v), (59, .int .i64 K), (60, .int .i64 s.x)], HL h [(s.o, obSt (stepN g A E W To K v s.x) s.nn)]⟩) (fun s => K - s.x) ⟨a, 0, nn⟩ ⟨N, Nat.zero_le _⟩ (GStep.eq (by simp [stepN_zero]) (by simp only [stepN_zero]; exact subH.refl _)) ?_
          clear N a nn
          rintro ⟨a, m, nn⟩ ⟨N, hmK⟩
          simp only at N hmK ⊢
          refine AW.seq fun _ k3 => AW.region [] Θ_ok ?_
          simp
          refine k3 _ ?_
          by_cases hlm : m < K
          · have incm := wrap_succ (show m < 9223372036854775807 by omega)
            have hpK : v * K + m < g.owner.length * K := lt v m hlt hlm
            have hpT : v * K + m < To.length := by rw [lT]; exact hpK
            obtain ⟨q, hq, hq3⟩ := e2 m hlt hlm ho hw
            have eq : To[v * K + m] = (q : Int) := by rw [← hq]; simp [fI, hpT]
            have wp : IntKind.i64.wrap ((b : Int) + (m : Int)) = ((v * K + m : Nat) : Int) := by
              rw [show ((b : Int) + (m : Int)) = ((v * K + m : Nat) : Int) by rw [hb]; push_cast; rfl]; exact wrap_nat (by omega)
            have eM := stepN_succ g A E W To K v m
            rw [hq, show ((q : Nat) : Int).toNat = q by omega] at eM
            have sT := sF v m
            rw [thn v m hlt hlm] at sT
            have hlen := stepN_len g A E W To K v m
            have ga := HL.at (h0 := h) (l := [(a, obSt (stepN g A E W To K v m) nn)]) (k := 0) N.nd rfl
            have sn := obSt_snoc (stepN g A E W To K v m) ⟨v, m, (q / K : Nat), (onThen A E v m : Nat)⟩ nn
            rw [← eM] at sn
            have lc := stC_len (stepN g A E W To K v m)
            have lS2 : (stepN g A E W To K v (m + 1)).length = (stepN g A E W To K v m).length + 1 := by rw [eM, List.length_append]; rfl
            obtain ⟨q', hq'⟩ : ∃ q', q' = q / K := ⟨_, rfl⟩
            have wq : IntKind.i64.wrap ((q : Int) / (K : Int)) = (q' : Int) := by
              rw [show ((q : Int) / (K : Int)) = ((q / K : Nat) : Int) by simp, ← hq']
              exact wrap_nat (by have := Nat.div_le_self q K; omega)
            clear eM
            obtain ⟨p, hp⟩ : ∃ p, p = v * K + m := ⟨_, rfl⟩
            simp only [← hp] at eq hpT wp hlen
            rw [← hq'] at sn
            generalize onThen A E v m = t at *
            generalize hS2 : stepN g A E W To K v (m + 1) = S2 at *
            generalize stepN g A E W To K v m = S at *
            have k0' : ¬ (K : Int) = 0 := by omega
            have k0'' : ¬ K = 0 := by omega
            refine AW.seq fun _ k3 => AW.cond true (by simp [Int.natCast_inj, hlm]) (fun _ => ?_) (fun h => by cases h)
            refine AW.skip ?_
            simp
            refine k3 _ ?_
            refine AW.seq fun _ k3 => ?_
            refine AW.block ?_
            refine AW.seq fun _ k4 => AW.region [] Θ_ok ?_
            simp
            refine k4 _ ?_
            refine AW.draw [] 19 [10] Θ_ok mixed (by kernel_rfl) (by kernel_rfl) ?_
            refine vcDraw_split 16 fun B hB => ?_
            simp [vcPre, vcTail, callA, isAlloc, isLoad, effOp, obl, obA, mkOK, valA, hcl, wv, wp, hpT, eq, wq, k0', k0'']
            refine hB _ _ _ ?_
            clear hB B
            refine vcPre_split 1 fun B hB => ?_
            simp [vcPre, vcTail, callA, isAlloc, isLoad, effOp, obl, obA, mkOK, valA]
            refine ⟨_, sT, ?_⟩
            refine hB _ _ _ ?_
            clear hB B
            simp [vcPre, vcTail, callA, isAlloc, isLoad, effOp, obl, obA, mkOK, valA, ga, appendA]
            refine ⟨rfl, ⟨by rw [lc]; exact Nat.le_refl _, by omega, by omega⟩, fun n' hn' => k3 _ ?_⟩
            obtain ⟨he, N'⟩ := HL.ren (A' := obSt S2 true) (k := 0) N rfl hn'
            replace N' : HN h [n'] := N'
            rw [show (⟨List.take (S.length * 4) (stC S) ++ [AV.int IntKind.i64 (v : Int), AV.int IntKind.i64 (m : Int), AV.int IntKind.i64 (q' : Int), AV.int IntKind.i64 (t : Int)], 37, 4, true⟩ : Ob) = obSt S2 true from sn, he]
            refine AW.region [] Θ_ok ?_
            simp
            exact ⟨⟨n', m + 1, true⟩, ⟨N', by simp only; omega⟩, by simp only; omega, GStep.eq (by simp [incm, lS2, hS2, hcl]) (by simp only [hS2]; exact subH.refl _)⟩
          have hmm : m = K := by omega
          subst hmm
          have full := stepN_full (A := A) (E := E) (T := To) (show ow g v = 0 ∧ fI W (v * m) = 0 by rw [eo, ew]; exact ⟨ho, hw⟩)
          refine AW.seq fun _ k3 => AW.cond false (by simp [Int.natCast_inj]) (fun h => by cases h) (fun _ => ?_)
          refine AW.exit ?_
          simp
          refine k2 _ ?_
          refine AW.region [] Θ_ok ?_
          simp
          exact ⟨⟨a, v + 1, nn⟩, ⟨N, by simp only; omega⟩, by simp only; omega, GStep.eq (by simp [inc, full]) (by simp only [full]; exact subH.refl _)⟩
        · rw [if_neg (fun z => hw z.2), List.append_nil] at eV
          refine AW.seq fun _ k4 => AW.region [] Θ_ok ?_
          simp [ho, wv, hvW, hw]
          refine k4 _ ?_
          refine AW.cond true (by simp [Int.natCast_inj, ho, hw]) (fun _ => ?_) (fun h => by cases h)
          refine AW.exit ?_
          simp
          refine k2 _ ?_
          refine AW.region [] Θ_ok ?_
          simp
          exact ⟨⟨a, v + 1, nn⟩, ⟨N, by simp only; omega⟩, by simp only; omega, GStep.eq (by simp [inc, eV]) (subH_of_eq (by rw [eV]))⟩
      · rw [if_neg (fun z => ho z.1), List.append_nil] at eV
        refine AW.seq fun _ k4 => AW.region [] Θ_ok ?_
        simp [ho]
        refine k4 _ ?_
        refine AW.cond true (by simp [Int.natCast_inj, ho]) (fun _ => ?_) (fun h => by cases h)
        refine AW.exit ?_
        simp
        refine k2 _ ?_
        refine AW.region [] Θ_ok ?_
        simp
        exact ⟨⟨a, v + 1, nn⟩, ⟨N, by simp only; omega⟩, by simp only; omega, GStep.eq (by simp [inc, eV]) (subH_of_eq (by rw [eV]))⟩
    have hxx : v = g.owner.length := by omega
    subst hxx
    refine AW.seq fun _ k2 => AW.cond false (by simp [Int.natCast_inj]) (fun h => by cases h) (fun _ => ?_)
    refine AW.exit ?_
    simp
    refine k1 _ ?_
    rw [← eL]
    have ga := HL.at (h0 := h) (l := [(a, obSt L nn)]) (k := 0) N.nd rfl
    have hd := HL.del (h0 := h) (l := [(a, obSt L nn)]) (k := 0) N rfl
    refine AW.seq fun _ kr => AW.region [] Θ_ok ?_
    simp
    refine kr _ ?_
    refine AW.ghost (GStep.slot (t := 6) (v := .mu a L.length) (S := ⟨86, _, HL h [(a, obSt L nn)]⟩) rfl (GV.freeze (n := L.length) (k := false) (xs := avS L) ga (fun e => by cases e) (by simp [avS]) (fun y hy => ?_) ?_)) ?_
    · obtain ⟨s, _, rfl⟩ := List.mem_map.1 hy
      rfl
    · rw [avS_flat]
      exact (List.take_of_length_le (by simp [stC_len])).symm
    rw [hd]
    refine AW.ret ?_
    simp [Try.f25]
    exact Fin.refl ⟨hfin.symm, rfl⟩
  · have hfin : foA g A E = .tup [.nils, .int .i64 (cgErr g A E)] := if_neg hE
    rw [cgA, if_neg hE] at sG
    have hE' : ¬ (0 : Int) = cgErr g A E := fun e => hE e.symm
    generalize cgErr g A E = e at *
    refine AW.seq fun _ k1 => AW.regionAt 4 [8] Θ_ok fun B hB => ?_
    simp
    refine sG.use (by simp [G.av]) ?_
    refine hB _ ?_
    clear hB B
    simp [newA]
    refine fun o ho => k1 _ ?_
    refine AW.box 8 rfl (upd_same _ _ _) ?_
    simp only [updNF _ ho]
    refine AW.seq fun _ k1 => ?_
    refine AW.seq fun _ k2 => AW.region [] Θ_ok ?_
    simp [hE]
    refine k2 _ ?_
    refine AW.cond true (by simp [Int.natCast_inj, hE]) (fun _ => ?_) (fun h => by cases h)
    refine AW.seq fun _ kr => AW.region [] Θ_ok ?_
    simp
    refine kr _ (AW.ret ?_)
    simp [Try.f25]
    exact Fin.refl ⟨hfin.symm, rfl⟩
end Go.Par

set_option linter.unusedSimpArgs false
set_option linter.unusedVariables false
set_option maxRecDepth 8000
set_option maxHeartbeats 1000000
namespace Go.Par
open Go.Proofs

def aw21 : G := ⟨[0, 1], [[0, 1], [0]]⟩
theorem aw21_fits : aw21.fits := ⟨by decide, by decide, by decide⟩
theorem aw21_err : cgErr aw21 [] [[false, true]] = 0 := rfl
theorem aw21_g : cgG aw21 [] [[false, true]] = ⟨[0, 1], [[0, 1], [0]]⟩ := rfl
theorem aw21_p : cgP aw21 [] [[false, true]] = [1, 2] := rfl
theorem aw21_e0 {w : Nat} (h : gE (cgG aw21 [] [[false, true]]) 0 w) : w = 0 ∨ w = 1 := by
  have : (w : Int) ∈ ([0, 1] : List Int) := h
  simp at this; omega
theorem aw21_w : fI (winL (cgG aw21 [] [[false, true]]) (cgP aw21 [] [[false, true]])) 0 = 0 := by
  have ok := cg_pok aw21_err
  exact win_uniq ok (.inl rfl) (T := fun _ => 0) (D := fun v => v = 0) (fun v h => by subst h; decide)
    ⟨fun v hv _ => by subst hv; exact ⟨0, rfl, by show (0 : Int) ∈ ([0, 1] : List Int); simp, rfl⟩, fun v hv e => by subst hv; exact absurd rfl e, fun v hv e => by subst hv; cases e⟩ rfl
theorem aw21_t : fI (toL (cgG aw21 [] [[false, true]]) (cgP aw21 [] [[false, true]])) 0 = 0 := by
  have ok := cg_pok aw21_err
  have sol := solve_sol ok
  have w0 := aw21_w
  obtain ⟨q, q1, q2, q3, q4⟩ := sol.own 0 (by decide) (by rw [w0]; rfl)
  rcases aw21_e0 q2 with e | e
  · rw [q1, e]; rfl
  · exfalso
    subst e
    rw [w0] at q4
    refine sol.circ 1 (by decide) (by rw [q4]; rfl) ?_
    rw [q4]
    have e10 : gE (cgG aw21 [] [[false, true]]) 1 0 := by show (0 : Int) ∈ ([0] : List Int); simp
    refine .cons (w := 0) ⟨by decide, q4, by decide⟩ ⟨e10, fun o => absurd o (by decide)⟩ (.one ⟨by decide, w0, by decide⟩ ⟨by decide, q4, by decide⟩ ⟨q2, fun _ => q1⟩)
theorem aw21_l : foL aw21 [] [[false, true]] = [⟨0, 0, 0, 0⟩] := by
  unfold foL
  have w0 := aw21_w
  have t0 := aw21_t
  generalize winL (cgG aw21 [] [[false, true]]) (cgP aw21 [] [[false, true]]) = W at *
  generalize toL (cgG aw21 [] [[false, true]]) (cgP aw21 [] [[false, true]]) = T at *
  show ([] ++ (if ow aw21 0 = 0 ∧ fI W (0 * 1) = 0 then stepM [] [[false, true]] T 1 0 1 else [])) ++ (if ow aw21 1 = 0 ∧ fI W (1 * 1) = 0 then stepM [] [[false, true]] T 1 1 1 else []) = _
  rw [if_pos ⟨rfl, w0⟩, if_neg (fun z => absurd z.1 (by decide))]
  show [(⟨(0 : Nat), (0 : Nat), ((fI T (0 * 1 + 0)).toNat / 1 : Nat), (onThen [] [[false, true]] 0 0 : Nat)⟩ : S4)] = _
  rw [show fI T (0 * 1 + 0) = 0 from t0]
  rfl

theorem l21_awake : Pure Try.prog 24 [] (.bool true) := by
  have sA := foil_Steps aw21 aw21_fits [] [[false, true]]
  rw [foA, if_pos aw21_err, aw21_l] at sA
  have sT := foil_Then aw21 aw21_fits [] [[]] 0 0
  rw [show foThen aw21 [] [[]] 0 0 = 0 from rfl] at sT
  obtain ⟨l, hl⟩ : ∃ l, l = avS [⟨0, 0, 0, 0⟩] := ⟨_, rfl⟩
  rw [← hl] at sA
  have ll : l.length = 1 := by rw [hl]; rfl
  have l0 : ∀ h, l[0]'h = .agg [.int .i64 0, .int .i64 0, .int .i64 0, .int .i64 0] := by subst hl; exact fun _ => rfl
  clear hl
  intro h
  refine AC.body Θ_ok Try.func24 rfl rfl (Nat.le_of_ble_eq_true rfl) ?_
  refine AW.seq fun _ k1 => AW.region [] Θ_ok ?_
  simp
  refine k1 _ ?_
  refine AW.seq fun _ k1 => AW.region [1] Θ_ok ?_
  simp [newA]
  refine ⟨rfl, fun o ho => k1 _ ?_⟩
  refine AW.box 1 rfl (upd_same _ _ _) ?_
  simp only [updNF _ ho]
  refine AW.seq fun _ k1 => AW.regionAt 4 [] Θ_ok fun B hB' => ?_
  simp
  refine ⟨rfl, ?_⟩
  refine sA.use (by simp [G.av, aw21]) ?_
  refine hB' _ ?_
  clear hB' B
  simp
  refine k1 _ ?_
  refine AW.seq fun _ kr => AW.regionAt 18 [] Θ_ok fun B hB' => ?_
  simp [ll, l0]
  refine sT.use (by simp [G.av, aw21]) ?_
  refine hB' _ ?_
  clear hB' B
  simp
  refine kr _ (AW.ret ?_)
  simp [Try.f24]
  exact Fin.refl ⟨rfl, rfl⟩
end Go.Par
