/- Rows that a way meets: parrylaw19.meets and parrylaw21.meets; keys of three numbers. -/
import Derived.Test.YtaipmknajpbpkaaWpW
import Derived.Test.YtaipmknajpbpkaaWpM
import Derived.Test.YtaipmknajpbpkaaKgA
set_option linter.unusedSimpArgs false
set_option linter.unusedVariables false
set_option maxRecDepth 8000
set_option maxHeartbeats 1000000
namespace Go.Par
open Go.Proofs

theorem law_key3 : WideMaps.KeyLaw Try.prog 49 := deep_law_laid laid_all (m := 3) (by decide) (of_decide_eq_true (by kernel_rfl)) (by kernel_rfl) (by kernel_rfl)
theorem under_three : Try.prog.underlying 49 = some (.array 3 3) := by kernel_rfl
theorem cells_three : Try.prog.cellsOf 49 = 3 := by kernel_rfl
theorem type_three : Try.prog.keyType 49 = true := by kernel_rfl
theorem key3 (a b c : Int) (ha : (Lit.int .i64 a).wf = true) (hb : (Lit.int .i64 b).wf = true) (hc : (Lit.int .i64 c).wf = true) : KeyA Try.prog 49 (.agg ([a, b, c].map (AV.int .i64))) := by
  refine ⟨[a, b, c], intsA_map _, law_key3, ?_⟩
  obtain ⟨d, hd⟩ := types_two
  have hv : (Value.agg #[Value.int .i64 a, Value.int .i64 b, Value.int .i64 c]).cells = #[Value.int .i64 a, Value.int .i64 b, Value.int .i64 c] := rfl
  simp [hv, keyOf, under_three, type_three, Program.keyLits, cells_three, Value.formed, hd, List.range_succ, under_int, cells_int, ha, hb, hc]

theorem l19_meets (rs : List (List Bool)) (hrs : rs.length ≤ 17592186044416) (L : List Nat) (hL : L.length ≤ 17592186044416) : Pure Try.prog 23 [.ro false (bools2 rs), .ro false (ints (nI L))] (.bool (mtB rs L)) := by
  have hno := fun x hx => mtB_no (rs := rs) (L := L) (x := x) hx
  have hyes := mtB_yes (rs := rs) (L := L)
  generalize mtB rs L = res at *
  have lI : (nI L).length = L.length := by simp [nI]
  intro h
  refine AC.body Θ_ok Try.func23 rfl rfl (Nat.le_of_ble_eq_true rfl) ?_
  refine AW.seq fun _ k1 => AW.region [] Θ_ok ?_
  simp
  refine k1 _ ?_
  refine AW.seq fun _ k1 => ?_
  refine AW.seq fun _ k3 => AW.region [] Θ_ok ?_
  simp
  refine k3 _ ?_
  refine AW.block ?_
  refine AW.loopI (X := Nat) (fun x => x ≤ rs.length ∧ ∀ i (hi : i < rs.length), i < x → anV rs[i] L L.length = true) (fun x => ⟨32, [(1, .ro false (ints (nI L))), (10, .ro false (bools2 rs)), (11, .int .i64 rs.length), (12, .int .i64 x)], h⟩) (fun x => rs.length - x) 0 ⟨Nat.zero_le _, fun i hi h => absurd h (Nat.not_lt_zero _)⟩ (GStep.eq (by simp) (subH.refl _)) fun x hx => ?_
  obtain ⟨hx, hg⟩ := hx
  refine AW.seq fun _ k4 => AW.region [] Θ_ok ?_
  simp
  refine k4 _ ?_
  by_cases hlt : x < rs.length
  · have inc := wrap_succ (show x < 9223372036854775807 by omega)
    obtain ⟨r, hr⟩ : ∃ r, rs[x] = r := ⟨_, rfl⟩
    have hnx := hno x hlt
    rw [hr] at hnx
    refine AW.seq fun _ k5 => AW.cond true (by simp [Int.natCast_inj, hlt]) (fun _ => ?_) (fun h => by cases h)
    refine AW.skip ?_
    simp
    refine k5 _ ?_
    refine AW.seq fun _ k6 => ?_
    refine AW.block ?_
    refine AW.seq fun _ k7 => AW.region [] Θ_ok ?_
    simp [hlt, hr]
    refine k7 _ ?_
    refine AW.seq fun _ k8 => AW.region [] Θ_ok ?_
    simp
    refine k8 _ ?_
    refine AW.seq fun _ k9 => ?_
    refine AW.seq fun _ k10 => AW.region [] Θ_ok ?_
    simp
    refine k10 _ ?_
    refine AW.block ?_
    refine AW.loopI (X := Nat) (fun y => y ≤ L.length) (fun y => ⟨32, [(1, .ro false (ints (nI L))), (6, .ro false (bools r)), (7, .bool (anV r L y)), (10, .ro false (bools2 rs)), (11, .int .i64 rs.length), (12, .int .i64 x), (16, .ro false (ints (nI L))), (17, .int .i64 L.length), (18, .int .i64 y)], h⟩) (fun y => L.length - y) 0 (Nat.zero_le _) (GStep.eq (by simp [anV]) (subH.refl _)) fun y hy => ?_
    refine AW.seq fun _ k11 => AW.region [] Θ_ok ?_
    simp
    refine k11 _ ?_
    by_cases hly : y < L.length
    · have incy := wrap_succ (show y < 9223372036854775807 by omega)
      have st := anV_step r L hly
      have hyn : y < (nI L).length := by omega
      obtain ⟨u, hu⟩ : ∃ u, L[y] = u := ⟨_, rfl⟩
      have eL : (nI L)[y] = (u : Int) := by simp [nI, hu]
      rw [hu] at st
      have sI := has_r9 r u
      refine AW.seq fun _ k12 => AW.cond true (by simp [Int.natCast_inj, hly]) (fun _ => ?_) (fun h => by cases h)
      refine AW.skip ?_
      simp
      refine k12 _ ?_
      refine AW.seq fun _ k13 => ?_
      refine AW.block ?_
      refine AW.seq fun _ k14 => AW.region [] Θ_ok ?_
      simp [hly, eL]
      refine k14 _ ?_
      cases hb : anV r L y with
      | true =>
        rw [hb, Bool.true_or] at st
        refine AW.region [] Θ_ok ?_
        simp
        refine k13 _ ?_
        refine AW.region [] Θ_ok ?_
        simp
        exact ⟨y + 1, by omega, by omega, GStep.eq (by simp [incy, st]) (subH.refl _)⟩
      | false =>
        rw [hb, Bool.false_or] at st
        refine AW.regionAt 5 [] Θ_ok fun B hB => ?_
        simp [eL]
        refine sI.use (by simp) ?_
        refine hB _ ?_
        clear hB B
        simp
        refine k13 _ ?_
        refine AW.region [] Θ_ok ?_
        simp
        exact ⟨y + 1, by omega, by omega, GStep.eq (by simp [incy, st]) (subH.refl _)⟩
    · obtain rfl : y = L.length := by omega
      refine AW.seq fun _ k12 => AW.cond false (by simp [Int.natCast_inj]) (fun h => by cases h) (fun _ => ?_)
      refine AW.exit ?_
      simp
      refine k9 _ ?_
      cases hb : anV r L L.length with
      | false =>
        refine AW.seq fun _ k15 => AW.region [] Θ_ok ?_
        simp
        refine k15 _ ?_
        refine AW.cond true (by simp [Int.natCast_inj]) (fun _ => ?_) (fun h => by cases h)
        refine AW.seq fun _ kr => AW.region [] Θ_ok ?_
        simp
        refine kr _ (AW.ret ?_)
        simp [Try.f23]
        exact Fin.refl ⟨by rw [hnx hb], rfl⟩
      | true =>
        refine AW.seq fun _ k15 => AW.region [] Θ_ok ?_
        simp
        refine k15 _ ?_
        refine AW.cond false (by simp [Int.natCast_inj]) (fun h => by cases h) (fun _ => ?_)
        refine AW.skip ?_
        simp
        refine k6 _ ?_
        refine AW.region [] Θ_ok ?_
        simp
        refine ⟨x + 1, ⟨hlt, fun i hi hix => ?_⟩, by omega, GStep.eq (by simp [inc]) (subH.refl _)⟩
        by_cases e : i = x
        · subst e; rw [hr]; exact hb
        · exact hg i hi (by omega)
  · obtain rfl : x = rs.length := by omega
    refine AW.seq fun _ k5 => AW.cond false (by simp [Int.natCast_inj]) (fun h => by cases h) (fun _ => ?_)
    refine AW.exit ?_
    simp
    refine k1 _ ?_
    refine AW.seq fun _ kr => AW.region [] Θ_ok ?_
    simp
    refine kr _ (AW.ret ?_)
    simp [Try.f23]
    exact Fin.refl ⟨by rw [hyes fun i hi => hg i hi hi], rfl⟩

theorem l21_meets (rs : List (List Bool)) (hrs : rs.length ≤ 17592186044416) (L : List Nat) (hL : L.length ≤ 17592186044416) : Pure Try.prog 33 [.ro false (bools2 rs), .ro false (ints (nI L))] (.bool (mtB rs L)) := by
  have hno := fun x hx => mtB_no (rs := rs) (L := L) (x := x) hx
  have hyes := mtB_yes (rs := rs) (L := L)
  generalize mtB rs L = res at *
  have lI : (nI L).length = L.length := by simp [nI]
  intro h
  refine AC.body Θ_ok Try.func33 rfl rfl (Nat.le_of_ble_eq_true rfl) ?_
  refine AW.seq fun _ k1 => AW.region [] Θ_ok ?_
  simp
  refine k1 _ ?_
  refine AW.seq fun _ k1 => ?_
  refine AW.seq fun _ k3 => AW.region [] Θ_ok ?_
  simp
  refine k3 _ ?_
  refine AW.block ?_
  refine AW.loopI (X := Nat) (fun x => x ≤ rs.length ∧ ∀ i (hi : i < rs.length), i < x → anV rs[i] L L.length = true) (fun x => ⟨32, [(1, .ro false (ints (nI L))), (10, .ro false (bools2 rs)), (11, .int .i64 rs.length), (12, .int .i64 x)], h⟩) (fun x => rs.length - x) 0 ⟨Nat.zero_le _, fun i hi h => absurd h (Nat.not_lt_zero _)⟩ (GStep.eq (by simp) (subH.refl _)) fun x hx => ?_
  obtain ⟨hx, hg⟩ := hx
  refine AW.seq fun _ k4 => AW.region [] Θ_ok ?_
  simp
  refine k4 _ ?_
  by_cases hlt : x < rs.length
  · have inc := wrap_succ (show x < 9223372036854775807 by omega)
    obtain ⟨r, hr⟩ : ∃ r, rs[x] = r := ⟨_, rfl⟩
    have hnx := hno x hlt
    rw [hr] at hnx
    refine AW.seq fun _ k5 => AW.cond true (by simp [Int.natCast_inj, hlt]) (fun _ => ?_) (fun h => by cases h)
    refine AW.skip ?_
    simp
    refine k5 _ ?_
    refine AW.seq fun _ k6 => ?_
    refine AW.block ?_
    refine AW.seq fun _ k7 => AW.region [] Θ_ok ?_
    simp [hlt, hr]
    refine k7 _ ?_
    refine AW.seq fun _ k8 => AW.region [] Θ_ok ?_
    simp
    refine k8 _ ?_
    refine AW.seq fun _ k9 => ?_
    refine AW.seq fun _ k10 => AW.region [] Θ_ok ?_
    simp
    refine k10 _ ?_
    refine AW.block ?_
    refine AW.loopI (X := Nat) (fun y => y ≤ L.length) (fun y => ⟨32, [(1, .ro false (ints (nI L))), (6, .ro false (bools r)), (7, .bool (anV r L y)), (10, .ro false (bools2 rs)), (11, .int .i64 rs.length), (12, .int .i64 x), (16, .ro false (ints (nI L))), (17, .int .i64 L.length), (18, .int .i64 y)], h⟩) (fun y => L.length - y) 0 (Nat.zero_le _) (GStep.eq (by simp [anV]) (subH.refl _)) fun y hy => ?_
    refine AW.seq fun _ k11 => AW.region [] Θ_ok ?_
    simp
    refine k11 _ ?_
    by_cases hly : y < L.length
    · have incy := wrap_succ (show y < 9223372036854775807 by omega)
      have st := anV_step r L hly
      have hyn : y < (nI L).length := by omega
      obtain ⟨u, hu⟩ : ∃ u, L[y] = u := ⟨_, rfl⟩
      have eL : (nI L)[y] = (u : Int) := by simp [nI, hu]
      rw [hu] at st
      have sI := has_r9 r u
      refine AW.seq fun _ k12 => AW.cond true (by simp [Int.natCast_inj, hly]) (fun _ => ?_) (fun h => by cases h)
      refine AW.skip ?_
      simp
      refine k12 _ ?_
      refine AW.seq fun _ k13 => ?_
      refine AW.block ?_
      refine AW.seq fun _ k14 => AW.region [] Θ_ok ?_
      simp [hly, eL]
      refine k14 _ ?_
      cases hb : anV r L y with
      | true =>
        rw [hb, Bool.true_or] at st
        refine AW.region [] Θ_ok ?_
        simp
        refine k13 _ ?_
        refine AW.region [] Θ_ok ?_
        simp
        exact ⟨y + 1, by omega, by omega, GStep.eq (by simp [incy, st]) (subH.refl _)⟩
      | false =>
        rw [hb, Bool.false_or] at st
        refine AW.regionAt 5 [] Θ_ok fun B hB => ?_
        simp [eL]
        refine sI.use (by simp) ?_
        refine hB _ ?_
        clear hB B
        simp
        refine k13 _ ?_
        refine AW.region [] Θ_ok ?_
        simp
        exact ⟨y + 1, by omega, by omega, GStep.eq (by simp [incy, st]) (subH.refl _)⟩
    · obtain rfl : y = L.length := by omega
      refine AW.seq fun _ k12 => AW.cond false (by simp [Int.natCast_inj]) (fun h => by cases h) (fun _ => ?_)
      refine AW.exit ?_
      simp
      refine k9 _ ?_
      cases hb : anV r L L.length with
      | false =>
        refine AW.seq fun _ k15 => AW.region [] Θ_ok ?_
        simp
        refine k15 _ ?_
        refine AW.cond true (by simp [Int.natCast_inj]) (fun _ => ?_) (fun h => by cases h)
        refine AW.seq fun _ kr => AW.region [] Θ_ok ?_
        simp
        refine kr _ (AW.ret ?_)
        simp [Try.f33]
        exact Fin.refl ⟨by rw [hnx hb], rfl⟩
      | true =>
        refine AW.seq fun _ k15 => AW.region [] Θ_ok ?_
        simp
        refine k15 _ ?_
        refine AW.cond false (by simp [Int.natCast_inj]) (fun h => by cases h) (fun _ => ?_)
        refine AW.skip ?_
        simp
        refine k6 _ ?_
        refine AW.region [] Θ_ok ?_
        simp
        refine ⟨x + 1, ⟨hlt, fun i hi hix => ?_⟩, by omega, GStep.eq (by simp [inc]) (subH.refl _)⟩
        by_cases e : i = x
        · subst e; rw [hr]; exact hb
        · exact hg i hi (by omega)
  · obtain rfl : x = rs.length := by omega
    refine AW.seq fun _ k5 => AW.cond false (by simp [Int.natCast_inj]) (fun h => by cases h) (fun _ => ?_)
    refine AW.exit ?_
    simp
    refine k1 _ ?_
    refine AW.seq fun _ kr => AW.region [] Θ_ok ?_
    simp
    refine kr _ (AW.ret ?_)
    simp [Try.f33]
    exact Fin.refl ⟨by rw [hyes fun i hi => hg i hi hi], rfl⟩
end Go.Par
