/- parrylaw21.spread, all; rows of the play. -/
import Derived.Test.YtaipmknajpbpkaaFoD
import Derived.Test.YtaipmknajpbpkaaFoC
set_option linter.unusedSimpArgs false
set_option linter.unusedVariables false
set_option maxRecDepth 8000
set_option maxHeartbeats 2000000
namespace Go.Par
open Go.Proofs

theorem l21_all (n : Nat) (hn : n ≤ 100000) : Pure Try.prog 29 [.int .i64 n] (.ro true (bools (tab n fun _ => true))) := by
  intro h
  refine AC.body Θ_ok Try.func29 rfl rfl (Nat.le_of_ble_eq_true rfl) ?_
  refine AW.seq fun _ k1 => AW.region [] Θ_ok ?_
  simp
  refine k1 _ ?_
  refine AW.seq fun _ k1 => AW.region [6] Θ_ok ?_
  simp
  refine ⟨by omega, fun o ho => k1 _ ?_⟩
  rw [replicate_tab, flat_tab (fun _ _ => rfl)]
  refine AW.seq fun _ k1 => ?_
  refine AW.seq fun _ k2 => AW.region [] Θ_ok ?_
  simp
  refine k2 _ ?_
  refine AW.block ?_
  refine AW.loopI (X := Nat) (fun x => x ≤ n) (fun x => ⟨17, [(3, .mu o n), (8, .int .i64 n), (9, .int .i64 x)], upd h o (some ⟨tab n fun i => .bool (decide (i < x)), 4, 1, true⟩)⟩) (fun x => n - x) 0 (Nat.zero_le _) (GStep.eq (by simp) ?_) fun x hx => ?_
  · simp; exact subH.refl _
  refine AW.seq fun _ k2 => AW.region [] Θ_ok ?_
  simp
  refine k2 _ ?_
  by_cases hlt : x < n
  · have inc := wrap_succ (show x < 9223372036854775807 by omega)
    have hset : (tab n fun i => AV.bool (decide (i < x))).set x (.bool true) = tab n fun i => .bool (decide (i < x + 1)) := by
      rw [set_tab]
      refine tab_congr fun i hi => ?_
      by_cases e : i = x
      · subst e; simp
      · by_cases h1 : i < x
        · simp [e, h1, show i < x + 1 by omega]
        · simp [e, h1, show ¬ i < x + 1 by omega]
    refine AW.seq fun _ k2 => AW.cond true (by simp [Int.natCast_inj, hlt]) (fun _ => ?_) (fun h => by cases h)
    refine AW.skip ?_
    simp
    refine k2 _ ?_
    refine AW.seq fun _ k2 => ?_
    refine AW.block ?_
    refine AW.seq fun _ k3 => AW.region [] Θ_ok ?_
    simp
    refine k3 _ ?_
    refine AW.region [] Θ_ok ?_
    simp [hlt]
    refine ⟨by omega, k2 _ ?_⟩
    refine AW.region [] Θ_ok ?_
    simp
    exact ⟨x + 1, by omega, by omega, GStep.eq (by simp [inc]) (subH_of_eq (congrArg (fun c => upd h o (some ⟨c, 4, 1, true⟩)) hset))⟩
  obtain rfl : x = n := by omega
  refine AW.seq fun _ k2 => AW.cond false (by simp [Int.natCast_inj]) (fun h => by cases h) (fun _ => ?_)
  refine AW.exit ?_
  simp
  refine k1 _ ?_
  refine AW.seq fun _ kr => AW.region [] Θ_ok ?_
  simp
  refine kr _ (AW.ret ?_)
  simp [Try.f29]
  refine Fin.freeze (k := true) (upd_same _ _ _) (fun _ => rfl) rfl (by simp) (ones_bools _ _) h (by simp [upd_none_id ho]; exact subH.refl _) ⟨?_, rfl⟩
  simp only [bools, map_tab]
  congr 1
  exact tab_congr fun i hi => by simp [hi]

theorem l21_spread (r : List Bool) (n K : Nat) (hn : n ≤ 3000) (hK : K ≤ 16) (k0 : 0 < K) : Pure Try.prog 28 [.ro false (bools r), .int .i64 n, .int .i64 K] (.ro true (bools (sprL (n * K) K r))) := by
  have hNK : n * K ≤ 3000 * 16 := Nat.mul_le_mul hn hK
  obtain ⟨N, hN⟩ : ∃ N, N = n * K := ⟨_, rfl⟩
  have wN : IntKind.i64.wrap ((n : Int) * (K : Int)) = (N : Int) := by rw [hN, ← Int.natCast_mul]; exact wrap_nat (by omega)
  rw [← hN] at hNK ⊢
  have k1' : ¬ (K : Int) = 0 := by omega
  have k2' : ¬ K = 0 := by omega
  intro h
  refine AC.body Θ_ok Try.func28 rfl rfl (Nat.le_of_ble_eq_true rfl) ?_
  refine AW.seq fun _ k1 => AW.region [] Θ_ok ?_
  simp
  refine k1 _ ?_
  refine AW.seq fun _ k1 => AW.region [12] Θ_ok ?_
  simp [wN]
  refine ⟨by omega, fun o ho => k1 _ ?_⟩
  rw [replicate_tab, flat_tab (fun _ _ => rfl)]
  refine AW.seq fun _ k1 => ?_
  refine AW.seq fun _ k2 => AW.region [] Θ_ok ?_
  simp
  refine k2 _ ?_
  refine AW.block ?_
  refine AW.loopI (X := Nat) (fun x => x ≤ N) (fun x => ⟨37, [(0, .ro false (bools r)), (2, .int .i64 K), (7, .mu o N), (14, .int .i64 N), (15, .int .i64 x)], upd h o (some ⟨tab N fun i => .bool (decide (i < x) && hasN r (i / K)), 4, 1, true⟩)⟩) (fun x => N - x) 0 (Nat.zero_le _) (GStep.eq (by simp) ?_) fun x hx => ?_
  · simp; exact subH.refl _
  refine AW.seq fun _ k2 => AW.region [] Θ_ok ?_
  simp
  refine k2 _ ?_
  by_cases hlt : x < N
  · have inc := wrap_succ (show x < 9223372036854775807 by omega)
    have hset : (tab N fun i => AV.bool (decide (i < x) && hasN r (i / K))).set x (.bool (hasN r (x / K))) = tab N fun i => .bool (decide (i < x + 1) && hasN r (i / K)) := by
      rw [set_tab]
      refine tab_congr fun i hi => ?_
      by_cases e : i = x
      · subst e; simp
      · by_cases h1 : i < x
        · simp [e, h1, show i < x + 1 by omega]
        · simp [e, h1, show ¬ i < x + 1 by omega]
    obtain ⟨d, hd⟩ : ∃ d, d = x / K := ⟨_, rfl⟩
    have hdx : d ≤ x := by rw [hd]; exact Nat.div_le_self _ _
    have wd : IntKind.i64.wrap ((x : Int) / (K : Int)) = (d : Int) := by rw [hd, ← Int.natCast_ediv]; exact wrap_nat (by rw [← hd]; omega)
    have wd2 : IntKind.i64.wrap ((x : Int).tdiv (K : Int)) = (d : Int) := by rw [Int.tdiv_eq_ediv_of_nonneg (by omega)]; exact wd
    rw [← hd] at hset
    refine AW.seq fun _ k2 => AW.cond true (by simp [Int.natCast_inj, hlt]) (fun _ => ?_) (fun h => by cases h)
    refine AW.skip ?_
    simp
    refine k2 _ ?_
    refine AW.seq fun _ k2 => ?_
    refine AW.block ?_
    refine AW.seq fun _ k3 => AW.region [] Θ_ok ?_
    simp
    refine k3 _ ?_
    by_cases hdr : d < r.length
    · have e : hasN r d = r[d] := by simp [hasN, hdr]
      rw [e] at hset
      refine AW.region [] Θ_ok ?_
      simp [hlt, wd, wd2, k1', k2', hdr]
      refine ⟨by omega, k2 _ ?_⟩
      refine AW.region [] Θ_ok ?_
      simp
      exact ⟨x + 1, by omega, by omega, GStep.eq (by simp [inc]) (subH_of_eq (congrArg (fun c => upd h o (some ⟨c, 4, 1, true⟩)) hset))⟩
    · have e : hasN r d = false := by simp [hasN, Nat.le_of_not_lt hdr]
      rw [e] at hset
      refine AW.region [] Θ_ok ?_
      simp [hlt, wd, wd2, k1', k2', hdr]
      refine ⟨by omega, k2 _ ?_⟩
      refine AW.region [] Θ_ok ?_
      simp
      exact ⟨x + 1, by omega, by omega, GStep.eq (by simp [inc]) (subH_of_eq (congrArg (fun c => upd h o (some ⟨c, 4, 1, true⟩)) hset))⟩
  obtain rfl : x = N := by omega
  refine AW.seq fun _ k2 => AW.cond false (by simp [Int.natCast_inj]) (fun h => by cases h) (fun _ => ?_)
  refine AW.exit ?_
  simp
  refine k1 _ ?_
  refine AW.seq fun _ kr => AW.region [] Θ_ok ?_
  simp
  refine kr _ (AW.ret ?_)
  simp [Try.f28]
  refine Fin.freeze (k := true) (upd_same _ _ _) (fun _ => rfl) rfl (by simp) (ones_bools _ _) h (by simp [upd_none_id ho]; exact subH.refl _) ⟨?_, rfl⟩
  simp only [bools, sprL, map_tab]
  congr 1
  exact tab_congr fun i hi => by simp [hi]
end Go.Par
