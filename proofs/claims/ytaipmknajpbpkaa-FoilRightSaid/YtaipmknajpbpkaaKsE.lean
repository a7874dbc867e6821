/- parryref9: full, without, mayNext, meets, Fair, Unfair. -/
import Derived.Test.YtaipmknajpbpkaaKsD
import Derived.Test.YtaipmknajpbpkaaGrC
set_option linter.unusedSimpArgs false
set_option linter.unusedVariables false
set_option maxRecDepth 8000
set_option maxHeartbeats 4000000
namespace Go.Par
open Go.Proofs

def fullL (next : List (List Int)) : List Bool := tab next.length fun _ => true
def wiL (next : List (List Int)) (r : List Bool) : List Bool := tab next.length fun v => !hasN r v

theorem r9_full (next : List (List Int)) (ok : BigOk next) : Pure Try.prog 61 [.ro false (rows next)] (.ro true (bools (fullL next))) := by
  have hl := ok.len
  intro h
  refine AC.body Θ_ok Try.func61 rfl rfl (Nat.le_of_ble_eq_true rfl) ?_
  refine AW.seq fun _ k1 => AW.region [] Θ_ok ?_
  simp
  refine k1 _ ?_
  refine AW.seq fun _ k1 => AW.region [7] Θ_ok ?_
  simp
  refine ⟨by omega, fun o ho => k1 _ ?_⟩
  rw [replicate_tab, flat_tab (fun _ _ => rfl)]
  refine AW.seq fun _ k1 => ?_
  refine AW.seq fun _ k2 => AW.region [] Θ_ok ?_
  simp
  refine k2 _ ?_
  refine AW.block ?_
  refine AW.loopI (X := Nat) (fun x => x ≤ next.length) (fun x => ⟨18, [(3, .mu o next.length), (9, .int .i64 next.length), (10, .int .i64 x)], upd h o (some ⟨tab next.length fun i => .bool (decide (i < x)), 4, 1, true⟩)⟩) (fun x => next.length - x) 0 (Nat.zero_le _) (GStep.eq (by simp) ?_) fun x hx => ?_
  · simp; exact subH.refl _
  refine AW.seq fun _ k2 => AW.region [] Θ_ok ?_
  simp
  refine k2 _ ?_
  by_cases hlt : x < next.length
  · have inc := wrap_succ (show x < 9223372036854775807 by omega)
    have hset : (tab next.length fun i => AV.bool (decide (i < x))).set x (.bool true) = tab next.length fun i => .bool (decide (i < x + 1)) := by
      rw [set_tab]
      refine tab_congr fun i hi => ?_
      by_cases e : i = x
      · subst e; simp
      · by_cases h1 : i < x
        · simp [e, h1, show i < x + 1 by omega]
        · simp [e, h1, show ¬ i < x + 1 by omega]
    refine AW.seq fun _ k2 => AW.cond true (by simp [Int.natCast_inj, hlt]) (fun _ => ?_) (fun h => by cases h)
    refine AW.skip ?_
    simp
    refine k2 _ ?_
    refine AW.seq fun _ k2 => ?_
    refine AW.block ?_
    refine AW.seq fun _ k3 => AW.region [] Θ_ok ?_
    simp
    refine k3 _ ?_
    refine AW.region [] Θ_ok ?_
    simp [hlt]
    refine ⟨by omega, k2 _ ?_⟩
    refine AW.region [] Θ_ok ?_
    simp
    exact ⟨x + 1, by omega, by omega, GStep.eq (by simp [inc]) (subH_of_eq (congrArg (fun c => upd h o (some ⟨c, 4, 1, true⟩)) hset))⟩
  obtain rfl : x = next.length := by omega
  refine AW.seq fun _ k2 => AW.cond false (by simp [Int.natCast_inj]) (fun h => by cases h) (fun _ => ?_)
  refine AW.exit ?_
  simp
  refine k1 _ ?_
  refine AW.seq fun _ kr => AW.region [] Θ_ok ?_
  simp
  refine kr _ (AW.ret ?_)
  simp [Try.f61]
  refine Fin.freeze (k := true) (upd_same _ _ _) (fun _ => rfl) rfl (by simp) (ones_bools _ _) h (by simp [upd_none_id ho]; exact subH.refl _) ⟨?_, rfl⟩
  simp only [bools, fullL, map_tab]
  congr 1
  exact tab_congr fun i hi => by simp [hi]

theorem r9_without (next : List (List Int)) (ok : BigOk next) (r : List Bool) : Pure Try.prog 53 [.ro false (rows next), .ro false (bools r)] (.ro true (bools (wiL next r))) := by
  have hl := ok.len
  intro h
  refine AC.body Θ_ok Try.func53 rfl rfl (Nat.le_of_ble_eq_true rfl) ?_
  refine AW.seq fun _ k1 => AW.region [] Θ_ok ?_
  simp
  refine k1 _ ?_
  refine AW.seq fun _ k1 => AW.region [9] Θ_ok ?_
  simp
  refine ⟨by omega, fun o ho => k1 _ ?_⟩
  rw [replicate_tab, flat_tab (fun _ _ => rfl)]
  refine AW.seq fun _ k1 => ?_
  refine AW.seq fun _ k2 => AW.region [] Θ_ok ?_
  simp
  refine k2 _ ?_
  refine AW.block ?_
  refine AW.loopI (X := Nat) (fun x => x ≤ next.length) (fun x => ⟨24, [(1, .ro false (bools r)), (5, .mu o next.length), (11, .int .i64 next.length), (12, .int .i64 x)], upd h o (some ⟨tab next.length fun i => .bool (decide (i < x) && !hasN r i), 4, 1, true⟩)⟩) (fun x => next.length - x) 0 (Nat.zero_le _) (GStep.eq (by simp) ?_) fun x hx => ?_
  · simp; exact subH.refl _
  refine AW.seq fun _ k2 => AW.region [] Θ_ok ?_
  simp
  refine k2 _ ?_
  by_cases hlt : x < next.length
  · have inc := wrap_succ (show x < 9223372036854775807 by omega)
    have sA := has_r9 r x
    have hset : (tab next.length fun i => AV.bool (decide (i < x) && !hasN r i)).set x (.bool (!hasN r x)) = tab next.length fun i => .bool (decide (i < x + 1) && !hasN r i) := by
      rw [set_tab]
      refine tab_congr fun i hi => ?_
      by_cases e : i = x
      · subst e; simp
      · by_cases h1 : i < x
        · simp [e, h1, show i < x + 1 by omega]
        · simp [e, h1, show ¬ i < x + 1 by omega]
    generalize hasN r x = b at sA hset
    refine AW.seq fun _ k2 => AW.cond true (by simp [Int.natCast_inj, hlt]) (fun _ => ?_) (fun h => by cases h)
    refine AW.skip ?_
    simp
    refine k2 _ ?_
    refine AW.seq fun _ k2 => ?_
    refine AW.block ?_
    refine AW.seq fun _ k3 => AW.region [] Θ_ok ?_
    simp
    refine k3 _ ?_
    refine AW.regionAt 5 [] Θ_ok fun B hB => ?_
    simp
    refine sA.use (by simp) ?_
    refine hB _ ?_
    clear hB B
    simp [hlt]
    refine ⟨by omega, k2 _ ?_⟩
    refine AW.region [] Θ_ok ?_
    simp
    exact ⟨x + 1, by omega, by omega, GStep.eq (by simp [inc]) (subH_of_eq (congrArg (fun c => upd h o (some ⟨c, 4, 1, true⟩)) hset))⟩
  obtain rfl : x = next.length := by omega
  refine AW.seq fun _ k2 => AW.cond false (by simp [Int.natCast_inj]) (fun h => by cases h) (fun _ => ?_)
  refine AW.exit ?_
  simp
  refine k1 _ ?_
  refine AW.seq fun _ kr => AW.region [] Θ_ok ?_
  simp
  refine kr _ (AW.ret ?_)
  simp [Try.f53]
  refine Fin.freeze (k := true) (upd_same _ _ _) (fun _ => rfl) rfl (by simp) (ones_bools _ _) h (by simp [upd_none_id ho]; exact subH.refl _) ⟨?_, rfl⟩
  simp only [bools, wiL, map_tab]
  congr 1
  exact tab_congr fun i hi => by simp [hi]

theorem r9_mayNext (next : List (List Int)) (ok : BigOk next) : Pure Try.prog 51 [.ro false (rows next)] (.bool true) := by
  have hl := ok.len
  have c1 : ¬ (12000 : Int) < next.length := by omega
  have c2 : (next.length : Int) ≤ 12000 := by omega
  intro h
  refine AC.body Θ_ok Try.func51 rfl rfl (Nat.le_of_ble_eq_true rfl) ?_
  refine AW.seq fun _ k1 => AW.region [] Θ_ok ?_
  simp
  refine k1 _ ?_
  refine AW.seq fun _ k2 => ?_
  refine AW.seq fun _ k3 => AW.region [] Θ_ok ?_
  simp [c1, c2]
  refine k3 _ ?_
  refine AW.cond false (by simp [Int.natCast_inj]) (fun h => by cases h) (fun _ => ?_)
  refine AW.skip ?_
  simp
  refine k2 _ ?_
  refine AW.seq fun _ k4 => ?_
  refine AW.seq fun _ k5 => AW.region [] Θ_ok ?_
  simp
  refine k5 _ ?_
  refine AW.block ?_
  refine AW.loopI (X := Nat) (fun x => x ≤ next.length) (fun x => ⟨32, [(0, .ro false (rows next)), (10, .ro false (rows next)), (11, .int .i64 next.length), (12, .int .i64 x)], h⟩) (fun x => next.length - x) 0 (Nat.zero_le _) (GStep.eq (by simp) (subH.refl _)) fun x hx => ?_
  refine AW.seq fun _ k6 => AW.region [] Θ_ok ?_
  simp
  refine k6 _ ?_
  by_cases hlt : x < next.length
  · have inc := wrap_succ (show x < 9223372036854775807 by omega)
    have hr := ok.row _ (List.getElem_mem hlt)
    refine AW.seq fun _ k7 => AW.cond true (by simp [Int.natCast_inj, hlt]) (fun _ => ?_) (fun h => by cases h)
    refine AW.skip ?_
    simp
    refine k7 _ ?_
    refine AW.seq fun _ k8 => ?_
    refine AW.block ?_
    refine AW.seq fun _ k9 => AW.region [] Θ_ok ?_
    simp [hlt]
    refine k9 _ ?_
    refine AW.seq fun _ k10 => AW.region [] Θ_ok ?_
    simp
    refine k10 _ ?_
    refine AW.block ?_
    refine AW.loopI (X := Nat) (fun y => y ≤ next[x].length) (fun y => ⟨32, [(0, .ro false (rows next)), (10, .ro false (rows next)), (11, .int .i64 next.length), (12, .int .i64 x), (16, .ro false (ints next[x])), (17, .int .i64 next[x].length), (18, .int .i64 y)], h⟩) (fun y => next[x].length - y) 0 (Nat.zero_le _) (GStep.eq (by simp) (subH.refl _)) fun y hy => ?_
    refine AW.seq fun _ k11 => AW.region [] Θ_ok ?_
    simp
    refine k11 _ ?_
    by_cases hly : y < next[x].length
    · have incy := wrap_succ (show y < 9223372036854775807 by omega)
      obtain ⟨b0, b1⟩ := ok.lt _ (List.getElem_mem hlt) _ (List.getElem_mem hly)
      refine AW.seq fun _ k12 => AW.cond true (by simp [Int.natCast_inj, hly]) (fun _ => ?_) (fun h => by cases h)
      refine AW.skip ?_
      simp
      refine k12 _ ?_
      refine AW.seq fun _ k13 => ?_
      refine AW.block ?_
      refine AW.seq fun _ k14 => AW.region [] Θ_ok ?_
      simp [hly]
      refine k14 _ ?_
      refine AW.seq fun _ k15 => AW.region [] Θ_ok ?_
      simp [Int.not_lt.2 b0, b0, Int.not_le.2 b1, b1]
      refine k15 _ ?_
      refine AW.cond false (by simp [Int.natCast_inj]) (fun h => by cases h) (fun _ => ?_)
      refine AW.skip ?_
      simp
      refine k13 _ ?_
      refine AW.region [] Θ_ok ?_
      simp
      exact ⟨y + 1, by omega, by omega, GStep.eq (by simp [incy]) (subH.refl _)⟩
    · obtain rfl : y = next[x].length := by omega
      refine AW.seq fun _ k12 => AW.cond false (by simp [Int.natCast_inj]) (fun h => by cases h) (fun _ => ?_)
      refine AW.exit ?_
      simp
      refine k8 _ ?_
      refine AW.region [] Θ_ok ?_
      simp
      exact ⟨x + 1, by omega, by omega, GStep.eq (by simp [inc]) (subH.refl _)⟩
  · obtain rfl : x = next.length := by omega
    refine AW.seq fun _ k7 => AW.cond false (by simp [Int.natCast_inj]) (fun h => by cases h) (fun _ => ?_)
    refine AW.exit ?_
    simp
    refine k4 _ ?_
    refine AW.seq fun _ kr => AW.region [] Θ_ok ?_
    simp
    refine kr _ (AW.ret ?_)
    simp [Try.f51]
    exact Fin.refl ⟨rfl, rfl⟩
end Go.Par
