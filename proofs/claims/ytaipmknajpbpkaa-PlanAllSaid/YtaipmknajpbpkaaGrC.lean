import Derived.Test.YtaipmknajpbpkaaGrB
set_option linter.unusedSimpArgs false
set_option linter.unusedVariables false
set_option maxRecDepth 8000
namespace Go.Par
open Go.Proofs

def rowL (g : G) (l : List Bool) : List Bool := tab g.owner.length (hasN l)
def r9andL (a b : List Bool) : List Bool := tab a.length fun v => hasN a v && hasN b v
def r9orL (a b : List Bool) : List Bool := tab a.length fun v => hasN a v || hasN b v

theorem r9_not (g : G) (hb : g.owner.length ≤ 17592186044416) (l : List Bool) : Pure Try.prog 42 [g.av, .ro false (bools l)] (.ro true (bools (notL g l))) := by
  have hn' : g.owner.length ≤ 1152921504606846976 := by omega
  intro h
  refine AC.body Θ_ok Try.func42 rfl rfl (Nat.le_of_ble_eq_true rfl) ?_
  refine AW.seq fun _ k1 => AW.region [] Θ_ok ?_
  simp
  refine k1 _ ?_
  refine AW.seq fun _ k1 => AW.region [10] Θ_ok ?_
  simp
  refine ⟨by omega, fun o ho => k1 _ ?_⟩
  rw [replicate_tab, flat_tab (fun _ _ => rfl)]
  refine AW.seq fun _ k1 => ?_
  refine AW.seq fun _ k2 => AW.region [] Θ_ok ?_
  simp
  refine k2 _ ?_
  refine AW.block ?_
  refine AW.loopI (X := Nat) (fun x => x ≤ g.owner.length) (fun x => ⟨25, [(13, .int .i64 x), (12, .int .i64 g.owner.length), (5, .mu o g.owner.length), (1, .ro false (bools l))], upd h o (some ⟨tab g.owner.length fun i => .bool (decide (i < x) && !hasN l i), 4, 1, true⟩)⟩) (fun x => g.owner.length - x) 0 (Nat.zero_le _) (GStep.eq (by simp) ?_) fun x hx => ?_
  · simp; exact subH.refl _
  refine AW.seq fun _ k2 => AW.region [] Θ_ok ?_
  simp
  refine k2 _ ?_
  by_cases hlt : x < g.owner.length
  · have inc := wrap_succ (show x < 9223372036854775807 by omega)
    have ea : (decide (0 ≤ (x : Int)) && hasI l (x : Int)) = hasN l x := by simp
    have sa := r9_Has l x
    rw [ea] at sa
    have hset : (tab g.owner.length fun i => AV.bool (decide (i < x) && !hasN l i)).set x (.bool (!hasN l x)) = tab g.owner.length fun i => .bool (decide (i < x + 1) && !hasN l i) := by
      rw [set_tab]
      refine tab_congr fun i hi => ?_
      by_cases e : i = x
      · subst e; simp
      · by_cases h1 : i < x
        · simp [e, h1, show i < x + 1 by omega]
        · simp [e, h1, show ¬ i < x + 1 by omega]
    refine AW.seq fun _ k2 => AW.cond true (by simp [Int.natCast_inj, hlt]) (fun _ => ?_) (fun h => by cases h)
    refine AW.skip ?_
    simp
    refine k2 _ ?_
    refine AW.seq fun _ k2 => ?_
    refine AW.block ?_
    refine AW.seq fun _ k3 => AW.region [] Θ_ok ?_
    simp
    refine k3 _ ?_
    refine AW.regionAt 5 [] Θ_ok fun B hB => ?_
    simp
    refine sa.use (by simp) ?_
    generalize hasN l x = v at *
    refine hB _ ?_
    clear hB B
    simp [hlt]
    refine ⟨by omega, k2 _ ?_⟩
    refine AW.region [] Θ_ok ?_
    simp
    exact ⟨x + 1, by omega, by omega, GStep.eq (by simp [inc]) (subH_of_eq (congrArg (fun c => upd h o (some ⟨c, 4, 1, true⟩)) hset))⟩
  obtain rfl : x = g.owner.length := by omega
  refine AW.seq fun _ k2 => AW.cond false (by simp [Int.natCast_inj]) (fun h => by cases h) (fun _ => ?_)
  refine AW.exit ?_
  simp
  refine k1 _ ?_
  refine AW.seq fun _ kr => AW.region [] Θ_ok ?_
  simp
  refine kr _ (AW.ret ?_)
  simp [Try.f42]
  refine Fin.freeze (k := true) (upd_same _ _ _) (fun _ => rfl) rfl (by simp) (ones_bools _ _) h (by simp [upd_none_id ho]; exact subH.refl _) ⟨?_, rfl⟩
  simp only [bools, notL, map_tab]
  congr 1
  exact tab_congr fun i hi => by simp [hi]

theorem r9_Row (g : G) (hb : g.owner.length ≤ 17592186044416) (l : List Bool) : Pure Try.prog 46 [g.av, .ro false (bools l)] (.ro true (bools (rowL g l))) := by
  have hn' : g.owner.length ≤ 1152921504606846976 := by omega
  intro h
  refine AC.body Θ_ok Try.func46 rfl rfl (Nat.le_of_ble_eq_true rfl) ?_
  refine AW.seq fun _ k1 => AW.region [] Θ_ok ?_
  simp
  refine k1 _ ?_
  refine AW.seq fun _ k1 => AW.region [10] Θ_ok ?_
  simp
  refine ⟨by omega, fun o ho => k1 _ ?_⟩
  rw [replicate_tab, flat_tab (fun _ _ => rfl)]
  refine AW.seq fun _ k1 => ?_
  refine AW.seq fun _ k2 => AW.region [] Θ_ok ?_
  simp
  refine k2 _ ?_
  refine AW.block ?_
  refine AW.loopI (X := Nat) (fun x => x ≤ g.owner.length) (fun x => ⟨24, [(13, .int .i64 x), (12, .int .i64 g.owner.length), (5, .mu o g.owner.length), (1, .ro false (bools l))], upd h o (some ⟨tab g.owner.length fun i => .bool (decide (i < x) && hasN l i), 4, 1, true⟩)⟩) (fun x => g.owner.length - x) 0 (Nat.zero_le _) (GStep.eq (by simp) ?_) fun x hx => ?_
  · simp; exact subH.refl _
  refine AW.seq fun _ k2 => AW.region [] Θ_ok ?_
  simp
  refine k2 _ ?_
  by_cases hlt : x < g.owner.length
  · have inc := wrap_succ (show x < 9223372036854775807 by omega)
    have ea : (decide (0 ≤ (x : Int)) && hasI l (x : Int)) = hasN l x := by simp
    have sa := r9_Has l x
    rw [ea] at sa
    have hset : (tab g.owner.length fun i => AV.bool (decide (i < x) && hasN l i)).set x (.bool (hasN l x)) = tab g.owner.length fun i => .bool (decide (i < x + 1) && hasN l i) := by
      rw [set_tab]
      refine tab_congr fun i hi => ?_
      by_cases e : i = x
      · subst e; simp
      · by_cases h1 : i < x
        · simp [e, h1, show i < x + 1 by omega]
        · simp [e, h1, show ¬ i < x + 1 by omega]
    refine AW.seq fun _ k2 => AW.cond true (by simp [Int.natCast_inj, hlt]) (fun _ => ?_) (fun h => by cases h)
    refine AW.skip ?_
    simp
    refine k2 _ ?_
    refine AW.seq fun _ k2 => ?_
    refine AW.block ?_
    refine AW.seq fun _ k3 => AW.region [] Θ_ok ?_
    simp
    refine k3 _ ?_
    refine AW.regionAt 5 [] Θ_ok fun B hB => ?_
    simp
    refine sa.use (by simp) ?_
    generalize hasN l x = v at *
    refine hB _ ?_
    clear hB B
    simp [hlt]
    refine ⟨by omega, k2 _ ?_⟩
    refine AW.region [] Θ_ok ?_
    simp
    exact ⟨x + 1, by omega, by omega, GStep.eq (by simp [inc]) (subH_of_eq (congrArg (fun c => upd h o (some ⟨c, 4, 1, true⟩)) hset))⟩
  obtain rfl : x = g.owner.length := by omega
  refine AW.seq fun _ k2 => AW.cond false (by simp [Int.natCast_inj]) (fun h => by cases h) (fun _ => ?_)
  refine AW.exit ?_
  simp
  refine k1 _ ?_
  refine AW.seq fun _ kr => AW.region [] Θ_ok ?_
  simp
  refine kr _ (AW.ret ?_)
  simp [Try.f46]
  refine Fin.freeze (k := true) (upd_same _ _ _) (fun _ => rfl) rfl (by simp) (ones_bools _ _) h (by simp [upd_none_id ho]; exact subH.refl _) ⟨?_, rfl⟩
  simp only [bools, rowL, map_tab]
  congr 1
  exact tab_congr fun i hi => by simp [hi]

theorem r9_and (a l : List Bool) (hb : a.length ≤ 17592186044416) : Pure Try.prog 45 [.ro false (bools a), .ro false (bools l)] (.ro true (bools (r9andL a l))) := by
  have hn' : a.length ≤ 1152921504606846976 := by omega
  intro h
  refine AC.body Θ_ok Try.func45 rfl rfl (Nat.le_of_ble_eq_true rfl) ?_
  refine AW.seq fun _ k1 => AW.region [] Θ_ok ?_
  simp
  refine k1 _ ?_
  refine AW.seq fun _ k1 => AW.region [9] Θ_ok ?_
  simp
  refine ⟨by omega, fun o ho => k1 _ ?_⟩
  rw [replicate_tab, flat_tab (fun _ _ => rfl)]
  refine AW.seq fun _ k1 => ?_
  refine AW.seq fun _ k2 => AW.region [] Θ_ok ?_
  simp
  refine k2 _ ?_
  refine AW.block ?_
  refine AW.loopI (X := Nat) (fun x => x ≤ a.length) (fun x => ⟨29, [(12, .int .i64 x), (11, .int .i64 a.length), (5, .mu o a.length), (0, .ro false (bools a)), (1, .ro false (bools l))], upd h o (some ⟨tab a.length fun i => .bool (decide (i < x) && (hasN a i && hasN l i)), 4, 1, true⟩)⟩) (fun x => a.length - x) 0 (Nat.zero_le _) (GStep.eq (by simp) ?_) fun x hx => ?_
  · simp; exact subH.refl _
  refine AW.seq fun _ k2 => AW.region [] Θ_ok ?_
  simp
  refine k2 _ ?_
  by_cases hlt : x < a.length
  · have inc := wrap_succ (show x < 9223372036854775807 by omega)
    have ea : (decide (0 ≤ (x : Int)) && hasI l (x : Int)) = hasN l x := by simp
    have sa := r9_Has l x
    rw [ea] at sa
    have hset : (tab a.length fun i => AV.bool (decide (i < x) && (hasN a i && hasN l i))).set x (.bool ((hasN a x && hasN l x))) = tab a.length fun i => .bool (decide (i < x + 1) && (hasN a i && hasN l i)) := by
      rw [set_tab]
      refine tab_congr fun i hi => ?_
      by_cases e : i = x
      · subst e; simp
      · by_cases h1 : i < x
        · simp [e, h1, show i < x + 1 by omega]
        · simp [e, h1, show ¬ i < x + 1 by omega]
    refine AW.seq fun _ k2 => AW.cond true (by simp [Int.natCast_inj, hlt]) (fun _ => ?_) (fun h => by cases h)
    refine AW.skip ?_
    simp
    refine k2 _ ?_
    refine AW.seq fun _ k2 => ?_
    refine AW.block ?_
    refine AW.seq fun _ k3 => AW.region [] Θ_ok ?_
    simp
    refine k3 _ ?_
    have hax : hasN a x = a[x] := by simp [hasN, hlt]
    cases hv : a[x]
    · have e : (hasN a x && hasN l x) = false := by rw [hax, hv]; rfl
      rw [e] at hset
      refine AW.region [] Θ_ok ?_
      simp [hlt, hv]
      refine ⟨by omega, k2 _ ?_⟩
      refine AW.region [] Θ_ok ?_
      simp
      exact ⟨x + 1, by omega, by omega, GStep.eq (by simp [inc]) (subH_of_eq (congrArg (fun c => upd h o (some ⟨c, 4, 1, true⟩)) hset))⟩
    · have e : (hasN a x && hasN l x) = hasN l x := by rw [hax, hv]; rfl
      rw [e] at hset
      refine AW.regionAt 10 [] Θ_ok fun B hB => ?_
      simp [hlt, hv]
      refine sa.use (by simp) ?_
      generalize hasN l x = v at *
      refine hB _ ?_
      clear hB B
      simp [hlt]
      refine ⟨by omega, k2 _ ?_⟩
      refine AW.region [] Θ_ok ?_
      simp
      exact ⟨x + 1, by omega, by omega, GStep.eq (by simp [inc]) (subH_of_eq (congrArg (fun c => upd h o (some ⟨c, 4, 1, true⟩)) hset))⟩
  obtain rfl : x = a.length := by omega
  refine AW.seq fun _ k2 => AW.cond false (by simp [Int.natCast_inj]) (fun h => by cases h) (fun _ => ?_)
  refine AW.exit ?_
  simp
  refine k1 _ ?_
  refine AW.seq fun _ kr => AW.region [] Θ_ok ?_
  simp
  refine kr _ (AW.ret ?_)
  simp [Try.f45]
  refine Fin.freeze (k := true) (upd_same _ _ _) (fun _ => rfl) rfl (by simp) (ones_bools _ _) h (by simp [upd_none_id ho]; exact subH.refl _) ⟨?_, rfl⟩
  simp only [bools, r9andL, map_tab]
  congr 1
  exact tab_congr fun i hi => by simp [hi]

theorem r9_or (a l : List Bool) (hb : a.length ≤ 17592186044416) : Pure Try.prog 44 [.ro false (bools a), .ro false (bools l)] (.ro true (bools (r9orL a l))) := by
  have hn' : a.length ≤ 1152921504606846976 := by omega
  intro h
  refine AC.body Θ_ok Try.func44 rfl rfl (Nat.le_of_ble_eq_true rfl) ?_
  refine AW.seq fun _ k1 => AW.region [] Θ_ok ?_
  simp
  refine k1 _ ?_
  refine AW.seq fun _ k1 => AW.region [9] Θ_ok ?_
  simp
  refine ⟨by omega, fun o ho => k1 _ ?_⟩
  rw [replicate_tab, flat_tab (fun _ _ => rfl)]
  refine AW.seq fun _ k1 => ?_
  refine AW.seq fun _ k2 => AW.region [] Θ_ok ?_
  simp
  refine k2 _ ?_
  refine AW.block ?_
  refine AW.loopI (X := Nat) (fun x => x ≤ a.length) (fun x => ⟨29, [(12, .int .i64 x), (11, .int .i64 a.length), (5, .mu o a.length), (0, .ro false (bools a)), (1, .ro false (bools l))], upd h o (some ⟨tab a.length fun i => .bool (decide (i < x) && (hasN a i || hasN l i)), 4, 1, true⟩)⟩) (fun x => a.length - x) 0 (Nat.zero_le _) (GStep.eq (by simp) ?_) fun x hx => ?_
  · simp; exact subH.refl _
  refine AW.seq fun _ k2 => AW.region [] Θ_ok ?_
  simp
  refine k2 _ ?_
  by_cases hlt : x < a.length
  · have inc := wrap_succ (show x < 9223372036854775807 by omega)
    have ea : (decide (0 ≤ (x : Int)) && hasI l (x : Int)) = hasN l x := by simp
    have sa := r9_Has l x
    rw [ea] at sa
    have hset : (tab a.length fun i => AV.bool (decide (i < x) && (hasN a i || hasN l i))).set x (.bool ((hasN a x || hasN l x))) = tab a.length fun i => .bool (decide (i < x + 1) && (hasN a i || hasN l i)) := by
      rw [set_tab]
      refine tab_congr fun i hi => ?_
      by_cases e : i = x
      · subst e; simp
      · by_cases h1 : i < x
        · simp [e, h1, show i < x + 1 by omega]
        · simp [e, h1, show ¬ i < x + 1 by omega]
    refine AW.seq fun _ k2 => AW.cond true (by simp [Int.natCast_inj, hlt]) (fun _ => ?_) (fun h => by cases h)
    refine AW.skip ?_
    simp
    refine k2 _ ?_
    refine AW.seq fun _ k2 => ?_
    refine AW.block ?_
    refine AW.seq fun _ k3 => AW.region [] Θ_ok ?_
    simp
    refine k3 _ ?_
    have hax : hasN a x = a[x] := by simp [hasN, hlt]
    cases hv : a[x]
    · have e : (hasN a x || hasN l x) = hasN l x := by rw [hax, hv]; rfl
      rw [e] at hset
      refine AW.regionAt 10 [] Θ_ok fun B hB => ?_
      simp [hlt, hv]
      refine sa.use (by simp) ?_
      generalize hasN l x = v at *
      refine hB _ ?_
      clear hB B
      simp [hlt]
      refine ⟨by omega, k2 _ ?_⟩
      refine AW.region [] Θ_ok ?_
      simp
      exact ⟨x + 1, by omega, by omega, GStep.eq (by simp [inc]) (subH_of_eq (congrArg (fun c => upd h o (some ⟨c, 4, 1, true⟩)) hset))⟩
    · have e : (hasN a x || hasN l x) = true := by rw [hax, hv]; rfl
      rw [e] at hset
      refine AW.region [] Θ_ok ?_
      simp [hlt, hv]
      refine ⟨by omega, k2 _ ?_⟩
      refine AW.region [] Θ_ok ?_
      simp
      exact ⟨x + 1, by omega, by omega, GStep.eq (by simp [inc]) (subH_of_eq (congrArg (fun c => upd h o (some ⟨c, 4, 1, true⟩)) hset))⟩
  obtain rfl : x = a.length := by omega
  refine AW.seq fun _ k2 => AW.cond false (by simp [Int.natCast_inj]) (fun h => by cases h) (fun _ => ?_)
  refine AW.exit ?_
  simp
  refine k1 _ ?_
  refine AW.seq fun _ kr => AW.region [] Θ_ok ?_
  simp
  refine kr _ (AW.ret ?_)
  simp [Try.f44]
  refine Fin.freeze (k := true) (upd_same _ _ _) (fun _ => rfl) rfl (by simp) (ones_bools _ _) h (by simp [upd_none_id ho]; exact subH.refl _) ⟨?_, rfl⟩
  simp only [bools, r9orL, map_tab]
  congr 1
  exact tab_congr fun i hi => by simp [hi]

theorem r9_rows (g : G) (hf : g.fits) (l : List (List Bool)) : Pure Try.prog 43 [g.av, .ro false (bools2 l)] (rowsA g l) := by
  intro h
  refine AC.body Θ_ok Try.func43 rfl rfl (Nat.le_of_ble_eq_true rfl) ?_
  refine AW.seq fun _ k1 => AW.region [] Θ_ok ?_
  simp
  refine k1 _ ?_
  refine AW.seq fun _ k1 => ?_
  refine AW.seq fun _ k2 => AW.region [] Θ_ok ?_
  simp
  refine k2 _ ?_
  by_cases hl : l = []
  · refine AW.cond true (by simp [Int.natCast_inj, hl]) (fun _ => ?_) (fun h => by cases h)
    refine AW.seq fun _ kr => AW.region [] Θ_ok ?_
    simp
    refine (r9_not g hf.owner []).use (by simp [G.av]) ?_
    simp
    refine kr _ (AW.ret ?_)
    simp [Try.f43]
    exact Fin.refl ⟨by simp [rowsA, hl, topL], rfl⟩
  · refine AW.cond false (by simp [Int.natCast_inj, hl]) (fun h => by cases h) (fun _ => ?_)
    refine AW.skip ?_
    simp
    refine k1 _ ?_
    refine AW.seq fun _ kr => AW.region [] Θ_ok ?_
    simp
    refine kr _ (AW.ret ?_)
    simp [Try.f43]
    exact Fin.refl ⟨by simp [rowsA, hl], rfl⟩
end Go.Par
