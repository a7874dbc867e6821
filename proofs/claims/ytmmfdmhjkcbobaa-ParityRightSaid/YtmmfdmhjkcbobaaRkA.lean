import Derived.Test.YtmmfdmhjkcbobaaMaLn
import Derived.Test.YtmmfdmhjkcbobaaRgA
import Derived.Test.YtmmfdmhjkcbobaaAgB
set_option linter.unusedSimpArgs false
set_option linter.unusedVariables false
set_option maxRecDepth 8000
set_option maxHeartbeats 1000000
namespace Go.Par
open Go.Proofs

def obB (L : List Bool) : Ob := ⟨L.map .bool, 4, 1, true⟩
@[simp] theorem obB_cells (L : List Bool) : (obB L).cells = L.map .bool := rfl
@[simp] theorem obB_ty (L : List Bool) : (obB L).ty = 4 := rfl
@[simp] theorem obB_sz (L : List Bool) : (obB L).sz = 1 := rfl
@[simp] theorem obB_nn (L : List Bool) : (obB L).nn = true := rfl
theorem obB_mk (L : List Bool) : (⟨L.map .bool, 4, 1, true⟩ : Ob) = obB L := rfl
theorem map_set_bool (R : List Bool) (v : Nat) (x : Bool) : (R.map AV.bool).set v (.bool x) = (R.set v x).map AV.bool := by rw [List.map_set]
theorem map_drop_bool (R : List Bool) {v : Nat} (h : v < R.length) : (R.map AV.bool).drop v = .bool R[v] :: (R.map AV.bool).drop (v + 1) := by
  rw [List.drop_eq_getElem_cons (show v < (R.map AV.bool).length by simpa using h)]; simp
theorem Lend.bools {h : Heap} {o n : Nat} {L : List Bool} (hx : h o = some (obB L)) (hl : L.length = n) : Lend h (.mu o n) (.ro false (bools L)) :=
  .mu hx (fun e => by cases e) (by simpa using hl) (fun y hy => by obtain ⟨z, _, rfl⟩ := List.mem_map.1 hy; rfl) (by rw [flat_bools]; simp only [obB_cells, obB_sz, Nat.mul_one]; rw [List.take_of_length_le (by simp [hl])])

theorem r9_ForceM (g : G) (hf : g.fits) (who : Int) (in_ : List Bool) (hok : okForce g who) (h : Heap) : AC Try.prog 41 [g.av, .int .i64 who, .ro false (bools in_)] h fun r h' => ∃ o, h o = none ∧ r = .mu o g.owner.length ∧ h' = upd h o (some (obB (forceL g who in_))) := by
  refine AC.body Θ_ok Try.func41 rfl rfl (Nat.le_of_ble_eq_true rfl) ?_
  refine AW.seq fun _ k1 => AW.region [] Θ_ok ?_
  simp
  refine k1 _ ?_
  refine AW.seq fun _ k1 => ?_
  obtain ⟨hm, hw⟩ := hok
  have hp : (who == 0 || who == 1) = true := by rcases hw with rfl | rfl <;> rfl
  have hn := (may_ok hm).2.1
  have hb := hf.owner
  refine AW.seq fun _ k2 => AW.region [] Θ_ok ?_
  simp
  refine (r9_May g hf).use (by simp [G.av]) ?_
  try simp [hm]
  refine (r9_Player who).use (by simp [G.av]) ?_
  try simp [hp]
  refine k2 _ ?_
  refine AW.cond false (by simp [Int.natCast_inj]) (fun h => by cases h) (fun _ => ?_)
  refine AW.skip ?_
  simp
  refine k1 _ ?_
  refine AW.seq fun _ k1 => AW.region [25] Θ_ok ?_
  simp
  refine ⟨by omega, fun o ho => k1 _ ?_⟩
  rw [replicate_tab, flat_tab (fun _ _ => rfl)]
  refine AW.seq fun _ k1 => ?_
  refine AW.seq fun _ k2 => AW.region [] Θ_ok ?_
  simp
  refine k2 _ ?_
  refine AW.block ?_
  refine AW.loopI (X := Nat) (fun x => x ≤ g.next.length) (fun x => ⟨80, [(29, .int .i64 x), (28, .int .i64 g.next.length), (27, .ro false (rows g.next)), (7, .mu o g.owner.length), (1, .int .i64 who), (2, .ro false (bools in_)), (3, .rop [.ro false (ints g.owner), .ro false (rows g.next)])],
    upd h o (some ⟨tab g.owner.length fun i => .bool (decide (i < x) && forceP g who in_ i), 4, 1, true⟩)⟩) (fun x => g.next.length - x) 0 (Nat.zero_le _) (GStep.eq (by simp) ?_) fun x hx => ?_
  · simp; exact fun _ _ q => q
  refine AW.seq fun _ k2 => AW.region [] Θ_ok ?_
  simp
  refine k2 _ ?_
  by_cases hlt : x < g.next.length
  · have hv : x < g.owner.length := by omega
    have hlt' : x < g.next.length := hlt
    obtain ⟨_, hr⟩ := may_row hm hv hlt
    have hlr := hf.row _ (List.getElem_mem hlt)
    refine AW.seq fun _ k2 => AW.cond true (by simp [Int.natCast_inj, hlt]) (fun _ => ?_) (fun h => by cases h)
    refine AW.skip ?_
    simp
    refine k2 _ ?_
    refine AW.seq fun _ k2 => ?_
    refine AW.block ?_
    refine AW.seq fun _ k3 => AW.region [] Θ_ok ?_
    simp [hlt]
    refine k3 _ ?_
    refine AW.seq fun _ k3 => AW.region [] Θ_ok ?_
    simp
    refine k3 _ ?_
    refine AW.seq fun _ k3 => ?_
    refine AW.seq fun _ k4 => AW.region [] Θ_ok ?_
    simp
    refine k4 _ ?_
    refine AW.block ?_
    refine AW.loopI (X := Nat) (fun y => y ≤ g.next[x].length) (fun y => ⟨80, [(36, .int .i64 y), (35, .int .i64 g.next[x].length), (34, .ro false (ints g.next[x])), (10, .bool ((g.next[x].take y).any (hasI in_))), (11, .bool ((g.next[x].take y).all (hasI in_))), (8, .int .i64 x),
        (29, .int .i64 x), (28, .int .i64 g.next.length), (27, .ro false (rows g.next)), (7, .mu o g.owner.length), (1, .int .i64 who), (2, .ro false (bools in_)), (3, .rop [.ro false (ints g.owner), .ro false (rows g.next)])],
      upd h o (some ⟨tab g.owner.length fun i => .bool (decide (i < x) && forceP g who in_ i), 4, 1, true⟩)⟩) (fun y => g.next[x].length - y) 0 (Nat.zero_le _) (GStep.eq (by simp) (subH.refl _)) fun y hy => ?_
    refine AW.seq fun _ k4 => AW.region [] Θ_ok ?_
    simp
    refine k4 _ ?_
    by_cases hly : y < g.next[x].length
    · refine AW.seq fun _ k4 => AW.cond true (by simp [Int.natCast_inj, hly]) (fun _ => ?_) (fun h => by cases h)
      refine AW.skip ?_
      simp
      refine k4 _ ?_
      refine AW.seq fun _ k4 => ?_
      refine AW.block ?_
      refine AW.seq fun _ k5 => AW.region [] Θ_ok ?_
      simp [hly]
      refine k5 _ ?_
      have h0 := (hr _ (List.getElem_mem hly)).1
      have hs := r9_Has in_ g.next[x][y]
      have e : (decide (0 ≤ g.next[x][y]) && hasI in_ g.next[x][y]) = hasI in_ g.next[x][y] := by simp [h0]
      rw [e] at hs
      have st1 : (g.next[x].take (y + 1)).any (hasI in_) = ((g.next[x].take y).any (hasI in_) || hasI in_ g.next[x][y]) := by
        rw [List.take_succ_eq_append_getElem hly, List.any_append]; simp
      have st2 : (g.next[x].take (y + 1)).all (hasI in_) = ((g.next[x].take y).all (hasI in_) && hasI in_ g.next[x][y]) := by
        rw [List.take_succ_eq_append_getElem hly, List.all_append]; simp
      have inc := wrap_succ (show y < 9223372036854775807 by omega)
      cases q1 : (g.next[x].take y).any (hasI in_) <;> cases q2 : (g.next[x].take y).all (hasI in_)
      all_goals
        rw [q1] at st1
        rw [q2] at st2
        refine AW.seq fun _ k5 => AW.region [] Θ_ok ?_
        simp
        try (refine hs.use (by simp) ?_)
        try simp
        refine k5 _ ?_
        refine AW.region [] Θ_ok ?_
        simp
        try (refine hs.use (by simp) ?_)
        try simp
        refine k4 _ ?_
        refine AW.region [] Θ_ok ?_
        simp
        exact ⟨y + 1, by omega, by omega, GStep.eq (by simp [inc, st1, st2]) (subH.refl _)⟩
    · obtain rfl : y = g.next[x].length := by omega
      refine AW.seq fun _ k4 => AW.cond false (by simp [Int.natCast_inj]) (fun h => by cases h) (fun _ => ?_)
      refine AW.exit ?_
      simp
      refine k3 _ ?_
      have hP : forceP g who in_ x = if g.owner[x] = who then g.next[x].any (hasI in_) else g.next[x].all (hasI in_) := by
        unfold forceP
        simp only [List.getD_eq_getElem?_getD, List.getElem?_eq_getElem hv, List.getElem?_eq_getElem hlt, Option.getD_some]
      generalize g.next[x].any (hasI in_) = qa at hP
      generalize g.next[x].all (hasI in_) = ql at hP
      have inc := wrap_succ (show x < 9223372036854775807 by omega)
      have hset : (tab g.owner.length fun i => AV.bool (decide (i < x) && forceP g who in_ i)).set x (.bool (forceP g who in_ x)) = tab g.owner.length fun i => .bool (decide (i < x + 1) && forceP g who in_ i) := by
        rw [set_tab]
        refine tab_congr fun i hi => ?_
        by_cases e : i = x
        · simp [e]
        · by_cases h1 : i < x
          · simp [e, h1, show i < x + 1 by omega]
          · simp [e, h1, show ¬ i < x + 1 by omega]
      by_cases how : g.owner[x] = who
      all_goals
        simp only [how, if_true, if_false] at hP
        cases qa <;> cases ql
        all_goals
          refine AW.region [] Θ_ok ?_
          simp [hv, how]
          refine ⟨by omega, k2 _ ?_⟩
          refine AW.region [] Θ_ok ?_
          simp
          refine ⟨x + 1, by omega, by omega, GStep.eq (by simp [inc]) ?_⟩
          rw [hP] at hset
          exact subH_of_eq (congrArg (fun c => upd h o (some ⟨c, 4, 1, true⟩)) hset)
  · obtain rfl : x = g.next.length := by omega
    refine AW.seq fun _ k2 => AW.cond false (by simp [Int.natCast_inj]) (fun h => by cases h) (fun _ => ?_)
    refine AW.exit ?_
    simp
    refine k1 _ ?_
    refine AW.seq fun _ k1 => AW.region [] Θ_ok ?_
    simp
    refine k1 _ (AW.ret ?_)
    simp [Try.f41]
    refine Fin.refl ⟨o, ho, rfl, ?_⟩
    have e9 : (tab g.owner.length fun i => AV.bool (decide (i < g.next.length) && forceP g who in_ i)) = (forceL g who in_).map .bool := by
      rw [forceL, map_tab]
      exact tab_congr fun i hi => by simp [hi, hn]
    rw [e9]; rfl

theorem r9_RowM (g : G) (hb : g.owner.length ≤ 17592186044416) (l : List Bool) (h : Heap) : AC Try.prog 40 [g.av, .ro false (bools l)] h fun r h' => ∃ o, h o = none ∧ r = .mu o g.owner.length ∧ h' = upd h o (some (obB (rowL g l))) := by
  have hn' : g.owner.length ≤ 1152921504606846976 := by omega
  refine AC.body Θ_ok Try.func40 rfl rfl (Nat.le_of_ble_eq_true rfl) ?_
  refine AW.seq fun _ k1 => AW.region [] Θ_ok ?_
  simp
  refine k1 _ ?_
  refine AW.seq fun _ k1 => AW.region [10] Θ_ok ?_
  simp
  refine ⟨by omega, fun o ho => k1 _ ?_⟩
  rw [replicate_tab, flat_tab (fun _ _ => rfl)]
  refine AW.seq fun _ k1 => ?_
  refine AW.seq fun _ k2 => AW.region [] Θ_ok ?_
  simp
  refine k2 _ ?_
  refine AW.block ?_
  refine AW.loopI (X := Nat) (fun x => x ≤ g.owner.length) (fun x => ⟨24, [(13, .int .i64 x), (12, .int .i64 g.owner.length), (5, .mu o g.owner.length), (1, .ro false (bools l))], upd h o (some ⟨tab g.owner.length fun i => .bool (decide (i < x) && hasN l i), 4, 1, true⟩)⟩) (fun x => g.owner.length - x) 0 (Nat.zero_le _) (GStep.eq (by simp) ?_) fun x hx => ?_
  · simp; exact subH.refl _
  refine AW.seq fun _ k2 => AW.region [] Θ_ok ?_
  simp
  refine k2 _ ?_
  by_cases hlt : x < g.owner.length
  · have inc := wrap_succ (show x < 9223372036854775807 by omega)
    have ea : (decide (0 ≤ (x : Int)) && hasI l (x : Int)) = hasN l x := by simp
    have sa := r9_Has l x
    rw [ea] at sa
    have hset : (tab g.owner.length fun i => AV.bool (decide (i < x) && hasN l i)).set x (.bool (hasN l x)) = tab g.owner.length fun i => .bool (decide (i < x + 1) && hasN l i) := by
      rw [set_tab]
      refine tab_congr fun i hi => ?_
      by_cases e : i = x
      · subst e; simp
      · by_cases h1 : i < x
        · simp [e, h1, show i < x + 1 by omega]
        · simp [e, h1, show ¬ i < x + 1 by omega]
    refine AW.seq fun _ k2 => AW.cond true (by simp [Int.natCast_inj, hlt]) (fun _ => ?_) (fun h => by cases h)
    refine AW.skip ?_
    simp
    refine k2 _ ?_
    refine AW.seq fun _ k2 => ?_
    refine AW.block ?_
    refine AW.seq fun _ k3 => AW.region [] Θ_ok ?_
    simp
    refine k3 _ ?_
    refine AW.regionAt 5 [] Θ_ok fun B hB => ?_
    simp
    refine sa.use (by simp) ?_
    generalize hasN l x = v at *
    refine hB _ ?_
    clear hB B
    simp [hlt]
    refine ⟨by omega, k2 _ ?_⟩
    refine AW.region [] Θ_ok ?_
    simp
    exact ⟨x + 1, by omega, by omega, GStep.eq (by simp [inc]) (subH_of_eq (congrArg (fun c => upd h o (some ⟨c, 4, 1, true⟩)) hset))⟩
  obtain rfl : x = g.owner.length := by omega
  refine AW.seq fun _ k2 => AW.cond false (by simp [Int.natCast_inj]) (fun h => by cases h) (fun _ => ?_)
  refine AW.exit ?_
  simp
  refine k1 _ ?_
  refine AW.seq fun _ kr => AW.region [] Θ_ok ?_
  simp
  refine kr _ (AW.ret ?_)
  simp [Try.f40]
  refine Fin.refl ⟨o, ho, rfl, ?_⟩
  have e9 : (tab g.owner.length fun i => AV.bool (decide (i < g.owner.length) && hasN l i)) = (rowL g l).map .bool := by
    rw [rowL, map_tab]
    exact tab_congr fun i hi => by simp [hi]
  rw [e9]; rfl

end Go.Par
