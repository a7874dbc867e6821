import Derived.Test.YtigipgahgkngcaaMaLn
import Derived.Test.YtigipgahgkngcaaRgA
import Derived.Test.YtigipgahgkngcaaAgB
set_option linter.unusedSimpArgs false
set_option linter.unusedVariables false
set_option maxRecDepth 8000
set_option maxHeartbeats 1000000
namespace Go.Par
open Go.Proofs

def obB (L : List Bool) : Ob := ⟨L.map .bool, 4, 1, true⟩
@[simp] theorem obB_cells (L : List Bool) : (obB L).cells = L.map .bool := rfl
@[simp] theorem obB_ty (L : List Bool) : (obB L).ty = 4 := rfl
@[simp] theorem obB_sz (L : List Bool) : (obB L).sz = 1 := rfl
@[simp] theorem obB_nn (L : List Bool) : (obB L).nn = true := rfl
theorem obB_mk (L : List Bool) : (⟨L.map .bool, 4, 1, true⟩ : Ob) = obB L := rfl
theorem map_set_bool (R : List Bool) (v : Nat) (x : Bool) : (R.map AV.bool).set v (.bool x) = (R.set v x).map AV.bool := by rw [List.map_set]
theorem map_drop_bool (R : List Bool) {v : Nat} (h : v < R.length) : (R.map AV.bool).drop v = .bool R[v] :: (R.map AV.bool).drop (v + 1) := by
  rw [List.drop_eq_getElem_cons (show v < (R.map AV.bool).length by simpa using h)]; simp
theorem Lend.bools {h : Heap} {o n : Nat} {L : List Bool} (hx : h o = some (obB L)) (hl : L.length = n) : Lend h (.mu o n) (.ro false (bools L)) :=
  .mu hx (fun e => by cases e) (by simpa using hl) (fun y hy => by obtain ⟨z, _, rfl⟩ := List.mem_map.1 hy; rfl) (by rw [flat_bools]; simp only [obB_cells, obB_sz, Nat.mul_one]; rw [List.take_of_length_le (by simp [hl])])

theorem r9_RowM (g : G) (hb : g.owner.length ≤ 17592186044416) (l : List Bool) (h : Heap) : AC Try.prog 64 [g.av, .ro false (bools l)] h fun r h' => ∃ o, h o = none ∧ r = .mu o g.owner.length ∧ h' = upd h o (some (obB (rowL g l))) := by
  have hn' : g.owner.length ≤ 1152921504606846976 := by omega
  refine AC.body Θ_ok Try.func64 rfl rfl (Nat.le_of_ble_eq_true rfl) ?_
  refine AW.seq fun _ k1 => AW.region [] Θ_ok ?_
  simp
  refine k1 _ ?_
  refine AW.seq fun _ k1 => AW.region [10] Θ_ok ?_
  simp
  refine ⟨by omega, fun o ho => k1 _ ?_⟩
  rw [replicate_tab, flat_tab (fun _ _ => rfl)]
  refine AW.seq fun _ k1 => ?_
  refine AW.seq fun _ k2 => AW.region [] Θ_ok ?_
  simp
  refine k2 _ ?_
  refine AW.block ?_
  refine AW.loopI (X := Nat) (fun x => x ≤ g.owner.length) (fun x => ⟨24, [(13, .int .i64 x), (12, .int .i64 g.owner.length), (5, .mu o g.owner.length), (1, .ro false (bools l))], upd h o (some ⟨tab g.owner.length fun i => .bool (decide (i < x) && hasN l i), 4, 1, true⟩)⟩) (fun x => g.owner.length - x) 0 (Nat.zero_le _) (GStep.eq (by simp) ?_) fun x hx => ?_
  · simp; exact subH.refl _
  refine AW.seq fun _ k2 => AW.region [] Θ_ok ?_
  simp
  refine k2 _ ?_
  by_cases hlt : x < g.owner.length
  · have inc := wrap_succ (show x < 9223372036854775807 by omega)
    have ea : (decide (0 ≤ (x : Int)) && hasI l (x : Int)) = hasN l x := by simp
    have sa := r9_Has l x
    rw [ea] at sa
    have hset : (tab g.owner.length fun i => AV.bool (decide (i < x) && hasN l i)).set x (.bool (hasN l x)) = tab g.owner.length fun i => .bool (decide (i < x + 1) && hasN l i) := by
      rw [set_tab]
      refine tab_congr fun i hi => ?_
      by_cases e : i = x
      · subst e; simp
      · by_cases h1 : i < x
        · simp [e, h1, show i < x + 1 by omega]
        · simp [e, h1, show ¬ i < x + 1 by omega]
    refine AW.seq fun _ k2 => AW.cond true (by simp [Int.natCast_inj, hlt]) (fun _ => ?_) (fun h => by cases h)
    refine AW.skip ?_
    simp
    refine k2 _ ?_
    refine AW.seq fun _ k2 => ?_
    refine AW.block ?_
    refine AW.seq fun _ k3 => AW.region [] Θ_ok ?_
    simp
    refine k3 _ ?_
    refine AW.regionAt 5 [] Θ_ok fun B hB => ?_
    simp
    refine sa.use (by simp) ?_
    generalize hasN l x = v at *
    refine hB _ ?_
    clear hB B
    simp [hlt]
    refine ⟨by omega, k2 _ ?_⟩
    refine AW.region [] Θ_ok ?_
    simp
    exact ⟨x + 1, by omega, by omega, GStep.eq (by simp [inc]) (subH_of_eq (congrArg (fun c => upd h o (some ⟨c, 4, 1, true⟩)) hset))⟩
  obtain rfl : x = g.owner.length := by omega
  refine AW.seq fun _ k2 => AW.cond false (by simp [Int.natCast_inj]) (fun h => by cases h) (fun _ => ?_)
  refine AW.exit ?_
  simp
  refine k1 _ ?_
  refine AW.seq fun _ kr => AW.region [] Θ_ok ?_
  simp
  refine kr _ (AW.ret ?_)
  simp [Try.f64]
  refine Fin.refl ⟨o, ho, rfl, ?_⟩
  have e9 : (tab g.owner.length fun i => AV.bool (decide (i < g.owner.length) && hasN l i)) = (rowL g l).map .bool := by
    rw [rowL, map_tab]
    exact tab_congr fun i hi => by simp [hi]
  rw [e9]; rfl

end Go.Par
