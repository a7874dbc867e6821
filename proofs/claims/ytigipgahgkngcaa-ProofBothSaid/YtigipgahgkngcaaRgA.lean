/- Texts GrA GrB GrC GrD, one behind another. -/
import Derived.Test.YtigipgahgkngcaaFgB
import Derived.Test.YtigipgahgkngcaaMgC
import Derived.Test.YtigipgahgkngcaaPlL
import Derived.Test.YtigipgahgkngcaaFgA
import Derived.Test.YtigipgahgkngcaaCgA
set_option linter.unusedSimpArgs false
set_option maxRecDepth 8000
namespace Go.Par
open Go.Proofs

theorem GV.weaken {u u' : AV} {h : Heap} (hw : wk u u' ∨ weak u = u') : GV u h u' h := fun φ w x H V => by
  refine ⟨φ, Ext.refl φ, H, ?_, fun _ q => q⟩
  rcases hw with hw | rfl
  · exact V.wk hw
  · exact V.weak
theorem GStep.weaken {S : St} {t : Nat} {u : AV} (u' : AV) (hv : get S.tm t = u) (hw : wk u u' ∨ weak u = u') : GStep S ⟨S.n, (t, u') :: S.tm, S.h⟩ := GStep.slot hv (GV.weaken hw)
theorem AW.weaken {P : Program} {c : Code} {Q : Exit → St → Prop} {S : St} (t : Nat) {u : AV} (u' : AV) (hv : get S.tm t = u) (hw : wk u u' ∨ weak u = u') (h : AW P c Q ⟨S.n, (t, u') :: S.tm, S.h⟩) : AW P c Q S := AW.ghost (GStep.weaken u' hv hw) h

def rowsA (g : G) (l : List (List Bool)) : AV := if l = [] then .ro true [.ro true (bools (topL g))] else .ro false (bools2 l)
theorem rowsA_weak (g : G) (l : List (List Bool)) : weak (rowsA g l) = .ro false (bools2 (rowsL g l)) := by
  unfold rowsA rowsL; split <;> simp

/-- The solver. -/
def solV (g : G) (A E : List (List Bool)) : AV := .rop [.ro false (ints g.owner), .ro false (rows g.next), .ro false (bools2 A), .ro false (bools2 E)]

@[simp] theorem solV_known (g : G) (A E : List (List Bool)) : (solV g A E).known = true := rfl
@[simp] theorem solV_one (g : G) (A E : List (List Bool)) : (solV g A E).one = true := rfl
@[simp] theorem solV_flat (g : G) (A E : List (List Bool)) : (solV g A E).flat = [solV g A E] := rfl

set_option linter.unusedSectionVars false
section
variable (g : G) (hf : g.fits) (hm : mayE g = 0) (A E : List (List Bool))
include hf hm

theorem forceA1 (x : List Bool) : forceA g 1 x = .ro true (bools (forceL g 1 x)) := if_pos ⟨hm, .inr rfl⟩

structure FX where
  x : List Bool
  f : Nat

end

structure SX where
  z : List Bool
  k : Nat
  f : Nat

def solveA (g : G) (A E : List (List Bool)) : AV := if mayE g = 0 ∧ A.length ≤ 4 ∧ E.length ≤ 4 then .tup [.ro false (bools (solveL g A E).1), .int .i64 ((solveL g A E).2 : Nat)] else .tup [.nils, .int .i64 0]

theorem rowsL_le (g : G) (l : List (List Bool)) (h : l.length ≤ 4) : (rowsL g l).length ≤ 4 := by
  unfold rowsL; split
  · simp
  · exact h

def regionA (g : G) (A E : List (List Bool)) : AV := if mayE g = 0 ∧ A.length ≤ 4 ∧ E.length ≤ 4 then .ro false (bools (solveL g A E).1) else .nils
def roundsE (g : G) (A E : List (List Bool)) : Int := if mayE g = 0 ∧ A.length ≤ 4 ∧ E.length ≤ 4 then ((solveL g A E).2 : Nat) else 0
theorem solveA_eq (g : G) (A E : List (List Bool)) : solveA g A E = .tup [regionA g A E, .int .i64 (roundsE g A E)] := by
  unfold solveA regionA roundsE; split <;> rfl

end Go.Par

set_option linter.unusedSimpArgs false
set_option maxRecDepth 8000
namespace Go.Par
open Go.Proofs

def aw18 : G := ⟨[0, 1, 1], [[1], [0, 2], [2]]⟩
theorem aw18_fits : aw18.fits := ⟨by decide, by decide, by decide⟩
theorem aw18_A : regionA aw18 [] [[true]] = .ro false (bools [true, true, false]) := rfl
theorem aw18_B : regionA aw18 [[true]] [[]] = .ro false (bools [true, true, true]) := rfl

end Go.Par

set_option linter.unusedSimpArgs false
set_option linter.unusedVariables false
set_option maxRecDepth 8000
namespace Go.Par
open Go.Proofs

def rowL (g : G) (l : List Bool) : List Bool := tab g.owner.length (hasN l)
def r9andL (a b : List Bool) : List Bool := tab a.length fun v => hasN a v && hasN b v
def r9orL (a b : List Bool) : List Bool := tab a.length fun v => hasN a v || hasN b v

theorem r9_Row (g : G) (hb : g.owner.length ≤ 17592186044416) (l : List Bool) : Pure Try.prog 64 [g.av, .ro false (bools l)] (.ro true (bools (rowL g l))) := by
  have hn' : g.owner.length ≤ 1152921504606846976 := by omega
  intro h
  refine AC.body Θ_ok Try.func64 rfl rfl (Nat.le_of_ble_eq_true rfl) ?_
  refine AW.seq fun _ k1 => AW.region [] Θ_ok ?_
  simp
  refine k1 _ ?_
  refine AW.seq fun _ k1 => AW.region [10] Θ_ok ?_
  simp
  refine ⟨by omega, fun o ho => k1 _ ?_⟩
  rw [replicate_tab, flat_tab (fun _ _ => rfl)]
  refine AW.seq fun _ k1 => ?_
  refine AW.seq fun _ k2 => AW.region [] Θ_ok ?_
  simp
  refine k2 _ ?_
  refine AW.block ?_
  refine AW.loopI (X := Nat) (fun x => x ≤ g.owner.length) (fun x => ⟨24, [(13, .int .i64 x), (12, .int .i64 g.owner.length), (5, .mu o g.owner.length), (1, .ro false (bools l))], upd h o (some ⟨tab g.owner.length fun i => .bool (decide (i < x) && hasN l i), 4, 1, true⟩)⟩) (fun x => g.owner.length - x) 0 (Nat.zero_le _) (GStep.eq (by simp) ?_) fun x hx => ?_
  · simp; exact subH.refl _
  refine AW.seq fun _ k2 => AW.region [] Θ_ok ?_
  simp
  refine k2 _ ?_
  by_cases hlt : x < g.owner.length
  · have inc := wrap_succ (show x < 9223372036854775807 by omega)
    have ea : (decide (0 ≤ (x : Int)) && hasI l (x : Int)) = hasN l x := by simp
    have sa := r9_Has l x
    rw [ea] at sa
    have hset : (tab g.owner.length fun i => AV.bool (decide (i < x) && hasN l i)).set x (.bool (hasN l x)) = tab g.owner.length fun i => .bool (decide (i < x + 1) && hasN l i) := by
      rw [set_tab]
      refine tab_congr fun i hi => ?_
      by_cases e : i = x
      · subst e; simp
      · by_cases h1 : i < x
        · simp [e, h1, show i < x + 1 by omega]
        · simp [e, h1, show ¬ i < x + 1 by omega]
    refine AW.seq fun _ k2 => AW.cond true (by simp [Int.natCast_inj, hlt]) (fun _ => ?_) (fun h => by cases h)
    refine AW.skip ?_
    simp
    refine k2 _ ?_
    refine AW.seq fun _ k2 => ?_
    refine AW.block ?_
    refine AW.seq fun _ k3 => AW.region [] Θ_ok ?_
    simp
    refine k3 _ ?_
    refine AW.regionAt 5 [] Θ_ok fun B hB => ?_
    simp
    refine sa.use (by simp) ?_
    generalize hasN l x = v at *
    refine hB _ ?_
    clear hB B
    simp [hlt]
    refine ⟨by omega, k2 _ ?_⟩
    refine AW.region [] Θ_ok ?_
    simp
    exact ⟨x + 1, by omega, by omega, GStep.eq (by simp [inc]) (subH_of_eq (congrArg (fun c => upd h o (some ⟨c, 4, 1, true⟩)) hset))⟩
  obtain rfl : x = g.owner.length := by omega
  refine AW.seq fun _ k2 => AW.cond false (by simp [Int.natCast_inj]) (fun h => by cases h) (fun _ => ?_)
  refine AW.exit ?_
  simp
  refine k1 _ ?_
  refine AW.seq fun _ kr => AW.region [] Θ_ok ?_
  simp
  refine kr _ (AW.ret ?_)
  simp [Try.f64]
  refine Fin.freeze (k := true) (upd_same _ _ _) (fun _ => rfl) rfl (by simp) (ones_bools _ _) h (by simp [upd_none_id ho]; exact subH.refl _) ⟨?_, rfl⟩
  simp only [bools, rowL, map_tab]
  congr 1
  exact tab_congr fun i hi => by simp [hi]

theorem r9_and (a l : List Bool) (hb : a.length ≤ 17592186044416) : Pure Try.prog 59 [.ro false (bools a), .ro false (bools l)] (.ro true (bools (r9andL a l))) := by
  have hn' : a.length ≤ 1152921504606846976 := by omega
  intro h
  refine AC.body Θ_ok Try.func59 rfl rfl (Nat.le_of_ble_eq_true rfl) ?_
  refine AW.seq fun _ k1 => AW.region [] Θ_ok ?_
  simp
  refine k1 _ ?_
  refine AW.seq fun _ k1 => AW.region [9] Θ_ok ?_
  simp
  refine ⟨by omega, fun o ho => k1 _ ?_⟩
  rw [replicate_tab, flat_tab (fun _ _ => rfl)]
  refine AW.seq fun _ k1 => ?_
  refine AW.seq fun _ k2 => AW.region [] Θ_ok ?_
  simp
  refine k2 _ ?_
  refine AW.block ?_
  refine AW.loopI (X := Nat) (fun x => x ≤ a.length) (fun x => ⟨29, [(12, .int .i64 x), (11, .int .i64 a.length), (5, .mu o a.length), (0, .ro false (bools a)), (1, .ro false (bools l))], upd h o (some ⟨tab a.length fun i => .bool (decide (i < x) && (hasN a i && hasN l i)), 4, 1, true⟩)⟩) (fun x => a.length - x) 0 (Nat.zero_le _) (GStep.eq (by simp) ?_) fun x hx => ?_
  · simp; exact subH.refl _
  refine AW.seq fun _ k2 => AW.region [] Θ_ok ?_
  simp
  refine k2 _ ?_
  by_cases hlt : x < a.length
  · have inc := wrap_succ (show x < 9223372036854775807 by omega)
    have ea : (decide (0 ≤ (x : Int)) && hasI l (x : Int)) = hasN l x := by simp
    have sa := r9_Has l x
    rw [ea] at sa
    have hset : (tab a.length fun i => AV.bool (decide (i < x) && (hasN a i && hasN l i))).set x (.bool ((hasN a x && hasN l x))) = tab a.length fun i => .bool (decide (i < x + 1) && (hasN a i && hasN l i)) := by
      rw [set_tab]
      refine tab_congr fun i hi => ?_
      by_cases e : i = x
      · subst e; simp
      · by_cases h1 : i < x
        · simp [e, h1, show i < x + 1 by omega]
        · simp [e, h1, show ¬ i < x + 1 by omega]
    refine AW.seq fun _ k2 => AW.cond true (by simp [Int.natCast_inj, hlt]) (fun _ => ?_) (fun h => by cases h)
    refine AW.skip ?_
    simp
    refine k2 _ ?_
    refine AW.seq fun _ k2 => ?_
    refine AW.block ?_
    refine AW.seq fun _ k3 => AW.region [] Θ_ok ?_
    simp
    refine k3 _ ?_
    have hax : hasN a x = a[x] := by simp [hasN, hlt]
    cases hv : a[x]
    · have e : (hasN a x && hasN l x) = false := by rw [hax, hv]; rfl
      rw [e] at hset
      refine AW.region [] Θ_ok ?_
      simp [hlt, hv]
      refine ⟨by omega, k2 _ ?_⟩
      refine AW.region [] Θ_ok ?_
      simp
      exact ⟨x + 1, by omega, by omega, GStep.eq (by simp [inc]) (subH_of_eq (congrArg (fun c => upd h o (some ⟨c, 4, 1, true⟩)) hset))⟩
    · have e : (hasN a x && hasN l x) = hasN l x := by rw [hax, hv]; rfl
      rw [e] at hset
      refine AW.regionAt 10 [] Θ_ok fun B hB => ?_
      simp [hlt, hv]
      refine sa.use (by simp) ?_
      generalize hasN l x = v at *
      refine hB _ ?_
      clear hB B
      simp [hlt]
      refine ⟨by omega, k2 _ ?_⟩
      refine AW.region [] Θ_ok ?_
      simp
      exact ⟨x + 1, by omega, by omega, GStep.eq (by simp [inc]) (subH_of_eq (congrArg (fun c => upd h o (some ⟨c, 4, 1, true⟩)) hset))⟩
  obtain rfl : x = a.length := by omega
  refine AW.seq fun _ k2 => AW.cond false (by simp [Int.natCast_inj]) (fun h => by cases h) (fun _ => ?_)
  refine AW.exit ?_
  simp
  refine k1 _ ?_
  refine AW.seq fun _ kr => AW.region [] Θ_ok ?_
  simp
  refine kr _ (AW.ret ?_)
  simp [Try.f59]
  refine Fin.freeze (k := true) (upd_same _ _ _) (fun _ => rfl) rfl (by simp) (ones_bools _ _) h (by simp [upd_none_id ho]; exact subH.refl _) ⟨?_, rfl⟩
  simp only [bools, r9andL, map_tab]
  congr 1
  exact tab_congr fun i hi => by simp [hi]

end Go.Par

set_option linter.unusedSimpArgs false
set_option linter.unusedVariables false
set_option maxRecDepth 8000
set_option maxHeartbeats 1000000
namespace Go.Par
open Go.Proofs

@[simp] theorem rowsA_len (g : G) (l : List (List Bool)) : lenA (rowsA g l) = some (rowsL g l).length := by
  unfold rowsA rowsL; split <;> simp [lenA]
theorem r9and_eq {g : G} {a b : List Bool} (h : a.length = g.owner.length) : r9andL a b = andL g a b := by simp only [r9andL, andL, h]
theorem r9or_eq {g : G} {a b : List Bool} (h : a.length = g.owner.length) : r9orL a b = orL g a b := by simp only [r9orL, orL, h]
theorem row_and (g : G) (a b : List Bool) : r9andL (rowL g a) b = andL g a b := by
  have hl : (rowL g a).length = g.owner.length := length_tab _ _
  simp only [r9andL, andL, hl]
  exact tab_congr fun v hv => by
    have : hasN (rowL g a) v = hasN a v := by simp [rowL, hasN, hv]
    rw [this]
theorem bot_rep (g : G) : (List.replicate g.owner.length (AV.bool false)) = bools (botL g) := by
  rw [replicate_tab, botL, andL]
  simp only [bools, map_tab]
  exact tab_congr fun v _ => by simp [hasN]

/-- What the first rows of assume come to, of no rows: nothing. -/
def allK (g : G) (A : List (List Bool)) (s : List Bool) (k : Nat) : List Bool := if k = 0 then botL g else levelK g A s k
theorem allK_len (g : G) (A : List (List Bool)) (s : List Bool) : ∀ k, (allK g A s k).length = g.owner.length
  | 0 => len_and _ _ _
  | k + 1 => len_or _ _ _
theorem allK_step (g : G) (A : List (List Bool)) (s : List Bool) (k : Nat) : orL g (allK g A s k) (great g (stepL g s (A.getD k []))) = allK g A s (k + 1) := by
  cases k with
  | zero =>
    show orL g (botL g) (great g (stepL g s (A.getD 0 []))) = levelK g A s 1
    rw [levelK, levelK]
    exact tab_congr fun v hv => by
      have : hasN (botL g) v = false := by rw [botL, has_and hv]; simp [hasN]
      rw [this]; simp [hasN]
  | succ k => rfl

def gr1A (g : G) (A E : List (List Bool)) : AV := if mayE g = 0 ∧ A.length ≤ 4 ∧ E.length ≤ 4 then .tup [.ro true (bools (solveL g A E).1), .int .i64 ((solveL g A E).2 : Nat)] else .tup [.nils, .int .i64 0]

end Go.Par
