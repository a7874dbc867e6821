import Derived.Test.YtihlpchiomkinaaFgB
import Derived.Test.YtihlpchiomkinaaMgC
set_option linter.unusedSimpArgs false
set_option maxRecDepth 8000
namespace Go.Par
open Go.Proofs

theorem GV.weaken {u u' : AV} {h : Heap} (hw : wk u u' ∨ weak u = u') : GV u h u' h := fun φ w x H V => by
  refine ⟨φ, Ext.refl φ, H, ?_, fun _ q => q⟩
  rcases hw with hw | rfl
  · exact V.wk hw
  · exact V.weak
theorem GStep.weaken {S : St} {t : Nat} {u : AV} (u' : AV) (hv : get S.tm t = u) (hw : wk u u' ∨ weak u = u') : GStep S ⟨S.n, (t, u') :: S.tm, S.h⟩ := GStep.slot hv (GV.weaken hw)
theorem AW.weaken {P : Program} {c : Code} {Q : Exit → St → Prop} {S : St} (t : Nat) {u : AV} (u' : AV) (hv : get S.tm t = u) (hw : wk u u' ∨ weak u = u') (h : AW P c Q ⟨S.n, (t, u') :: S.tm, S.h⟩) : AW P c Q S := AW.ghost (GStep.weaken u' hv hw) h

theorem slices_EqualB (a b : List Bool) (hl : a.length ≤ 1152921504606846976) : Pure Try.prog 43 [.ro false (bools a), .ro false (bools b)] (.bool (decide (a = b))) := by
  intro h
  refine AC.body Θ_ok Try.func43 rfl rfl (Nat.le_of_ble_eq_true rfl) ?_
  refine AW.seq fun _ k1 => AW.region [] Θ_ok ?_
  simp
  refine k1 _ ?_
  refine AW.seq fun _ k1 => ?_
  refine AW.seq fun _ k2 => AW.region [] Θ_ok ?_
  simp
  refine k2 _ ?_
  by_cases he : a.length = b.length
  · refine AW.cond false (by simp [Int.natCast_inj, he]) (fun h => by cases h) (fun _ => ?_)
    refine AW.skip ?_
    simp
    refine k1 _ ?_
    refine AW.seq fun _ k1 => ?_
    refine AW.seq fun _ k2 => AW.region [] Θ_ok ?_
    simp
    refine k2 _ ?_
    refine AW.block ?_
    refine AW.loopI (X := Nat) (fun x => x ≤ a.length ∧ ∀ i, i < x → a[i]? = b[i]?) (fun x => ⟨26, [(13, .int .i64 x), (12, .int .i64 a.length), (0, .ro false (bools a)), (1, .ro false (bools b))], h⟩) (fun x => a.length - x) 0 ⟨Nat.zero_le _, fun i hi => by omega⟩ (GStep.eq (by simp) (subH.refl _)) ?_
    rintro x ⟨hx, hok⟩
    refine AW.seq fun _ k2 => AW.region [] Θ_ok ?_
    simp
    refine k2 _ ?_
    by_cases hlt : x < a.length
    · have hlt' : x < b.length := by omega
      refine AW.seq fun _ k2 => AW.cond true (by simp [Int.natCast_inj, hlt]) (fun _ => ?_) (fun h => by cases h)
      refine AW.skip ?_
      simp
      refine k2 _ ?_
      refine AW.seq fun _ k2 => ?_
      refine AW.block ?_
      refine AW.seq fun _ k3 => AW.region [] Θ_ok ?_
      simp
      refine k3 _ ?_
      refine AW.seq fun _ k3 => AW.draw [] 9 [] Θ_ok mixed (by kernel_rfl) (by kernel_rfl) ?_
      simp [vcDraw, vcPre, vcTail, callA, isAlloc, isLoad, effOp, obl, obA, mkOK, valA, hlt, hlt']
      refine k3 _ ?_
      by_cases hab : a[x] = b[x]
      · refine AW.cond false (by simp [Int.natCast_inj, hab]) (fun h => by cases h) (fun _ => ?_)
        refine AW.skip ?_
        simp
        refine k2 _ ?_
        refine AW.region [] Θ_ok ?_
        simp
        refine ⟨x + 1, ⟨by omega, fun i hi => ?_⟩, by omega, GStep.eq ?_ (subH.refl _)⟩
        · by_cases e : i = x
          · subst e; simp [hlt, hlt', hab]
          · exact hok i (by omega)
        · simp [wrap_succ (show x < 9223372036854775807 by omega)]
      · refine AW.cond true (by simp [Int.natCast_inj, hab]) (fun _ => ?_) (fun h => by cases h)
        refine AW.seq fun _ kr => AW.region [] Θ_ok ?_
        simp
        refine kr _ (AW.ret ?_)
        simp [Try.f43]
        refine Fin.refl ⟨?_, rfl⟩
        have : ¬ a = b := by rintro rfl; exact hab rfl
        simp [this]
    · obtain rfl : x = a.length := by omega
      refine AW.seq fun _ k2 => AW.cond false (by simp [Int.natCast_inj]) (fun h => by cases h) (fun _ => ?_)
      refine AW.exit ?_
      simp
      refine k1 _ ?_
      refine AW.seq fun _ kr => AW.region [] Θ_ok ?_
      simp
      refine kr _ (AW.ret ?_)
      simp [Try.f43]
      refine Fin.refl ⟨?_, rfl⟩
      have : a = b := List.ext_getElem? fun i => by
        by_cases hi : i < a.length
        · exact hok i hi
        · rw [List.getElem?_eq_none (by omega), List.getElem?_eq_none (by omega)]
      simp [this]
  · refine AW.cond true (by simp [Int.natCast_inj, he]) (fun _ => ?_) (fun h => by cases h)
    refine AW.seq fun _ kr => AW.region [] Θ_ok ?_
    simp
    refine kr _ (AW.ret ?_)
    simp [Try.f43]
    refine Fin.refl ⟨?_, rfl⟩
    have : ¬ a = b := by rintro rfl; exact he rfl
    simp [this]


def rowsA (g : G) (l : List (List Bool)) : AV := if l = [] then .ro true [.ro true (bools (topL g))] else .ro false (bools2 l)
theorem rowsA_weak (g : G) (l : List (List Bool)) : weak (rowsA g l) = .ro false (bools2 (rowsL g l)) := by
  unfold rowsA rowsL; split <;> simp

/-- The solver. -/
def solV (g : G) (A E : List (List Bool)) : AV := .rop [.ro false (ints g.owner), .ro false (rows g.next), .ro false (bools2 A), .ro false (bools2 E)]

@[simp] theorem solV_known (g : G) (A E : List (List Bool)) : (solV g A E).known = true := rfl
@[simp] theorem solV_one (g : G) (A E : List (List Bool)) : (solV g A E).one = true := rfl
@[simp] theorem solV_flat (g : G) (A E : List (List Bool)) : (solV g A E).flat = [solV g A E] := rfl

set_option linter.unusedSectionVars false
section
variable (g : G) (hf : g.fits) (hm : mayE g = 0) (A E : List (List Bool))
include hf hm

theorem forceA1 (x : List Bool) : forceA g 1 x = .ro true (bools (forceL g 1 x)) := if_pos ⟨hm, .inr rfl⟩

structure FX where
  x : List Bool
  f : Nat

end

structure SX where
  z : List Bool
  k : Nat
  f : Nat

def solveA (g : G) (A E : List (List Bool)) : AV := if mayE g = 0 ∧ A.length ≤ 4 ∧ E.length ≤ 4 then .tup [.ro false (bools (solveL g A E).1), .int .i64 ((solveL g A E).2 : Nat)] else .tup [.nils, .int .i64 0]

theorem rowsL_le (g : G) (l : List (List Bool)) (h : l.length ≤ 4) : (rowsL g l).length ≤ 4 := by
  unfold rowsL; split
  · simp
  · exact h

def regionA (g : G) (A E : List (List Bool)) : AV := if mayE g = 0 ∧ A.length ≤ 4 ∧ E.length ≤ 4 then .ro false (bools (solveL g A E).1) else .nils
def roundsE (g : G) (A E : List (List Bool)) : Int := if mayE g = 0 ∧ A.length ≤ 4 ∧ E.length ≤ 4 then ((solveL g A E).2 : Nat) else 0
theorem solveA_eq (g : G) (A E : List (List Bool)) : solveA g A E = .tup [regionA g A E, .int .i64 (roundsE g A E)] := by
  unfold solveA regionA roundsE; split <;> rfl

end Go.Par
