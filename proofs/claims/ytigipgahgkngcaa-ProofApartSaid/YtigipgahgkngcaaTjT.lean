/- The memory of ProofApart: rows, priorities, where one begins. -/
import Derived.Test.YtigipgahgkngcaaTjS
import Derived.Test.YtigipgahgkngcaaLwProofRows
set_option linter.unusedSimpArgs false
set_option linter.unusedVariables false
set_option maxRecDepth 8000
set_option maxHeartbeats 2000000
namespace Go.Par
open Go.Proofs

def apH (h : Heap) (no po fo : Nat) (X : Ob) (PX : List Int) (n2 : Bool) (FX : List Bool) : Heap := HL h [(no, X), (po, obTd PX n2), (fo, obBk FX)]
section
variable {h : Heap} {no po fo : Nat} (N : HN h [no, po, fo]) (X : Ob) (PX : List Int) (n2 : Bool) (FX : List Bool)
include N
theorem apH.an : apH h no po fo X PX n2 FX no = some X := HL.at (k := 0) N.nd rfl
theorem apH.ap : apH h no po fo X PX n2 FX po = some (obTd PX n2) := HL.at (k := 1) N.nd rfl
theorem apH.af : apH h no po fo X PX n2 FX fo = some (obBk FX) := HL.at (k := 2) N.nd rfl
theorem apH.pf (F' : List Bool) : upd (apH h no po fo X PX n2 FX) fo (some (obBk F')) = apH h no po fo X PX n2 F' := HL.put (k := 2) N.nd rfl
theorem apH.gn {o' : Nat} (ho : apH h no po fo X PX n2 FX o' = none) (X' : Ob) : upd (upd (apH h no po fo X PX n2 FX) no none) o' (some X') = apH h o' po fo X' PX n2 FX ∧ HN h [o', po, fo] :=
  HL.ren (h0 := h) (A' := X') (l := [(no, X), (po, obTd PX n2), (fo, obBk FX)]) (k := 0) N rfl ho
theorem apH.gp {o' : Nat} (ho : apH h no po fo X PX n2 FX o' = none) (P' : List Int) : upd (upd (apH h no po fo X PX n2 FX) po none) o' (some (obTd P' true)) = apH h no o' fo X P' true FX ∧ HN h [no, o', fo] :=
  HL.ren (h0 := h) (A' := obTd P' true) (l := [(no, X), (po, obTd PX n2), (fo, obBk FX)]) (k := 1) N rfl ho
theorem apH.sub : subH h (apH h no po fo X PX n2 FX) := HL.sub (l := [(no, X), (po, obTd PX n2), (fo, obBk FX)]) N
end
/-- A row that was appended as an object is given up. -/
theorem ap_row {h : Heap} {no po fo m : Nat} (N : HN h [m, no, po, fo]) (NX : List (List Int)) (l : List Int) (nm : Bool) (PX : List Int) (n2 : Bool) (FX : List Bool) (sn : Nat) (tm : Tm) :
    GStep ⟨sn, tm, HL h [(m, obTd l nm), (no, ⟨rows NX ++ [.mu m l.length], 28, 1, true⟩), (po, obTd PX n2), (fo, obBk FX)]⟩ ⟨sn, tm, apH h no po fo (obRo (NX ++ [l]) true) PX n2 FX⟩ := by
  have o1 : ∀ u ∈ ints l, u.flat = [u] := fun u hu => by obtain ⟨_, _, rfl⟩ := List.mem_map.1 hu; rfl
  have am := HL.at (h0 := h) (l := [(m, obTd l nm), (no, ⟨rows NX ++ [.mu m l.length], 28, 1, true⟩), (po, obTd PX n2), (fo, obBk FX)]) (k := 0) N.nd rfl
  have an := HL.at (h0 := h) (l := [(m, obTd l nm), (no, (⟨rows NX ++ [.mu m l.length], 28, 1, true⟩ : Ob)), (po, obTd PX n2), (fo, obBk FX)]) (k := 1) N.nd rfl
  have hd := HL.del (h0 := h) (l := [(m, obTd l nm), (no, (⟨rows NX ++ [.mu m l.length], 28, 1, true⟩ : Ob)), (po, obTd PX n2), (fo, obBk FX)]) (k := 0) N rfl
  have hne : no ≠ m := by
    intro e; subst e; have := N.nd; simp at this
  have N3 : HN h [no, po, fo] := HN.del N 0
  have g := GV.freeze (n := l.length) (k := false) (xs := ints l) am (fun e => by cases e) (by simp) (fun y hy => by rw [o1 y hy]; rfl) (by rw [flat_ones o1]; exact (List.take_of_length_le (by simp)).symm)
  have q := GStep.cell (S := ⟨sn, tm, HL h [(m, obTd l nm), (no, ⟨rows NX ++ [.mu m l.length], 28, 1, true⟩), (po, obTd PX n2), (fo, obBk FX)]⟩) (p := no) (j := NX.length) an (by simp [rows]) g (by rw [upd_ne _ _ hne]; exact an) (by simp)
  simp only at q
  rw [hd] at q
  have e := HL.put (h0 := h) (A' := ⟨(rows NX ++ [AV.mu m l.length]).set NX.length (.ro false (ints l)), 28, 1, true⟩) (l := [(no, (⟨rows NX ++ [.mu m l.length], 28, 1, true⟩ : Ob)), (po, obTd PX n2), (fo, obBk FX)]) (k := 0) N3.nd rfl
  have e2 : (rows NX ++ [AV.mu m l.length]).set NX.length (AV.ro false (ints l)) = rows (NX ++ [l]) := by simp [rows]
  rw [e2] at e q
  have e3 : ∀ H, H = apH h no po fo (obRo (NX ++ [l]) true) PX n2 FX → GStep ⟨sn, tm, HL h [(m, obTd l nm), (no, ⟨rows NX ++ [.mu m l.length], 28, 1, true⟩), (po, obTd PX n2), (fo, obBk FX)]⟩ ⟨sn, tm, H⟩ → GStep ⟨sn, tm, HL h [(m, obTd l nm), (no, ⟨rows NX ++ [.mu m l.length], 28, 1, true⟩), (po, obTd PX n2), (fo, obBk FX)]⟩ ⟨sn, tm, apH h no po fo (obRo (NX ++ [l]) true) PX n2 FX⟩ := fun H e g => by subst e; exact g
  exact e3 _ e q
end Go.Par
