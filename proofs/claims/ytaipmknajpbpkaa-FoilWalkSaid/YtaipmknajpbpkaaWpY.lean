/- The memory of a walk with a map of steps. -/
import Derived.Test.YtaipmknajpbpkaaWpX
set_option linter.unusedSimpArgs false
set_option linter.unusedVariables false
namespace Go.Par
open Go.Proofs

def obS3 (K : List (List Int)) : Ob := ⟨seenK K, 48, 0, true⟩
theorem obS3_cells (K : List (List Int)) : (obS3 K).cells = seenK K := rfl
theorem obS3_mk (K K' : List (List Int)) : (⟨seenK K', (obS3 K).ty, (obS3 K).sz, (obS3 K).nn⟩ : Ob) = obS3 K' := rfl
def obPm (L : List S4) : Ob := ⟨stpM L, 46, 0, true⟩
theorem obPm_cells (L : List S4) : (obPm L).cells = stpM L := rfl
theorem obPm_mk (L L' : List S4) : (⟨stpM L', (obPm L).ty, (obPm L).sz, (obPm L).nn⟩ : Ob) = obPm L' := rfl
def WkH (h : Heap) (w m : Nat) (L : List Nat) (nn : Bool) (K : List (List Int)) : Heap := HL h [(w, obTd (nI L) nn), (m, obS3 K)]
section
variable {h : Heap} {w m : Nat} (N : HN h [w, m]) (L : List Nat) (nn : Bool) (K : List (List Int))
include N
theorem WkH.gw : WkH h w m L nn K w = some (obTd (nI L) nn) := HL.at (k := 0) N.nd rfl
theorem WkH.gm : WkH h w m L nn K m = some (obS3 K) := HL.at (k := 1) N.nd rfl
theorem WkH.pm (K' : List (List Int)) : upd (WkH h w m L nn K) m (some (obS3 K')) = WkH h w m L nn K' := HL.put (k := 1) N.nd rfl
theorem WkH.grow {o' : Nat} (ho : WkH h w m L nn K o' = none) (L' : List Nat) : upd (upd (WkH h w m L nn K) w none) o' (some (obTd (nI L') true)) = WkH h o' m L' true K ∧ HN h [o', m] := by
  obtain ⟨h1, h2⟩ := HL.ren (h0 := h) (A' := obTd (nI L') true) (l := [(w, obTd (nI L) nn), (m, obS3 K)]) (k := 0) N rfl ho
  exact ⟨h1, h2⟩
theorem WkH.sub : subH h (WkH h w m L nn K) := HL.sub N
theorem WkH.drop : upd (WkH h w m L nn K) w none = HL h [(m, obS3 K)] ∧ HN h [m] :=
  ⟨HL.del (h0 := h) (l := [(w, obTd (nI L) nn), (m, obS3 K)]) (k := 0) N rfl, ⟨(List.nodup_cons.1 N.1).2, fun o ho => N.2 o (List.mem_cons_of_mem _ ho)⟩⟩
end
structure WkX where
  sts : List Nat
  p : Nat
  w : Nat
  nn : Bool
def ctC (l : List Int) (x : Int) (y : Nat) : Bool := (l.take y).contains x
theorem ctC_step (l : List Int) (x : Int) {y : Nat} (hy : y < l.length) : ctC l x (y + 1) = (ctC l x y || (l[y] == x)) := by
  unfold ctC
  rw [List.take_succ_eq_append_getElem hy, Bool.eq_iff_iff]
  simp only [List.contains_iff_mem, List.mem_append, List.mem_singleton, Bool.or_eq_true, beq_iff_eq]
  constructor
  · rintro (h | h)
    · exact .inl h
    · exact .inr h.symm
  · rintro (h | h)
    · exact .inl h
    · exact .inr h.symm
end Go.Par
