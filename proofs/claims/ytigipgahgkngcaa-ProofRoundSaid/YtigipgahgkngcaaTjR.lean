/- Rows growing, over any memory. -/
import Derived.Test.YtigipgahgkngcaaRwA
set_option linter.unusedSimpArgs false
set_option linter.unusedVariables false
set_option maxRecDepth 8000
set_option maxHeartbeats 2000000
namespace Go.Par
open Go.Proofs

def plG (hb : Heap) (o M : Nat) (row : Nat → List Int) (f : Nat → Nat) (nn : Nat → Bool) (p k : Nat) : Heap := FH hb o (plC M f row p k) f M (plR row nn p k)
section
variable {hb : Heap} {o : Nat} {M : Nat} {row : Nat → List Int} {f : Nat → Nat} {nn : Nat → Bool} {p y : Nat}
theorem plG.full : plG hb o M row f nn p (row p).length = plG hb o M row f nn (p + 1) 0 := by
  unfold plG
  have e1 : plC M f row p (row p).length = plC M f row (p + 1) 0 := by
    unfold plC; congr 1; exact tab_congr fun i _ => by rw [plS_full]
  have e2 : plR row nn p (row p).length = plR row nn (p + 1) 0 := by
    funext i; unfold plR; rw [plS_full]
  rw [e1, e2]
theorem plG.at_o : plG hb o M row f nn p y o = some (plC M f row p y) := FN.at_out
theorem plG.at_r (N : FN hb o f M) {i : Nat} (hi : i < M) : plG hb o M row f nn p y (f i) = some (plR row nn p y i) := N.at_row hi
theorem plG.app (N : FN hb o f M) (hp : p < M) (hy : y < (row p).length) {n' : Nat} (hn' : plG hb o M row f nn p y n' = none) {pl : List Int} (hpl : pl = plS row p y p) {qq : Int} (hq : (row p)[y] = qq) :
    upd (upd (plG hb o M row f nn p y) (f p) none) n' (some ⟨(ints pl).take y ++ [.int .i64 qq], 3, 1, true⟩) o = some (plC M f row p y) ∧
    ∃ f' nn', FN hb o f' M ∧ 
      upd (upd (upd (plG hb o M row f nn p y) (f p) none) n' (some ⟨(ints pl).take y ++ [.int .i64 qq], 3, 1, true⟩)) o (some ⟨(plC M f row p y).cells.set p (.mu n' (y + 1)), (plC M f row p y).ty, (plC M f row p y).sz, (plC M f row p y).nn⟩) = plG hb o M row f' nn' p (y + 1) := by
  have lpl : pl.length = y := by rw [hpl, plS_at, List.length_take]; omega
  have hft : (ints pl).take y = ints pl := List.take_of_length_le (by simp [lpl])
  rw [hft]
  obtain ⟨q1, q2, q3⟩ := N.fresh hn'
  obtain ⟨N', he⟩ := N.grow (C := plC M f row p y) (R := plR row nn p y) (C' := plC M (fun i => if i = p then n' else f i) row p (y + 1)) hp ⟨ints pl ++ [.int .i64 qq], 3, 1, true⟩ hn'
  refine ⟨?_, fun i => if i = p then n' else f i, fun i => if i = p then true else nn i, N', ?_⟩
  · rw [upd_ne _ _ (Ne.symm q1), upd_ne _ _ (Ne.symm (N.ne p hp))]; exact plG.at_o
  have stepC : (⟨(plC M f row p y).cells.set p (.mu n' (y + 1)), (plC M f row p y).ty, (plC M f row p y).sz, (plC M f row p y).nn⟩ : Ob) = plC M (fun i => if i = p then n' else f i) row p (y + 1) := by
    simp only [plC, set_tab]
    congr 1
    refine tab_congr fun i _ => ?_
    rw [plS_step row p i hy]
    by_cases e : i = p
    · subst e; simp [← hpl, lpl]
    · simp [e]
  have stepR : (fun i => if i = p then (⟨ints pl ++ [.int .i64 qq], 3, 1, true⟩ : Ob) else plR row nn p y i) = plR row (fun i => if i = p then true else nn i) p (y + 1) := by
    funext i
    simp only [plR]
    rw [plS_step row p i hy]
    by_cases e : i = p
    · subst e; simp [← hpl, hq]
    · simp [e]
  rw [stepC]
  unfold plG
  rw [he, stepR]
end
end Go.Par
