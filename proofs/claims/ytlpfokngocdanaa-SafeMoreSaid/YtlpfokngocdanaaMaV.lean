/- A drawn region in two pieces: the second stands under a name while the first is walked. -/
import Derived.Test.YtlpfokngocdanaaMaT
namespace Go.Par

theorem vcPre_append {P : Program} {Θ : Types} {M : List Nat} {all : List Oper} {ob : List Nat} {n : Nat} {h0 : Heap} : ∀ (l1 l2 : List Oper) (i : Nat) (K : Tm → Pend → Heap → Prop) (tm : Tm) (pend : Pend) (H : Heap),
    vcPre P Θ M all ob n h0 i (l1 ++ l2) K tm pend H = vcPre P Θ M all ob n h0 i l1 (fun tm pend H => vcPre P Θ M all ob n h0 (i + l1.length) l2 K tm pend H) tm pend H
  | [], l2, i, K, tm, pend, H => by simp only [List.nil_append, vcPre, List.length_nil, Nat.add_zero]
  | o :: l1, l2, i, K, tm, pend, H => by
    have e : i + (o :: l1).length = i + 1 + l1.length := by simp only [List.length_cons]; omega
    have ih := vcPre_append (P := P) (Θ := Θ) (M := M) (all := all) (ob := ob) (n := n) (h0 := h0) l1 l2 (i + 1) K
    rw [e]
    simp only [List.cons_append, vcPre, ih]

theorem vcDraw_split {P : Program} {Θ : Types} {M : List Nat} {all : List Oper} {m : Nat} {ob : List Nat} {K : St → Prop} {S : St} (q : Nat)
    (H : ∀ B : Tm → Pend → Heap → Prop, (∀ tm pend h, vcPre P Θ M all ob S.n S.h (0 + ((all.take m).take q).length) ((all.take m).drop q) (fun tm pend h => vcTail P Θ M (all.drop m) pend K ⟨S.n, tm, h⟩) tm pend h → B tm pend h) →
      vcPre P Θ M all ob S.n S.h 0 ((all.take m).take q) B S.tm [] S.h) : vcDraw P Θ M all m ob K S := by
  have h := H _ fun tm pend h q => q
  rw [← vcPre_append, List.take_append_drop] at h
  exact h


theorem vcPre_split {P : Program} {Θ : Types} {M : List Nat} {all : List Oper} {ob : List Nat} {n : Nat} {h0 : Heap} {l : List Oper} {i : Nat} {K : Tm → Pend → Heap → Prop} {tm : Tm} {pend : Pend} {hh : Heap} (q : Nat)
    (H : ∀ B : Tm → Pend → Heap → Prop, (∀ tm pend h, vcPre P Θ M all ob n h0 (i + (l.take q).length) (l.drop q) K tm pend h → B tm pend h) → vcPre P Θ M all ob n h0 i (l.take q) B tm pend hh) : vcPre P Θ M all ob n h0 i l K tm pend hh := by
  have h := H _ fun tm pend h q => q
  rw [← vcPre_append, List.take_append_drop] at h
  exact h

end Go.Par
