/- Steps of a strategy as plain values. -/
import Derived.Test.YtaipmknajpbpkaaFgA
import Derived.Test.YtaipmknajpbpkaaMgC
set_option linter.unusedSimpArgs false
set_option linter.unusedVariables false
set_option maxRecDepth 8000
set_option maxHeartbeats 2000000
namespace Go.Par
open Go.Proofs

/-- A step of a strategy. -/
structure S4 where
  a : Int
  b : Int
  c : Int
  d : Int
def S4.l (s : S4) : List AV := [.int .i64 s.a, .int .i64 s.b, .int .i64 s.c, .int .i64 s.d]
def stC (l : List S4) : List AV := l.flatMap S4.l
def avS (l : List S4) : List AV := l.map fun s => .agg s.l
theorem stC_len (l : List S4) : (stC l).length = l.length * 4 := by
  unfold stC
  induction l with
  | nil => rfl
  | cons s l ih => rw [List.flatMap_cons, List.length_append, ih, List.length_cons, show s.l.length = 4 from rfl]; omega
theorem avS_flat (l : List S4) : (avS l).flatMap AV.flat = stC l := by
  unfold avS stC
  rw [List.flatMap_map]; rfl
theorem stC_snoc (l : List S4) (s : S4) : stC (l ++ [s]) = stC l ++ s.l := by simp [stC, List.flatMap_append]
def obSt (l : List S4) (nn : Bool) : Ob := ⟨stC l, 37, 4, nn⟩
@[simp] theorem obSt_cells (l : List S4) (nn : Bool) : (obSt l nn).cells = stC l := rfl
@[simp] theorem obSt_ty (l : List S4) (nn : Bool) : (obSt l nn).ty = 37 := rfl
@[simp] theorem obSt_sz (l : List S4) (nn : Bool) : (obSt l nn).sz = 4 := rfl
@[simp] theorem obSt_nn (l : List S4) (nn : Bool) : (obSt l nn).nn = nn := rfl
theorem obSt_snoc (l : List S4) (s : S4) (nn : Bool) : (⟨List.take (l.length * 4) (stC l) ++ s.l, 37, 4, true⟩ : Ob) = obSt (l ++ [s]) true := by
  rw [List.take_of_length_le (by rw [stC_len]; exact Nat.le_refl _), ← stC_snoc]; rfl

structure FoX where
  o : Nat
  x : Nat
  nn : Bool

theorem updNF {h : Heap} {c : Nat} (X : Ob) (hc : h c = none) : upd (upd h c (some X)) c none = h := by
  rw [upd_upd]
  funext o
  by_cases e : o = c
  · subst e; rw [upd_same, hc]
  · rw [upd_ne _ _ e]

@[simp] theorem eqTy_step : eqTy Try.prog 37 4 = true := by kernel_rfl
def lexS (s t : S4) : Prop := s.a < t.a ∨ (s.a = t.a ∧ s.b < t.b)
end Go.Par
