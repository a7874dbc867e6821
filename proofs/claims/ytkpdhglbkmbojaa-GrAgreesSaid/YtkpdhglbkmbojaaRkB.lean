import Derived.Test.YtkpdhglbkmbojaaRkA
import Derived.Test.YtkpdhglbkmbojaaAgA
set_option linter.unusedSimpArgs false
set_option linter.unusedVariables false
set_option maxRecDepth 8000
set_option maxHeartbeats 1000000
namespace Go.Par
open Go.Proofs

/-! ### Ranks, round by round: plain laws -/
noncomputable def rkV (g : G) (who : Int) (s : List Bool) (k v : Nat) : Int := if hasN (lev g who s k) v then rkN g who s v else -1
noncomputable def rkS (g : G) (who : Int) (s : List Bool) (k : Nat) : List Int := tab g.owner.length (rkV g who s k)
/-- Half of a round. -/
noncomputable def rkX (g : G) (who : Int) (s : List Bool) (k x : Nat) : List Int := tab g.owner.length fun v => if v < x then rkV g who s (k + 1) v else rkV g who s k v

section
variable {g : G} {who : Int} {s : List Bool} {k x v : Nat}
theorem rkS_len : (rkS g who s k).length = g.owner.length := length_tab _ _
theorem rkX_len : (rkX g who s k x).length = g.owner.length := length_tab _ _
theorem rkX_zero : rkX g who s k 0 = rkS g who s k := tab_congr fun v _ => by rw [if_neg (Nat.not_lt_zero _)]
theorem rkX_full : rkX g who s k g.owner.length = rkS g who s (k + 1) := tab_congr fun v hv => by rw [if_pos hv]
theorem rkX_get (h : x < (rkX g who s k x).length) : (rkX g who s k x)[x] = rkV g who s k x := by
  have hx : x < g.owner.length := by rwa [rkX_len] at h
  have : (rkX g who s k x).getD x 0 = rkV g who s k x := by rw [rkX, getD_tab, if_pos hx, if_neg (Nat.lt_irrefl _)]
  simpa [h] using this
theorem rkX_set {y : Int} (hx : rkV g who s (k + 1) x = y) : (rkX g who s k x).set x y = rkX g who s k (x + 1) := by
  rw [rkX, set_tab]
  refine tab_congr fun v _ => ?_
  by_cases e : v = x
  · subst e; simp [hx]
  · by_cases h : v < x
    · simp [e, h, show v < x + 1 by omega]
    · simp [e, h, show ¬ v < x + 1 by omega]
theorem rkX_not (hx : rkV g who s (k + 1) x = rkV g who s k x) : rkX g who s k x = rkX g who s k (x + 1) := by
  refine tab_congr fun v _ => ?_
  by_cases e : v = x
  · subst e; simp [hx]
  · by_cases h : v < x
    · simp [h, show v < x + 1 by omega]
    · simp [h, show ¬ v < x + 1 by omega]
theorem rkV_neg (hv : v < g.owner.length) : rkV g who s k v < 0 ↔ hasN (lev g who s k) v = false := by
  unfold rkV
  cases q : hasN (lev g who s k) v with
  | false => simp
  | true =>
    have := (rk_le_iff (g := g) (who := who) (a := s) (k := k) (v := v)).2 q
    simp; omega
/-- Who is new in a round. -/
theorem rkV_new (hv : v < g.owner.length) (h1 : hasN (lev g who s k) v = false) (h2 : forceP g who (lev g who s k) v = true) : rkV g who s (k + 1) v = ((k + 1 : Nat) : Int) := by
  have hl : lv g who s (k + 1) v := (lv_succ hv).2 (.inr h2)
  have ha : atR g who s v (k + 1) := ⟨hl, fun j hj q => by
    have := lv_mono q (show j ≤ k by omega)
    unfold lv at this
    rw [h1] at this; cases this⟩
  rw [rkV, if_pos (show hasN (lev g who s (k + 1)) v = true from hl), rk_at ha]
theorem rkV_old (hv : v < g.owner.length) (h : hasN (lev g who s k) v = true ∨ forceP g who (lev g who s k) v = false) : rkV g who s (k + 1) v = rkV g who s k v := by
  have key : hasN (lev g who s (k + 1)) v = hasN (lev g who s k) v := by
    rw [lev, has_or hv, has_force hv]
    rcases h with q | q <;> simp [q]
  unfold rkV; rw [key]
theorem rkS_stop (h : ∀ v, v < g.owner.length → hasN (lev g who s (k + 1)) v = hasN (lev g who s k) v) : rkS g who s k = ranksL g who s := by
  have all : ∀ j, ∀ v, v < g.owner.length → lv g who s (k + j) v → lv g who s k v := by
    intro j
    have e : ∀ j, lev g who s (k + j) = lev g who s k := by
      intro j
      induction j with
      | zero => rfl
      | succ j ih =>
        have e1 : lev g who s (k + 1) = lev g who s k := by
          apply leS.antisymm (lev_len _) (lev_len _) <;> intro v hv q
          · rw [h v hv] at q; exact q
          · rw [h v hv]; exact q
        rw [show k + (j + 1) = (k + j) + 1 by omega, lev, ih, ← lev, e1]
    intro v hv q
    unfold lv at q ⊢
    rw [e] at q; exact q
  refine tab_congr fun v hv => ?_
  unfold rkV
  cases q : hasN (lev g who s k) v with
  | true => rfl
  | false =>
    rcases rk_cases (g := g) (who := who) (s := s) v with ⟨h1, _⟩ | ⟨j, h1, hj⟩
    · simp [h1]
    · have : lv g who s k v := by
        by_cases c : k ≤ j
        · exact all (j - k) v hv (by rw [show k + (j - k) = j by omega]; exact hj.1)
        · exact lv_mono hj.1 (by omega)
      unfold lv at this
      rw [q] at this; cases this
theorem rkS_stop' (h : ∀ v, v < g.owner.length → hasN (lev g who s (k + 1)) v = hasN (lev g who s k) v) : rkS g who s (k + 1) = ranksL g who s := by
  rw [← rkS_stop h]
  exact tab_congr fun v hv => by unfold rkV; rw [h v hv]
theorem rkS_full : rkS g who s g.owner.length = ranksL g who s := by
  refine tab_congr fun v hv => ?_
  unfold rkV
  cases q : hasN (lev g who s g.owner.length) v with
  | true => rfl
  | false =>
    rcases rk_cases (g := g) (who := who) (s := s) v with ⟨h1, _⟩ | ⟨j, h1, hj⟩
    · simp [h1]
    · have := rank_le hj
      have := lv_mono hj.1 this
      unfold lv at this
      rw [q] at this; cases this
end

def RKl (g : G) (a b : Nat) (L : List Bool) (R : List Int) : List (Nat × Ob) := [(b, obI R), (a, obB L)]
def RKH (h : Heap) (g : G) (a b : Nat) (L : List Bool) (R : List Int) : Heap := HL h (RKl g a b L R)
abbrev RKN (h : Heap) (a b : Nat) : Prop := HN h [b, a]
section
variable {h : Heap} {a b : Nat} (N : RKN h a b) (g : G) (L : List Bool) (R : List Int)
include N
theorem RKH.gb : RKH h g a b L R b = some (obI R) := HL.at (k := 0) N.nd rfl
theorem RKH.ga : RKH h g a b L R a = some (obB L) := HL.at (k := 1) N.nd rfl
theorem RKH.putB (R' : List Int) : upd (RKH h g a b L R) b (some (obI R')) = RKH h g a b L R' := HL.put (k := 0) N.nd rfl
theorem RKH.putA (L' : List Bool) : upd (RKH h g a b L R) a (some (obB L')) = RKH h g a b L' R := HL.put (k := 1) N.nd rfl
end

structure RmX where
  y : Nat
  m : Bool
def rk0Y (g : G) (s : List Bool) (x : Nat) : List Int := tab g.owner.length fun v => if v < x then (if hasN s v then 0 else -1) else 0
theorem rk0Y_len (g : G) (s : List Bool) (x : Nat) : (rk0Y g s x).length = g.owner.length := length_tab _ _
theorem rk0Y_set (g : G) (s : List Bool) (x : Nat) {y : Int} (hy : (if hasN s x then (0 : Int) else -1) = y) : (rk0Y g s x).set x y = rk0Y g s (x + 1) := by
  rw [rk0Y, set_tab]
  refine tab_congr fun v _ => ?_
  by_cases e : v = x
  · subst e; simp [hy]
  · by_cases h : v < x
    · simp [e, h, show v < x + 1 by omega]
    · simp [e, h, show ¬ v < x + 1 by omega]
theorem rk0Y_full (g : G) (who : Int) (s : List Bool) : rk0Y g s g.owner.length = rkS g who s 0 := tab_congr fun v hv => by
  rw [if_pos hv, rkV]
  have e : hasN (lev g who s 0) v = hasN s v := by rw [lev, hasN_tab hv]
  rw [e]
  cases q : hasN s v with
  | false => rfl
  | true => simp; exact (rk_all q hv).symm
/-- What is known so far, while it is told anew. -/
noncomputable def nowY (g : G) (who : Int) (s : List Bool) (k x : Nat) : List Bool := tab g.owner.length fun v => if v < x then hasN (lev g who s (k + 1)) v else hasN (lev g who s k) v
theorem nowY_len (g : G) (who : Int) (s : List Bool) (k x : Nat) : (nowY g who s k x).length = g.owner.length := length_tab _ _
theorem nowY_set (g : G) (who : Int) (s : List Bool) (k x : Nat) : (nowY g who s k x).set x (hasN (lev g who s (k + 1)) x) = nowY g who s k (x + 1) := by
  rw [nowY, set_tab]
  refine tab_congr fun v _ => ?_
  by_cases e : v = x
  · subst e; simp
  · by_cases h : v < x
    · simp [e, h, show v < x + 1 by omega]
    · simp [e, h, show ¬ v < x + 1 by omega]
theorem tab_has {l : List Bool} {n : Nat} (hl : l.length = n) : (tab n fun v => hasN l v) = l := (tab_ext hl fun i hi => by simp [hasN, show i < l.length by omega]).symm
theorem nowY_zero (g : G) (who : Int) (s : List Bool) (k : Nat) : nowY g who s k 0 = lev g who s k := by
  rw [← tab_has (l := lev g who s k) (lev_len k)]
  exact tab_congr fun v hv => by simp
theorem nowY_full (g : G) (who : Int) (s : List Bool) (k : Nat) : nowY g who s k g.owner.length = lev g who s (k + 1) := by
  rw [← tab_has (l := lev g who s (k + 1)) (lev_len (k + 1))]
  exact tab_congr fun v hv => by simp [hv]

end Go.Par
