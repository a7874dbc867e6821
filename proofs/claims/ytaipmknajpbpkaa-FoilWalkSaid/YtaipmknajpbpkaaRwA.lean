/- Rows of a play as objects: one row grows, or is made anew. -/
import Derived.Test.YtaipmknajpbpkaaKgA
import Derived.Test.YtaipmknajpbpkaaAgA
set_option linter.unusedSimpArgs false
set_option linter.unusedVariables false
set_option maxRecDepth 8000
set_option maxHeartbeats 2000000
namespace Go.Par
open Go.Proofs

def plS (row : Nat → List Int) (p k i : Nat) : List Int := if i < p then row i else if i = p then (row i).take k else []
theorem plS_zero (row : Nat → List Int) (i : Nat) : plS row 0 0 i = [] := by unfold plS; simp
theorem plS_full (row : Nat → List Int) (p i : Nat) : plS row p (row p).length i = plS row (p + 1) 0 i := by
  unfold plS
  by_cases h : i < p
  · rw [if_pos h, if_pos (by omega)]
  · rw [if_neg h]
    by_cases e : i = p
    · subst e; simp
    · rw [if_neg e, if_neg (by omega)]; split <;> simp
theorem plS_step (row : Nat → List Int) (p i : Nat) {k : Nat} (hk : k < (row p).length) : plS row p (k + 1) i = plS row p k i ++ if i = p then [(row p)[k]] else [] := by
  unfold plS
  by_cases h : i < p
  · rw [if_pos h, if_pos h, if_neg (by omega)]; simp
  · rw [if_neg h, if_neg h]
    by_cases e : i = p
    · subst e; rw [if_pos rfl, if_pos rfl, if_pos rfl, List.take_succ_eq_append_getElem hk]
    · simp [e]
theorem plS_at (row : Nat → List Int) (p k : Nat) : plS row p k p = (row p).take k := by unfold plS; simp
theorem plS_ne (row : Nat → List Int) (p i : Nat) (h : i ≠ p) : plS row (p + 1) 0 i = plS row p 0 i := by
  unfold plS
  by_cases q : i < p
  · rw [if_pos q, if_pos (by omega)]
  · rw [if_neg q, if_neg (by omega), if_neg h]; split <;> simp
theorem plS_self (row : Nat → List Int) (p : Nat) : plS row (p + 1) 0 p = row p := by unfold plS; simp
def plC (M : Nat) (f : Nat → Nat) (row : Nat → List Int) (p k : Nat) : Ob := ⟨tab M fun i => .mu (f i) (plS row p k i).length, 22, 1, true⟩
def plR (row : Nat → List Int) (nn : Nat → Bool) (p k : Nat) : Nat → Ob := fun i => ⟨ints (plS row p k i), 3, 1, nn i⟩
theorem nx_few {g : G} (hm : mayE g = 0) {v : Nat} (hv : v < g.owner.length) : (nx g v).length ≤ g.owner.length := by
  obtain ⟨h1, h2⟩ := nx_ok hm hv
  have : ((nx g v).map Int.toNat).length ≤ g.owner.length := by
    refine nodup_lt_len ?_ fun x hx => ?_
    · rw [List.Nodup, List.pairwise_map]
      refine h1.imp_of_mem fun {a b} ha hb h e => ?_
      have := (h2 a ha).1; have := (h2 b hb).1; omega
    · obtain ⟨w, hw, rfl⟩ := List.mem_map.1 hx
      have := h2 w hw; omega
  rwa [List.length_map] at this
/-- The row of where one begins, the outer slice, the rows. -/
def PHg (h : Heap) (s o : Nat) (F : List Bool) (M : Nat) (row : Nat → List Int) (f : Nat → Nat) (nn : Nat → Bool) (p k : Nat) : Heap := FH (upd h s (some (obBk F))) o (plC M f row p k) f M (plR row nn p k)
section
variable {h : Heap} {s o : Nat} {F : List Bool} {M : Nat} {row : Nat → List Int} {f : Nat → Nat} {nn : Nat → Bool} {p y : Nat}
theorem PHg.full : PHg h s o F M row f nn p (row p).length = PHg h s o F M row f nn (p + 1) 0 := by
  unfold PHg
  have e1 : plC M f row p (row p).length = plC M f row (p + 1) 0 := by
    unfold plC; congr 1; exact tab_congr fun i _ => by rw [plS_full]
  have e2 : plR row nn p (row p).length = plR row nn (p + 1) 0 := by
    funext i; unfold plR; rw [plS_full]
  rw [e1, e2]
theorem PHg.at_o : PHg h s o F M row f nn p y o = some (plC M f row p y) := FN.at_out
theorem PHg.at_r (N : FN (upd h s (some (obBk F))) o f M) {i : Nat} (hi : i < M) : PHg h s o F M row f nn p y (f i) = some (plR row nn p y i) := N.at_row hi
theorem PHg.at_s (N : FN (upd h s (some (obBk F))) o f M) : PHg h s o F M row f nn p y s = some (obBk F) := (N.base (upd_same h s _) (obBk F)).2.2 _ _
theorem PHg.put_s (N : FN (upd h s (some (obBk F))) o f M) (F' : List Bool) : upd (PHg h s o F M row f nn p y) s (some (obBk F')) = PHg h s o F' M row f nn p y ∧ FN (upd h s (some (obBk F'))) o f M := by
  have := N.base (upd_same h s (some (obBk F))) (obBk F')
  rw [upd_upd] at this
  exact ⟨this.2.1 _ _, this.1⟩
theorem PHg.cell (hp : p < M) : (plC M f row p y).cells.drop p = .mu (f p) (plS row p y p).length :: (plC M f row p y).cells.drop (p + 1) := by
  have hh : p < (plC M f row p y).cells.length := by simp [plC, hp]
  have hC : (plC M f row p y).cells[p]? = some (.mu (f p) (plS row p y p).length) := by
    simp only [plC]; rw [getElem?_tab, if_pos hp]
  rw [List.drop_eq_getElem_cons hh]
  rw [List.getElem?_eq_getElem hh] at hC
  rw [Option.some.inj hC]
theorem PHg.app (N : FN (upd h s (some (obBk F))) o f M) (hp : p < M) (hy : y < (row p).length) {n' : Nat} (hn' : PHg h s o F M row f nn p y n' = none) {pl : List Int} (hpl : pl = plS row p y p) {qq : Int} (hq : (row p)[y] = qq) :
    upd (upd (PHg h s o F M row f nn p y) (f p) none) n' (some ⟨(ints pl).take y ++ [.int .i64 qq], 3, 1, true⟩) o = some (plC M f row p y) ∧
    ∃ f' nn', FN (upd h s (some (obBk F))) o f' M ∧ 
      upd (upd (upd (PHg h s o F M row f nn p y) (f p) none) n' (some ⟨(ints pl).take y ++ [.int .i64 qq], 3, 1, true⟩)) o (some ⟨(plC M f row p y).cells.set p (.mu n' (y + 1)), (plC M f row p y).ty, (plC M f row p y).sz, (plC M f row p y).nn⟩) = PHg h s o F M row f' nn' p (y + 1) := by
  have lpl : pl.length = y := by rw [hpl, plS_at, List.length_take]; omega
  have hft : (ints pl).take y = ints pl := List.take_of_length_le (by simp [lpl])
  rw [hft]
  obtain ⟨q1, q2, q3⟩ := N.fresh hn'
  obtain ⟨N', he⟩ := N.grow (C := plC M f row p y) (R := plR row nn p y) (C' := plC M (fun i => if i = p then n' else f i) row p (y + 1)) hp ⟨ints pl ++ [.int .i64 qq], 3, 1, true⟩ hn'
  refine ⟨?_, fun i => if i = p then n' else f i, fun i => if i = p then true else nn i, N', ?_⟩
  · rw [upd_ne _ _ (Ne.symm q1), upd_ne _ _ (Ne.symm (N.ne p hp))]; exact PHg.at_o
  have stepC : (⟨(plC M f row p y).cells.set p (.mu n' (y + 1)), (plC M f row p y).ty, (plC M f row p y).sz, (plC M f row p y).nn⟩ : Ob) = plC M (fun i => if i = p then n' else f i) row p (y + 1) := by
    simp only [plC, set_tab]
    congr 1
    refine tab_congr fun i _ => ?_
    rw [plS_step row p i hy]
    by_cases e : i = p
    · subst e; simp [← hpl, lpl]
    · simp [e]
  have stepR : (fun i => if i = p then (⟨ints pl ++ [.int .i64 qq], 3, 1, true⟩ : Ob) else plR row nn p y i) = plR row (fun i => if i = p then true else nn i) p (y + 1) := by
    funext i
    simp only [plR]
    rw [plS_step row p i hy]
    by_cases e : i = p
    · subst e; simp [← hpl, hq]
    · simp [e]
  rw [stepC]
  unfold PHg
  rw [he, stepR]
theorem PHg.new (N : FN (upd h s (some (obBk F))) o f M) (hp : p < M) {qq : Int} (hr : row p = [qq]) {n' : Nat} (hn' : PHg h s o F M row f nn p 0 n' = none) :
    upd (PHg h s o F M row f nn p 0) n' (some ⟨[.int .i64 qq], 3, 1, true⟩) o = some (plC M f row p 0) ∧
    ∃ f' nn', FN (upd h s (some (obBk F))) o f' M ∧
      subH (PHg h s o F M row f' nn' (p + 1) 0) (upd (upd (PHg h s o F M row f nn p 0) n' (some ⟨[.int .i64 qq], 3, 1, true⟩)) o (some ⟨(plC M f row p 0).cells.set p (.mu n' 1), (plC M f row p 0).ty, (plC M f row p 0).sz, (plC M f row p 0).nn⟩)) := by
  have hy : 0 < (row p).length := by rw [hr]; simp
  have hpl : ([] : List Int) = plS row p 0 p := by rw [plS_at]; simp
  obtain ⟨q1, q2, q3⟩ := N.fresh hn'
  obtain ⟨h1, f', nn', N', e⟩ := PHg.app N hp hy hn' hpl (qq := qq) (by simp [hr])
  refine ⟨by rw [upd_ne _ _ (Ne.symm q1)]; exact PHg.at_o, f', nn', N', ?_⟩
  have lr : (row p).length = 1 := by rw [hr]; rfl
  rw [← PHg.full, lr, ← e]
  intro x X hx
  by_cases x1 : x = o
  · subst x1; rw [upd_same] at hx ⊢; simpa using hx
  · rw [upd_ne _ _ x1] at hx ⊢
    by_cases x2 : x = n'
    · subst x2; rw [upd_same] at hx ⊢; simpa using hx
    · rw [upd_ne _ _ x2] at hx ⊢
      by_cases x3 : x = f p
      · subst x3; rw [upd_same] at hx; cases hx
      · rw [upd_ne _ _ x3] at hx; exact hx
end
end Go.Par
