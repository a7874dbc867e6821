/- Rows that grow: cells told otherwise. -/
import Derived.Test.YtlpfokngocdanaaMaT
namespace Go.Par

/-- A cell of an object told otherwise. -/
theorem GStep.cell {S : St} {p j : Nat} {x : Ob} {v r : AV} {h1 : Heap} (hx : S.h p = some x) (hv : x.cells[j]? = some v) (g : GV v S.h r h1) (hp : h1 p = some x) (hnn : x.cells ≠ []) :
    GStep S ⟨S.n, S.tm, upd h1 p (some ⟨x.cells.set j r, x.ty, x.sz, x.nn⟩)⟩ := by
  refine ⟨rfl, fun φ w a H T => ?_⟩
  obtain ⟨l, hl, hr⟩ := H.ob p x hx
  cases l with
  | nil => exact absurd hr.1 hnn
  | res => exact hr.elim
  | blk b cap =>
    obtain ⟨cur, k1, k2, k3, k4, k5⟩ := hr
    obtain ⟨φ', e, H', V', ho⟩ := g φ w _ H (k5 j v hv)
    have hf : ∀ o', (upd h1 p (some ⟨x.cells.set j r, x.ty, x.sz, x.nn⟩) o').isSome = (h1 o').isSome := by
      intro o'
      by_cases e1 : o' = p
      · subst e1; rw [upd_same, hp]; rfl
      · rw [upd_ne _ _ e1]
    have hown : ∀ b, own φ' (upd h1 p (some ⟨x.cells.set j r, x.ty, x.sz, x.nn⟩)) b ↔ own φ' h1 b := by
      intro b
      constructor
      · rintro ⟨o', c', q1, q2⟩; exact ⟨o', c', by rwa [hf] at q1, q2⟩
      · rintro ⟨o', c', q1, q2⟩; exact ⟨o', c', by rwa [hf], q2⟩
    have H2 : HR φ' w (upd h1 p (some ⟨x.cells.set j r, x.ty, x.sz, x.nn⟩)) := by
      refine ⟨fun o' y hy => ?_, fun o1 o2 b c c' q1 q2 => ?_, H'.free⟩
      · by_cases e1 : o' = p
        · subst e1
          rw [upd_same] at hy
          cases hy
          have hl' : φ' o' = some (.blk b cap) := e _ _ hl
          obtain ⟨l2, hl2, hr2⟩ := H'.ob o' x hp
          rw [hl'] at hl2
          cases hl2
          refine ⟨_, hl', ?_⟩
          obtain ⟨cur', g1, g2, g3, g4, g5⟩ := hr2
          have hc : cur' = cur := by rw [k1] at g1; cases g1; rfl
          subst hc
          refine ⟨cur', g1, g2, g3, by simpa using g4, fun j' u hu => ?_⟩
          simp only at hu
          by_cases ej : j' = j
          · subst ej
            have hjl : j' < x.cells.length := (List.getElem?_eq_some_iff.1 hv).1
            rw [List.getElem?_set_self hjl] at hu
            cases hu
            exact V'.weaken fun b hb => (hown b).1 hb
          · rw [List.getElem?_set_ne (Ne.symm ej)] at hu
            exact (g5 j' u hu).weaken fun b hb => (hown b).1 hb
        · rw [upd_ne _ _ e1] at hy
          obtain ⟨l, hl, hr⟩ := H'.ob o' y hy
          refine ⟨l, hl, ?_⟩
          cases l with
          | nil => exact hr
          | res => exact hr.elim
          | blk b cap =>
            obtain ⟨cur, g1, g2, g3, g4, g5⟩ := hr
            exact ⟨cur, g1, g2, g3, g4, fun j' u hu => (g5 j' u hu).weaken fun b hb => (hown b).1 hb⟩
      · exact H'.inj o1 o2 b c c' (by rwa [hf] at q1) (by rwa [hf] at q2)
    have hs : ∀ b, own φ' (upd h1 p (some ⟨x.cells.set j r, x.ty, x.sz, x.nn⟩)) b → own φ S.h b := fun b hb => ho b ((hown b).1 hb)
    exact ⟨φ', e, H2, T.mono e (Keeps.less w hs), hs⟩

/-! ### Families of objects -/
/-- The memory with an outer object and 'n' more, by name. -/
def FH (h0 : Heap) (out : Nat) (C : Ob) (f : Nat → Nat) (n : Nat) (R : Nat → Ob) : Heap := fun x =>
  if x = out then some C else match (List.range n).find? (fun i => f i == x) with | some i => some (R i) | none => h0 x

structure FN (h0 : Heap) (out : Nat) (f : Nat → Nat) (n : Nat) : Prop where
  inj : ∀ i j, i < n → j < n → f i = f j → i = j
  ne : ∀ i, i < n → f i ≠ out
  free : ∀ i, i < n → h0 (f i) = none
  out : h0 out = none

theorem find_row {f : Nat → Nat} {n i : Nat} (hi : i < n) (inj : ∀ i j, i < n → j < n → f i = f j → i = j) : (List.range n).find? (fun j => f j == f i) = some i := by
  cases h : (List.range n).find? (fun j => f j == f i) with
  | none =>
    rw [List.find?_eq_none] at h
    exact absurd (h i (by simpa using hi)) (by simp)
  | some j =>
    have h1 := List.find?_some h
    have h2 := List.mem_of_find?_eq_some h
    rw [inj j i (by simpa using h2) hi (by simpa using h1)]

theorem find_none {f : Nat → Nat} {n x : Nat} (h : ∀ i, i < n → f i ≠ x) : (List.range n).find? (fun j => f j == x) = none := by
  rw [List.find?_eq_none]
  intro i hi
  simpa using h i (by simpa using hi)

theorem FN.at_out {h0 : Heap} {out : Nat} {f : Nat → Nat} {n : Nat} {C : Ob} {R : Nat → Ob} : FH h0 out C f n R out = some C := by simp [FH]
theorem FN.at_row {h0 : Heap} {out : Nat} {f : Nat → Nat} {n : Nat} (N : FN h0 out f n) {C : Ob} {R : Nat → Ob} {i : Nat} (hi : i < n) : FH h0 out C f n R (f i) = some (R i) := by
  simp only [FH, if_neg (N.ne i hi), find_row hi N.inj]
theorem FN.at_else {h0 : Heap} {out : Nat} {f : Nat → Nat} {n : Nat} {C : Ob} {R : Nat → Ob} {x : Nat} (h1 : x ≠ out) (h2 : ∀ i, i < n → f i ≠ x) : FH h0 out C f n R x = h0 x := by
  simp only [FH, if_neg h1, find_none h2]

theorem FN.fresh {h0 : Heap} {out : Nat} {f : Nat → Nat} {n : Nat} (N : FN h0 out f n) {C : Ob} {R : Nat → Ob} {x : Nat} (h : FH h0 out C f n R x = none) : x ≠ out ∧ (∀ i, i < n → f i ≠ x) ∧ h0 x = none := by
  have h1 : x ≠ out := by rintro rfl; rw [FN.at_out] at h; cases h
  have h2 : ∀ i, i < n → f i ≠ x := by rintro i hi rfl; rw [N.at_row hi] at h; cases h
  exact ⟨h1, h2, by rwa [FN.at_else h1 h2] at h⟩

/-- A row told anew, under a new name. -/
theorem FN.grow {h0 : Heap} {out : Nat} {f : Nat → Nat} {n : Nat} (N : FN h0 out f n) {C C' : Ob} {R : Nat → Ob} {w n' : Nat} (hw : w < n) (x' : Ob) (h : FH h0 out C f n R n' = none) :
    FN h0 out (fun i => if i = w then n' else f i) n ∧
    upd (upd (upd (FH h0 out C f n R) (f w) none) n' (some x')) out (some C') = FH h0 out C' (fun i => if i = w then n' else f i) n (fun i => if i = w then x' else R i) := by
  obtain ⟨h1, h2, h3⟩ := N.fresh h
  have N' : FN h0 out (fun i => if i = w then n' else f i) n := by
    refine ⟨fun i j hi hj e => ?_, fun i hi => ?_, fun i hi => ?_, N.out⟩
    · by_cases a : i = w <;> by_cases b : j = w
      · rw [a, b]
      · rw [if_pos a, if_neg b] at e; exact absurd e.symm (h2 j hj)
      · rw [if_neg a, if_pos b] at e; exact absurd e (h2 i hi)
      · rw [if_neg a, if_neg b] at e; exact N.inj i j hi hj e
    · split
      · exact h1
      · exact N.ne i hi
    · split
      · exact h3
      · exact N.free i hi
  refine ⟨N', ?_⟩
  funext x
  by_cases e1 : x = out
  · subst e1; rw [upd_same, FN.at_out]
  · rw [upd_ne _ _ e1]
    by_cases e2 : x = n'
    · subst e2
      rw [upd_same]
      have := N'.at_row (C := C') (R := fun i => if i = w then x' else R i) hw
      simp only [if_pos] at this
      exact this.symm
    · rw [upd_ne _ _ e2]
      by_cases e3 : ∃ i, i < n ∧ i ≠ w ∧ f i = x
      · obtain ⟨i, hi, hiw, rfl⟩ := e3
        have hne : f i ≠ f w := fun e => hiw (N.inj i w hi hw e)
        rw [upd_ne _ _ hne, N.at_row hi]
        have := N'.at_row (C := C') (R := fun i => if i = w then x' else R i) hi
        simp only [if_neg hiw] at this
        exact this.symm
      · have g : ∀ i, i < n → (if i = w then n' else f i) ≠ x := by
          intro i hi
          split
          · exact fun e => e2 e.symm
          · rename_i hiw; exact fun e => e3 ⟨i, hi, hiw, e⟩
        rw [FN.at_else (f := fun i => if i = w then n' else f i) e1 g]
        by_cases e4 : x = f w
        · subst e4; rw [upd_same]; exact (N.free w hw).symm
        · rw [upd_ne _ _ e4]
          exact FN.at_else e1 fun i hi e => by
            by_cases a : i = w
            · subst a; exact e4 e.symm
            · exact e3 ⟨i, hi, a, e⟩

/-- Each nil row of an outer slice gets an object of its own. -/
theorem AW.familyK {P : Program} {c : Code} {Q : Exit → St → Prop} {h0 : Heap} {out n : Nat} {ty e : TypeId} {s : Nat} {nn : Bool} {sn : Nat} {tm : Tm}
    (h : ∀ f, FN h0 out f n → AW P c Q ⟨sn, tm, FH h0 out ⟨tab n fun i => .mu (f i) 0, ty, 1, nn⟩ f n fun _ => ⟨[], e, s, false⟩⟩) :
    ∀ (d k : Nat) (f : Nat → Nat), k + d = n → FN h0 out f k → AW P c Q ⟨sn, tm, FH h0 out ⟨tab n fun i => if i < k then .mu (f i) 0 else .nils, ty, 1, nn⟩ f k fun _ => ⟨[], e, s, false⟩⟩
  | 0, k, f, hk, N => by
    obtain rfl : k = n := by omega
    have := h f N
    rwa [show (tab k fun i => if i < k then AV.mu (f i) 0 else .nils) = tab k fun i => .mu (f i) 0 from tab_congr fun i hi => by simp [hi]]
  | d + 1, k, f, hk, N => by
    refine AW.mineCell out k _ e s FN.at_out (by rw [getElem?_tab]; simp; omega) fun o ho => ?_
    simp only at ho
    obtain ⟨h1, h2, h3⟩ := N.fresh ho
    have N' : FN h0 out (fun i => if i = k then o else f i) (k + 1) := by
      refine ⟨fun i j hi hj e => ?_, fun i hi => ?_, fun i hi => ?_, N.out⟩
      · by_cases a : i = k <;> by_cases b : j = k
        · rw [a, b]
        · rw [if_pos a, if_neg b] at e; exact absurd e.symm (h2 j (by omega))
        · rw [if_neg a, if_pos b] at e; exact absurd e (h2 i (by omega))
        · rw [if_neg a, if_neg b] at e; exact N.inj i j (by omega) (by omega) e
      · split
        · exact h1
        · exact N.ne i (by omega)
      · split
        · exact h3
        · exact N.free i (by omega)
    have := AW.familyK h d (k + 1) _ (by omega) N'
    refine cast (congrArg (fun x => AW P c Q ⟨sn, tm, x⟩) ?_) this
    funext x
    by_cases e1 : x = out
    · subst e1
      rw [FN.at_out, upd_ne _ _ (Ne.symm h1), upd_same]
      congr 2
      rw [set_tab]
      refine tab_congr fun i hi => ?_
      by_cases a : i = k
      · simp [a]
      · by_cases b : i < k
        · simp [a, b, show i < k + 1 by omega]
        · simp [a, b, show ¬ i < k + 1 by omega]
    · by_cases e2 : x = o
      · subst e2
        rw [upd_same]
        have := N'.at_row (C := ⟨tab n fun i => if i < k + 1 then .mu (if i = k then x else f i) 0 else .nils, ty, 1, nn⟩) (R := fun _ => ⟨[], e, s, false⟩) (Nat.lt_succ_self k)
        simp only [if_true] at this
        exact this
      · rw [upd_ne _ _ e2, upd_ne _ _ e1]
        dsimp only
        by_cases e3 : ∃ i, i < k ∧ f i = x
        · obtain ⟨i, hi, rfl⟩ := e3
          rw [N.at_row hi]
          have := N'.at_row (C := ⟨tab n fun i => if i < k + 1 then .mu (if i = k then o else f i) 0 else .nils, ty, 1, nn⟩) (R := fun _ => ⟨[], e, s, false⟩) (show i < k + 1 by omega)
          simp only [if_neg (show ¬ i = k by omega)] at this
          exact this
        · rw [FN.at_else (f := f) e1 fun i hi e => e3 ⟨i, hi, e⟩]
          refine FN.at_else e1 fun i hi => ?_
          split
          · exact fun e => e2 e.symm
          · exact fun e => e3 ⟨i, by omega, e⟩

theorem FN.less {h0 : Heap} {out : Nat} {f : Nat → Nat} {n k : Nat} (N : FN h0 out f n) (h : k ≤ n) : FN h0 out f k :=
  ⟨fun i j hi hj e => N.inj i j (by omega) (by omega) e, fun i hi => N.ne i (by omega), fun i hi => N.free i (by omega), N.out⟩

/-- The last row that may still be written is given up. -/
theorem GStep.row {h0 : Heap} {out n k : Nat} {f : Nat → Nat} (N : FN h0 out f (k + 1)) (hk : k < n) {ty : TypeId} {nn : Bool} {R : Nat → Ob} {m : Nat → Nat} {A : Nat → AV} {sn : Nat} {tm : Tm}
    (hs : (R k).sz = 1) (hl : (R k).cells.length = m k) (hf : ∀ u ∈ (R k).cells, u.flat = [u]) (hA : A k = .ro false (R k).cells) :
    GStep ⟨sn, tm, FH h0 out ⟨tab n fun i => if i < k + 1 then .mu (f i) (m i) else A i, ty, 1, nn⟩ f (k + 1) R⟩ ⟨sn, tm, FH h0 out ⟨tab n fun i => if i < k then .mu (f i) (m i) else A i, ty, 1, nn⟩ f k R⟩ := by
  have hrow := N.at_row (C := ⟨tab n fun i => if i < k + 1 then .mu (f i) (m i) else A i, ty, 1, nn⟩) (R := R) (Nat.lt_succ_self k)
  have hne := N.ne k (Nat.lt_succ_self k)
  have flat : ∀ l : List AV, (∀ u ∈ l, u.flat = [u]) → l.flatMap AV.flat = l := by
    intro l
    induction l with
    | nil => intro _; rfl
    | cons a l ih => intro h; rw [List.flatMap_cons, h a (by simp), ih fun u hu => h u (by simp [hu])]; rfl
  have g := GV.freeze (n := m k) hrow (k := false) (xs := (R k).cells) (fun e => by cases e) hl (fun y hy => by rw [hf y hy, hs]; rfl) (by rw [flat _ hf, hs, Nat.mul_one, ← hl, List.take_length])
  have q := GStep.cell (S := ⟨sn, tm, FH h0 out ⟨tab n fun i => if i < k + 1 then .mu (f i) (m i) else A i, ty, 1, nn⟩ f (k + 1) R⟩) (p := out) (j := k) FN.at_out (by rw [getElem?_tab]; simp [hk]) g
    (by rw [upd_ne _ _ (Ne.symm hne)]; exact FN.at_out) (by intro e; have := congrArg List.length e; simp at this; omega)
  dsimp only at q
  refine cast (congrArg (fun x => GStep ⟨sn, tm, FH h0 out ⟨tab n fun i => if i < k + 1 then .mu (f i) (m i) else A i, ty, 1, nn⟩ f (k + 1) R⟩ ⟨sn, tm, x⟩) ?_) q
  have N' := N.less (Nat.le_succ k)
  funext x
  by_cases e1 : x = out
  · subst e1
    rw [FN.at_out, upd_same]
    congr 2
    rw [set_tab]
    refine tab_congr fun i hi => ?_
    by_cases a : i = k
    · subst a; simp [hA]
    · by_cases b : i < k
      · simp [a, b, show i < k + 1 by omega]
      · simp [a, b, show ¬ i < k + 1 by omega]
  · rw [upd_ne _ _ e1]
    by_cases e2 : x = f k
    · subst e2
      rw [upd_same, FN.at_else e1 fun i hi e => by have := N.inj i k (by omega) (by omega) e; omega]
      exact (N.free k (Nat.lt_succ_self k)).symm
    · rw [upd_ne _ _ e2]
      by_cases e3 : ∃ i, i < k ∧ f i = x
      · obtain ⟨i, hi, rfl⟩ := e3
        rw [N'.at_row hi, N.at_row (show i < k + 1 by omega)]
      · rw [FN.at_else e1 fun i hi e => e3 ⟨i, hi, e⟩]
        exact FN.at_else e1 fun i hi e => by
          by_cases a : i = k
          · subst a; exact e2 e.symm
          · exact e3 ⟨i, by omega, e⟩

/-- All rows are given up. -/
theorem GStep.rows {h0 : Heap} {out n : Nat} {f : Nat → Nat} (N : FN h0 out f n) {ty : TypeId} {nn : Bool} {R : Nat → Ob} {m : Nat → Nat} {A : Nat → AV} {sn : Nat} {tm : Tm}
    (hs : ∀ k, k < n → (R k).sz = 1) (hl : ∀ k, k < n → (R k).cells.length = m k) (hf : ∀ k, k < n → ∀ u ∈ (R k).cells, u.flat = [u]) (hA : ∀ k, k < n → A k = .ro false (R k).cells) :
    ∀ k, k ≤ n → GStep ⟨sn, tm, FH h0 out ⟨tab n fun i => if i < k then .mu (f i) (m i) else A i, ty, 1, nn⟩ f k R⟩ ⟨sn, tm, upd h0 out (some ⟨tab n A, ty, 1, nn⟩)⟩
  | 0, _ => by
    have e : (FH h0 out ⟨tab n fun i => if i < 0 then .mu (f i) (m i) else A i, ty, 1, nn⟩ f 0 R) = upd h0 out (some ⟨tab n A, ty, 1, nn⟩) := by
      funext x
      by_cases e1 : x = out
      · subst e1; rw [FN.at_out, upd_same]; simp
      · rw [upd_ne _ _ e1]; exact FN.at_else e1 fun i hi => by omega
    rw [e]; exact GStep.refl _
  | k + 1, h => GStep.trans (GStep.row (N.less h) (by omega) (hs k (by omega)) (hl k (by omega)) (hf k (by omega)) (hA k (by omega))) (GStep.rows N hs hl hf hA k (by omega))

theorem AW.family {P : Program} {c : Code} {Q : Exit → St → Prop} {h0 : Heap} {out n : Nat} {ty : TypeId} (e : TypeId) (s : Nat) {nn : Bool} {sn : Nat} {tm : Tm} (ho : h0 out = none)
    (h : ∀ f, FN h0 out f n → AW P c Q ⟨sn, tm, FH h0 out ⟨tab n fun i => .mu (f i) 0, ty, 1, nn⟩ f n fun _ => ⟨[], e, s, false⟩⟩) : AW P c Q ⟨sn, tm, upd h0 out (some ⟨tab n fun _ => .nils, ty, 1, nn⟩)⟩ := by
  have := AW.familyK h n 0 (fun i => i) (by omega) ⟨fun i j hi => by omega, fun i hi => by omega, fun i hi => by omega, ho⟩
  have e : (FH h0 out ⟨tab n fun i => if i < 0 then .mu i 0 else .nils, ty, 1, nn⟩ (fun i => i) 0 fun _ => ⟨[], e, s, false⟩) = upd h0 out (some ⟨tab n fun _ => .nils, ty, 1, nn⟩) := by
    funext x
    by_cases e1 : x = out
    · subst e1; rw [FN.at_out, upd_same]; simp
    · rw [upd_ne _ _ e1]; exact FN.at_else e1 fun i hi => by omega
  rwa [e] at this

end Go.Par
