/- Rows that rise, and a graph turned about: plain laws. -/
import Derived.Test.YtlpfokngocdanaaPlA
namespace Go.Par

theorem rise_iff : ∀ {l : List Int} {was n : Int}, rise was l n = true ↔ (∀ w ∈ l, was < w ∧ w < n) ∧ l.Pairwise (· < ·)
  | [], was, n => by simp [rise]
  | v :: r, was, n => by
    have ih := rise_iff (l := r) (was := v) (n := n)
    simp only [rise]
    split
    · rename_i h
      constructor
      · intro q; cases q
      · rintro ⟨q, _⟩; have := q v (by simp); omega
    · rename_i h
      rw [ih, List.pairwise_cons]
      constructor
      · rintro ⟨q, p⟩
        exact ⟨fun w hw => by
          rcases List.mem_cons.1 hw with rfl | hw
          · omega
          · have := q w hw; omega, fun w hw => (q w hw).1, p⟩
      · rintro ⟨q, p, p'⟩
        exact ⟨fun w hw => ⟨p w hw, (q w (by simp [hw])).2⟩, p'⟩

theorem rise_len : ∀ {l : List Int} {was n : Int}, rise was l n = true → l = [] ∨ was + l.length < n
  | [], was, n, _ => .inl rfl
  | v :: r, was, n, h => by
    simp only [rise] at h
    split at h
    · cases h
    · rcases rise_len h with rfl | q
      · right; simp; omega
      · right; simp only [List.length_cons]; omega

theorem sorted_ext : ∀ {a b : List Int}, a.Pairwise (· < ·) → b.Pairwise (· < ·) → (∀ w, w ∈ a ↔ w ∈ b) → a = b
  | [], [], _, _, _ => rfl
  | [], b :: l, _, _, h => absurd ((h b).2 (by simp)) (by simp)
  | a :: l, [], _, _, h => absurd ((h a).1 (by simp)) (by simp)
  | a :: l, b :: m, ha, hb, h => by
    rw [List.pairwise_cons] at ha hb
    have e : a = b := by
      rcases List.mem_cons.1 ((h a).1 (by simp)) with e | e
      · exact e
      · rcases List.mem_cons.1 ((h b).2 (by simp)) with f | f
        · exact f.symm
        · have := hb.1 a e; have := ha.1 b f; omega
    subst e
    rw [sorted_ext ha.2 hb.2 fun w => ?_]
    constructor
    · intro hw
      rcases List.mem_cons.1 ((h w).1 (by simp [hw])) with e | e
      · subst e; have := ha.1 w hw; omega
      · exact e
    · intro hw
      rcases List.mem_cons.1 ((h w).2 (by simp [hw])) with e | e
      · subst e; have := hb.1 w hw; omega
      · exact e

theorem filter_sorted : ∀ {l : List Int} (w : Int), l.Pairwise (· < ·) → l.filter (· == w) = if w ∈ l then [w] else []
  | [], w, _ => by simp
  | a :: l, w, h => by
    rw [List.pairwise_cons] at h
    rw [List.filter_cons, filter_sorted w h.2]
    by_cases e : a = w
    · subst e
      have : a ∉ l := fun q => by have := h.1 a q; omega
      simp [this]
    · have e' : ¬ w = a := fun q => e q.symm
      simp [e, e']

theorem may_rise {g : G} (h : mayE g = 0) {v : Nat} (hv : v < g.next.length) : rise (-1) g.next[v] g.owner.length = true := by
  obtain ⟨h1, h2, h3⟩ := may_ok h
  have := h3 v (by omega)
  simp only [okV, Bool.and_eq_true, List.getD_eq_getElem?_getD, List.getElem?_eq_getElem hv, Option.getD_some] at this
  exact this.2

/-- From where one goes to 'w', by the vertices below 'x' and the first 'y' ways of 'x'. -/
def befS (g : G) (x y w : Nat) : List Int :=
  ((List.range x).flatMap fun v => ((g.next.getD v []).filter (· == (w : Int))).map fun _ => (v : Int)) ++ (((g.next.getD x []).take y).filter (· == (w : Int))).map fun _ => (x : Int)

theorem befS_zero (g : G) (w : Nat) : befS g 0 0 w = [] := by simp [befS]
theorem befS_next (g : G) {x : Nat} (hx : x < g.next.length) (w : Nat) : befS g x g.next[x].length w = befS g (x + 1) 0 w := by
  simp [befS, List.range_succ, hx]
theorem befS_step (g : G) {x y : Nat} (hx : x < g.next.length) (hy : y < g.next[x].length) (w : Nat) : befS g x (y + 1) w = befS g x y w ++ if g.next[x][y] = (w : Int) then [(x : Int)] else [] := by
  simp only [befS, List.getD_eq_getElem?_getD, List.getElem?_eq_getElem hx, Option.getD_some]
  rw [List.take_succ_eq_append_getElem hy, List.filter_append, List.map_append, List.append_assoc]
  congr 2
  by_cases e : g.next[x][y] = (w : Int) <;> simp [e]

/-- From where one goes to 'w'. -/
def bef (g : G) (w : Nat) : List Int := ((List.range g.next.length).filter fun v => (g.next.getD v []).contains (w : Int)).map Int.ofNat

theorem befS_sorted {g : G} (hm : mayE g = 0) (w : Nat) : ∀ {x : Nat}, x ≤ g.next.length → befS g x 0 w = ((List.range x).filter fun v => (g.next.getD v []).contains (w : Int)).map Int.ofNat
  | 0, _ => by simp [befS]
  | x + 1, hx => by
    have hx' : x < g.next.length := by omega
    have ih := befS_sorted hm w (x := x) (by omega)
    rw [← befS_next g hx']
    have e : befS g x g.next[x].length w = befS g x 0 w ++ (g.next[x].filter (· == (w : Int))).map fun _ => (x : Int) := by
      simp [befS, hx']
    rw [e, ih, List.range_succ, List.filter_append, List.map_append]
    congr 1
    have hs := (rise_iff.1 (may_rise hm hx')).2
    rw [filter_sorted _ hs]
    by_cases q : (w : Int) ∈ g.next[x] <;> simp [q, hx']

theorem befS_len {g : G} (hm : mayE g = 0) (w : Nat) {x y : Nat} (hx : x < g.next.length) : (befS g x y w).length ≤ 6000 := by
  have hs := (rise_iff.1 (may_rise hm hx)).2
  have h3 := (may_ok hm).1
  have h2 := (may_ok hm).2.1
  have e : befS g x y w = befS g x 0 w ++ ((g.next[x].take y).filter (· == (w : Int))).map fun _ => (x : Int) := by
    simp [befS, hx]
  rw [e, befS_sorted hm w (Nat.le_of_lt hx), filter_sorted _ (hs.sublist (List.take_sublist _ _))]
  have h1 : ((List.range x).filter fun v => (g.next.getD v []).contains (w : Int)).length ≤ x := by
    have := List.length_filter_le (fun v => (g.next.getD v []).contains (w : Int)) (List.range x)
    simpa using this
  simp only [List.length_append, List.length_map]
  split <;> simp only [List.length_cons, List.length_nil] <;> omega

end Go.Par
