/- Some of a game's ways: plain laws. -/
import Derived.Test.YtdicfaplohdopaaPlC
namespace Go.Par

def waysRow (g : G) (p : Nat → Int → Bool) (v : Nat) : List Int := (g.next.getD v []).filter (p v)
def waysL (g : G) (p : Nat → Int → Bool) : List (List Int) := tab g.next.length (waysRow g p)

/-- The rows when the first 'x' are done, and 'y' ways of the next one. -/
def waysS (g : G) (p : Nat → Int → Bool) (x y v : Nat) : List Int := if v < x then waysRow g p v else if v = x then ((g.next.getD x []).take y).filter (p x) else []

theorem waysS_zero (g : G) (p : Nat → Int → Bool) (v : Nat) : waysS g p 0 0 v = [] := by simp [waysS]
theorem waysS_next (g : G) (p : Nat → Int → Bool) {x : Nat} (hx : x < g.next.length) (v : Nat) : waysS g p x g.next[x].length v = waysS g p (x + 1) 0 v := by
  unfold waysS
  by_cases e : v < x
  · rw [if_pos e, if_pos (by omega)]
  · by_cases e2 : v = x
    · subst e2; simp [waysRow, hx]
    · rw [if_neg e, if_neg e2, if_neg (by omega)]
      split <;> simp
theorem waysS_step (g : G) (p : Nat → Int → Bool) {x y : Nat} (hx : x < g.next.length) (hy : y < g.next[x].length) (v : Nat) : waysS g p x (y + 1) v = waysS g p x y v ++ if v = x ∧ p x g.next[x][y] = true then [g.next[x][y]] else [] := by
  unfold waysS
  by_cases e : v < x
  · rw [if_pos e, if_pos e, if_neg (by omega)]; simp
  · by_cases e2 : v = x
    · subst e2
      simp only [Nat.lt_irrefl, if_false, if_true, true_and, List.getD_eq_getElem?_getD, List.getElem?_eq_getElem hx, Option.getD_some]
      rw [List.take_succ_eq_append_getElem hy, List.filter_append]
      congr 1
      by_cases q : p v g.next[v][y] = true <;> simp [q]
    · simp [e, e2]
theorem waysS_len {g : G} (hm : mayE g = 0) (p : Nat → Int → Bool) {x y : Nat} (hx : x < g.next.length) : (waysS g p x y x).length ≤ 3000 := by
  have h3 := (may_ok hm).1
  have := rise_len (may_rise hm hx)
  simp only [waysS, Nat.lt_irrefl, if_false, if_true, List.getD_eq_getElem?_getD, List.getElem?_eq_getElem hx, Option.getD_some]
  have h1 := List.length_filter_le (p x) (List.take y g.next[x])
  have h2 : (List.take y g.next[x]).length ≤ g.next[x].length := by simp; omega
  rcases this with e | e
  · rw [e] at h2 ⊢; simp
  · omega

def waysG (g : G) (p : Nat → Int → Bool) : G := if mayE g = 0 then ⟨g.owner, waysL g p⟩ else ⟨[], []⟩

theorem waysL_len (g : G) (p : Nat → Int → Bool) : (waysL g p).length = g.next.length := length_tab _ _
theorem waysL_get (g : G) (p : Nat → Int → Bool) {v : Nat} (h : v < (waysL g p).length) (h' : v < g.next.length) : (waysL g p)[v] = g.next[v].filter (p v) := by
  simp [waysL, waysRow, h']

theorem waysG_fits {g : G} (hf : g.fits) (p : Nat → Int → Bool) : (waysG g p).fits := by
  unfold waysG
  split
  · refine ⟨hf.owner, by simp only [waysL_len]; exact hf.next, fun l hl => ?_⟩
    simp only at hl
    obtain ⟨v, hv, rfl⟩ := mem_tab.1 hl
    have h1 := List.length_filter_le (p v) g.next[v]
    have h2 := hf.row _ (List.getElem_mem hv)
    simp only [waysRow, List.getD_eq_getElem?_getD, List.getElem?_eq_getElem hv, Option.getD_some]
    omega
  · exact ⟨by simp, by simp, by simp⟩

theorem rise_filter {l : List Int} {was n : Int} (h : rise was l n = true) (p : Int → Bool) : rise was (l.filter p) n = true := by
  rw [rise_iff] at h ⊢
  exact ⟨fun w hw => h.1 w (List.mem_filter.1 hw).1, h.2.sublist List.filter_sublist⟩

theorem waysG_may {g : G} (hm : mayE g = 0) (p : Nat → Int → Bool) : mayE (waysG g p) = 0 := by
  obtain ⟨h1, h2, h3⟩ := may_ok hm
  have e0 : waysG g p = ⟨g.owner, waysL g p⟩ := if_pos hm
  have e3 : (waysL g p).length = g.owner.length := by rw [waysL_len, h2]
  have : (List.range g.owner.length).all (okV ⟨g.owner, waysL g p⟩) = true := all_of_range fun v hv => by
    have := h3 v hv
    simp only [okV, Bool.and_eq_true] at this ⊢
    refine ⟨this.1, ?_⟩
    rw [waysL, getD_tab, if_pos (by omega)]
    exact rise_filter this.2 _
  rw [e0]
  unfold mayE
  simp only [e3]
  rw [if_neg (by omega), if_pos trivial, if_pos this]

end Go.Par
