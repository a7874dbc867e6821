/- A graph turned about: plain laws. -/
import Derived.Test.YtdicfaplohdopaaPlC
import Derived.Test.YtdicfaplohdopaaFnJ
namespace Go.Par

def turned (g : G) : G := ⟨g.owner, befL g⟩

theorem mem_bef {g : G} {v w : Nat} : (v : Int) ∈ bef g w ↔ v < g.next.length ∧ (w : Int) ∈ g.next.getD v [] := by
  simp only [bef, List.mem_map, List.mem_filter, List.mem_range, List.contains_iff_mem]
  constructor
  · rintro ⟨u, ⟨h1, h2⟩, e⟩
    have : u = v := Int.ofNat.inj e
    subst this; exact ⟨h1, h2⟩
  · rintro ⟨h1, h2⟩; exact ⟨v, ⟨h1, h2⟩, rfl⟩

theorem bef_sorted (g : G) (w : Nat) : (bef g w).Pairwise (· < ·) := by
  rw [bef, List.pairwise_map]
  have : ((List.range g.next.length).filter fun v => (g.next.getD v []).contains (w : Int)).Pairwise (· < ·) := List.pairwise_lt_range.sublist (List.filter_sublist)
  exact this.imp fun h => by simpa using h

theorem bef_rise {g : G} (hm : mayE g = 0) (w : Nat) : rise (-1) (bef g w) g.owner.length = true := by
  have h2 := (may_ok hm).2.1
  refine rise_iff.2 ⟨fun v hv => ?_, bef_sorted g w⟩
  simp only [bef, List.mem_map, List.mem_filter, List.mem_range] at hv
  obtain ⟨u, ⟨h, _⟩, rfl⟩ := hv
  simp only [Int.ofNat_eq_natCast]
  omega

theorem turned_may {g : G} (hm : mayE g = 0) : mayE (turned g) = 0 := by
  obtain ⟨h1, h2, h3⟩ := may_ok hm
  have e1 : (turned g).owner = g.owner := rfl
  have e2 : (turned g).next = befL g := rfl
  have e3 : (befL g).length = g.owner.length := by simp [befL]
  have : (List.range g.owner.length).all (okV (turned g)) = true := all_of_range fun v hv => by
    have := h3 v hv
    simp only [okV, Bool.and_eq_true] at this ⊢
    refine ⟨this.1, ?_⟩
    rw [e2, e1, befL, getD_tab, if_pos hv]
    exact bef_rise hm v
  unfold mayE
  rw [e1, e2, e3, if_neg (by omega), if_pos rfl, if_pos this]

theorem mem_nat {g : G} (hm : mayE g = 0) {v : Nat} {w : Int} (hv : v < g.next.length) (hw : w ∈ g.next[v]) : ∃ u : Nat, w = u ∧ u < g.owner.length := by
  have h2 := (may_ok hm).2.1
  have := (may_row hm (show v < g.owner.length by omega) hv).2 w hw
  exact ⟨w.toNat, by omega, by omega⟩

theorem turned_bef {g : G} (hm : mayE g = 0) : befL (turned g) = g.next := by
  have h2 := (may_ok hm).2.1
  refine (tab_ext h2 fun v hv => ?_).symm
  have hv' : v < g.next.length := by omega
  rw [List.getElem?_eq_getElem hv']
  congr 1
  refine sorted_ext (rise_iff.1 (may_rise hm hv')).2 (bef_sorted _ v) fun w => ?_
  have e3 : (turned g).next.length = g.owner.length := by simp [turned, befL]
  have key : ∀ u : Nat, u < g.owner.length → ((u : Int) ∈ bef (turned g) v ↔ (u : Int) ∈ g.next[v]) := by
    intro u hu
    rw [mem_bef, e3]
    have e4 : (turned g).next.getD u [] = bef g u := by rw [turned, befL, getD_tab, if_pos hu]
    rw [e4, mem_bef, List.getD_eq_getElem?_getD, List.getElem?_eq_getElem hv', Option.getD_some]
    exact ⟨fun h => h.2.2, fun h => ⟨hu, hv', h⟩⟩
  constructor
  · intro h
    obtain ⟨u, rfl, hu⟩ := mem_nat hm hv' h
    exact (key u hu).2 h
  · intro h
    obtain ⟨u, e, hu⟩ : ∃ u : Nat, w = u ∧ u < g.owner.length := by
      simp only [bef, List.mem_map, List.mem_filter, List.mem_range, e3] at h
      obtain ⟨u, ⟨h, _⟩, rfl⟩ := h
      exact ⟨u, rfl, h⟩
    subst e
    exact (key u hu).1 h

/-- One vertex alone. -/
def oneL (n v : Nat) : List Bool := tab n fun i => decide (i = v)

theorem reaches_one {g : G} {u : Nat} : ∀ {v : Nat}, Reaches g (oneL g.owner.length u) v → u < g.owner.length ∧ (v = u ∨ ∃ w, Reaches g (oneL g.owner.length u) w ∧ (v : Int) ∈ g.next.getD w []) := by
  intro v h
  induction h with
  | start v hv hf =>
    rw [oneL, hasN_tab hv] at hf
    have : v = u := by simpa using hf
    subst this
    exact ⟨hv, .inl rfl⟩
  | step v w hr hw ih => exact ⟨ih.1, .inr ⟨v, hr, hw⟩⟩

theorem reaches_trans {g : G} {a : List Bool} {u v : Nat} (h1 : Reaches g a u) (h2 : Reaches g (oneL g.owner.length u) v) : Reaches g a v := by
  induction h2 with
  | start v hv hf =>
    rw [oneL, hasN_tab hv] at hf
    have : v = u := by simpa using hf
    subst this
    exact h1
  | step v w _ hw ih => exact .step v w ih hw

theorem reaches_self {g : G} {u : Nat} (h : u < g.owner.length) : Reaches g (oneL g.owner.length u) u := .start u h (by rw [oneL, hasN_tab h]; simp)

theorem turned_way {g : G} (hm : mayE g = 0) {u v : Nat} (hu : u < g.owner.length) (hw : (v : Int) ∈ g.next.getD u []) : (u : Int) ∈ (turned g).next.getD v [] := by
  have h2 := (may_ok hm).2.1
  have hu' : u < g.next.length := by omega
  have hv : v < g.owner.length := by
    rw [List.getD_eq_getElem?_getD, List.getElem?_eq_getElem hu', Option.getD_some] at hw
    have := (may_row hm hu hu').2 _ hw
    omega
  have e4 : (turned g).next.getD v [] = bef g v := by rw [turned, befL, getD_tab, if_pos hv]
  rw [e4, mem_bef]
  exact ⟨hu', hw⟩

theorem reaches_back {g : G} (hm : mayE g = 0) {u v : Nat} (h : Reaches g (oneL g.owner.length u) v) : Reaches (turned g) (oneL g.owner.length v) u := by
  induction h with
  | start v hv hf =>
    rw [oneL, hasN_tab hv] at hf
    have : v = u := by simpa using hf
    subst this
    exact reaches_self (g := turned g) hv
  | step v w hr hw ih =>
    have hv := Reaches.lt hm hr
    have hw' := turned_way hm hv hw
    have hwl := Reaches.lt hm (Reaches.step v w hr hw)
    exact reaches_trans (g := turned g) (a := oneL g.owner.length w) (.step w v (reaches_self (g := turned g) hwl) hw') ih

theorem turned_turned {g : G} (hm : mayE g = 0) : turned (turned g) = g := by
  have := turned_bef hm
  unfold turned at this ⊢
  simp only
  rw [this]

theorem reaches_turned {g : G} (hm : mayE g = 0) {u v : Nat} : Reaches g (oneL g.owner.length u) v ↔ Reaches (turned g) (oneL g.owner.length v) u := by
  constructor
  · exact reaches_back hm
  · intro h
    have := reaches_back (g := turned g) (turned_may hm) h
    rw [turned_turned hm] at this
    exact this
end Go.Par
