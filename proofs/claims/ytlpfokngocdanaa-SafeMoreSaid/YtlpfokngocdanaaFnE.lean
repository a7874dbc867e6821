import Derived.Test.YtlpfokngocdanaaFnD
import Derived.Test.YtlpfokngocdanaaMaU
set_option linter.unusedSimpArgs false
set_option maxRecDepth 8000
namespace Go.Par
open Go.Proofs

theorem G.wide.f {g : G} (h : g.wide) : g.fits := by
  obtain ⟨⟨h1, _⟩, h2, h3⟩ := h
  simp only [DK.bytes] at h1 h2
  have h1' : g.owner.length * 8 ≤ reachBytes := h1
  have h2' : g.next.length * 24 ≤ reachBytes := h2
  refine ⟨by unfold reachBytes at h1'; omega, by unfold reachBytes at h2'; omega, fun l hl => ?_⟩
  have h4 : l.length * 8 ≤ reachBytes := (h3 l hl).1
  unfold reachBytes at h4; omega

/-- A player, out of any number. -/
def who2 (p : Int) : Int := IntKind.i64.wrap ((IntKind.u64.wrap p).tmod 2)
theorem who2_cases (p : Int) : who2 p = 0 ∨ who2 p = 1 := by
  have h : 0 ≤ IntKind.u64.wrap p := by simp [IntKind.wrap, IntKind.signed, IntKind.bits]; omega
  have h2 : (IntKind.u64.wrap p).tmod 2 = (IntKind.u64.wrap p) % 2 := Int.tmod_eq_emod_of_nonneg h
  unfold who2
  rw [h2]
  rcases Int.emod_two_eq (IntKind.u64.wrap p) with e | e <;> rw [e]
  · exact .inl rfl
  · exact .inr rfl

theorem hasI_tab {n : Nat} {f : Nat → Bool} {w : Int} (h0 : 0 ≤ w) (hw : w < n) : hasI (tab n f) w = f w.toNat := by
  unfold hasI
  rw [getD_tab, if_pos (by omega)]

theorem any_not_all {α : Type} (l : List α) (p q : α → Bool) (h : ∀ x ∈ l, q x = !p x) : l.all q = !l.any p := by
  induction l with
  | nil => rfl
  | cons a l ih =>
    rw [List.all_cons, List.any_cons, Bool.not_or, h a (by simp), ih fun x hx => h x (by simp [hx])]
theorem any_not_any {α : Type} (l : List α) (p q : α → Bool) (h : ∀ x ∈ l, q x = !p x) : l.any q = !l.all p := by
  induction l with
  | nil => rfl
  | cons a l ih =>
    rw [List.all_cons, List.any_cons, Bool.not_and, h a (by simp), ih fun x hx => h x (by simp [hx])]

theorem either {g : G} (hm : mayE g = 0) (in_ : List Bool) {who : Int} (hw : who = 0 ∨ who = 1) {v : Nat} (hv : v < g.owner.length) : forceP g (1 - who) (notL g in_) v = !forceP g who in_ v := by
  have hv' : v < g.next.length := by have := (may_ok hm).2.1; omega
  obtain ⟨ho, hr⟩ := may_row hm hv hv'
  have hq : ∀ w ∈ g.next[v], hasI (notL g in_) w = !hasI in_ w := by
    intro w hm
    obtain ⟨h0, h1⟩ := hr w hm
    rw [notL, hasI_tab h0 h1]
    rfl
  unfold forceP
  simp only [List.getD_eq_getElem?_getD, List.getElem?_eq_getElem hv, List.getElem?_eq_getElem hv', Option.getD_some]
  by_cases e : g.owner[v] = who
  · rw [if_pos e, if_neg (by omega)]
    exact any_not_all _ _ _ hq
  · rw [if_neg e, if_pos (by omega)]
    exact any_not_any _ _ _ hq

end Go.Par
