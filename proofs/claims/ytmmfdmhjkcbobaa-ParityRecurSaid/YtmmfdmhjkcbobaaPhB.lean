/- The players exchanged, and priorities raised: plain laws. -/
import Derived.Test.YtmmfdmhjkcbobaaPyC
set_option linter.unusedSimpArgs false
set_option linter.unusedVariables false
namespace Go.Par

/-- Rows that are being filled. -/
def pY (n x : Nat) (f : Nat → Int) : List Int := tab n fun v => if v < x then f v else 0
theorem pY_len (n x : Nat) (f : Nat → Int) : (pY n x f).length = n := length_tab _ _
theorem pY_set (n x : Nat) (f : Nat → Int) : (pY n x f).set x (f x) = pY n (x + 1) f := by
  rw [pY, set_tab]
  refine tab_congr fun v _ => ?_
  by_cases e : v = x
  · subst e; simp
  · by_cases h : v < x
    · simp [e, h, show v < x + 1 by omega]
    · simp [e, h, show ¬ v < x + 1 by omega]
theorem pY_full (n : Nat) (f : Nat → Int) : pY n n f = tab n f := tab_congr fun v hv => by simp [hv]
theorem pY_zero (n : Nat) (f : Nat → Int) : pY n 0 f = tab n fun _ => 0 := tab_congr fun v _ => by simp

def turnG (g : G) : G := ⟨tab g.owner.length fun v => 1 - fI g.owner v, g.next⟩
def upL' (P : List Int) (d : Int) (n : Nat) : List Int := tab n fun v => fI P v + d

theorem turn_may {g : G} (hm : mayE g = 0) : mayE (turnG g) = 0 := by
  obtain ⟨h1, h2, h3⟩ := may_ok hm
  have l : (turnG g).owner.length = g.owner.length := length_tab _ _
  unfold mayE
  rw [l, if_neg (by omega), if_pos (by show g.next.length = _; exact h2), if_pos]
  refine all_of_range fun v hv => ?_
  have q := h3 v hv
  simp only [okV, Bool.and_eq_true, Bool.or_eq_true, beq_iff_eq] at q ⊢
  refine ⟨?_, ?_⟩
  · have e : (turnG g).owner.getD v 0 = 1 - g.owner.getD v 0 := by rw [turnG, getD_tab, if_pos hv]
    rw [e]; omega
  · rw [l]; exact q.2
theorem turn_fits {g : G} (hf : g.fits) : (turnG g).fits := ⟨by rw [turnG]; simp only [length_tab]; exact hf.owner, hf.next, hf.row⟩

theorem up_mayP {g : G} {P : List Int} (h : mayP g P = true) {d : Int} (h0 : 0 ≤ d) (hd : ∀ v, v < g.owner.length → fI P v + d < 6) {g' : G} (hm : mayE g' = 0) (hl : g'.owner.length = g.owner.length) : mayP g' (upL' P d g.owner.length) = true := by
  have ok := mayP_ok h
  simp only [mayP, Bool.and_eq_true, decide_eq_true_eq, List.all_eq_true]
  refine ⟨⟨hm, by rw [hl]; exact length_tab _ _⟩, fun p hp => ?_⟩
  obtain ⟨v, hv, rfl⟩ := mem_tab.1 hp
  have := ok.lo v
  have := hd v hv
  exact ⟨by omega, by omega⟩

theorem up_pr {P : List Int} {d n v : Nat} (h0 : 0 ≤ fI P v) (hv : v < n) : prN (upL' P d n) v = prN P v + d := by
  unfold prN
  rw [show fI (upL' P d n) v = fI P v + d by rw [upL', fI, getD_tab, if_pos hv]]
  omega

section
variable {g : G} {P : List Int}
theorem turn_one (h : mayP g P = true) (hd : ∀ v, v < g.owner.length → fI P v < 4) {v : Nat} (hv : v < g.owner.length) : fI (winL (turnG g) (upL' P 1 g.owner.length)) v = 1 - fI (winL g P) v := by
  have ok := mayP_ok h
  have l : (turnG g).owner.length = g.owner.length := length_tab _ _
  have ok' := mayP_ok (up_mayP h (d := 1) (by decide) (fun v hv => by have := hd v hv; omega) (turn_may ok.m) l)
  have eo : ∀ u, u < g.owner.length → ow (turnG g) u = 1 - ow g u := fun u hu => by rw [ow, turnG, getD_tab, if_pos hu]
  have hw := solve_win ok hv
  obtain ⟨who, ewho⟩ : ∃ who, who = fI (winL g P) v := ⟨_, rfl⟩
  rw [← ewho] at hw ⊢
  have W := solve_wn ok hw
  refine win_uniq ok' (T := fI (toL g P)) (D := fun u => u < g.owner.length ∧ fI (winL g P) u = who) (by omega) (fun u hu => by rw [l]; exact hu.1) ⟨fun u hu e => ?_, fun u hu e w hw' => ?_, fun u hu e k => ?_⟩ ⟨hv, ewho.symm⟩
  · exact W.own u hu (by rw [eo u hu.1] at e; omega)
  · exact W.opp u hu (fun q => e (by rw [eo u hu.1, q])) w hw'
  · have e1 : prN (upL' P 1 g.owner.length) u = prN P u + 1 := up_pr (P := P) (d := 1) (n := g.owner.length) (ok.lo u) hu.1
    refine W.circ u hu (by rw [e1] at e; omega) (k.mono (fun a b ha hb q => ⟨q.1, fun o => q.2 (by rw [eo a ha.1.1, o])⟩) fun a ha => ⟨ha.1, ?_⟩)
    have e2 : prN (upL' P 1 g.owner.length) a = prN P a + 1 := up_pr (P := P) (d := 1) (n := g.owner.length) (ok.lo a) ha.1.1
    have := ha.2
    rw [e1, e2] at this
    omega
theorem turn_two (h : mayP g P = true) (hd : ∀ v, v < g.owner.length → fI P v < 4) {v : Nat} (hv : v < g.owner.length) : fI (winL g (upL' P 2 g.owner.length)) v = fI (winL g P) v := by
  have ok := mayP_ok h
  have ok' := mayP_ok (up_mayP h (d := 2) (by decide) (fun v hv => by have := hd v hv; omega) ok.m rfl)
  have hw := solve_win ok hv
  obtain ⟨who, ewho⟩ : ∃ who, who = fI (winL g P) v := ⟨_, rfl⟩
  rw [← ewho] at hw ⊢
  have W := solve_wn ok hw
  refine win_uniq ok' (T := fI (toL g P)) (D := fun u => u < g.owner.length ∧ fI (winL g P) u = who) hw (fun u hu => hu.1) ⟨W.own, W.opp, fun u hu e k => ?_⟩ ⟨hv, ewho.symm⟩
  have e1 : prN (upL' P 2 g.owner.length) u = prN P u + 2 := up_pr (P := P) (d := 2) (n := g.owner.length) (ok.lo u) hu.1
  refine W.circ u hu (by rw [e1] at e; omega) (k.sub fun a ha => ⟨ha.1, ?_⟩)
  have e2 : prN (upL' P 2 g.owner.length) a = prN P a + 2 := up_pr (P := P) (d := 2) (n := g.owner.length) (ok.lo a) ha.1.1
  have := ha.2
  rw [e1, e2] at this
  omega
end
end Go.Par
