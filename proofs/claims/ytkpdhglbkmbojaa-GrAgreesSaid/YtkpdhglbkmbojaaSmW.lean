/- Measures tell who wins: plain laws. -/
import Derived.Test.YtkpdhglbkmbojaaSmP
import Derived.Test.YtkpdhglbkmbojaaPyC
set_option linter.unusedSimpArgs false
set_option linter.unusedVariables false
set_option maxRecDepth 8000
namespace Go.Par

/-- What of a measure is of a priority, and above it. -/
def trM (q : Nat) : Ms → Nat
  | none => 64000000000
  | some (a, b, c) => c * 16000000 + (if q ≤ 3 then b * 4000 else 0) + (if q ≤ 1 then a else 0)

section
variable {mo : Mo} {p q : Nat} {x y : Ms}
theorem tr_mono (ok : mo.ok) (hx : msOk mo x) (hy : msOk mo y) (hn : y ≠ none) (h : mcode x ≤ mcode y) : trM q x ≤ trM q y := by
  obtain ⟨h1, h2, h3⟩ := ok
  cases y with
  | none => exact absurd rfl hn
  | some u =>
    cases x with
    | none =>
      obtain ⟨a, b, c⟩ := u
      simp only [msOk] at hy
      simp only [mcode] at h
      omega
    | some t =>
      obtain ⟨a, b, c⟩ := t
      obtain ⟨a', b', c'⟩ := u
      simp only [msOk] at hx hy
      simp only [mcode] at h
      rw [lex_iff (by omega) (by omega) (by omega) (by omega)] at h
      simp only [trM]
      split <;> split <;> omega
/-- To go one further makes it no less; of the priority itself, more. -/
theorem tr_next (ok : mo.ok) (hx : msOk mo x) (hq : q = 1 ∨ q = 3 ∨ q = 5) (hp : p ≤ q) (hn : nextM mo p x ≠ none) : trM q x ≤ trM q (nextM mo p x) ∧ (p = q → trM q x < trM q (nextM mo p x)) := by
  obtain ⟨h1, h2, h3⟩ := ok
  cases x with
  | none => exact absurd rfl hn
  | some t =>
    obtain ⟨a, b, c⟩ := t
    simp only [msOk] at hx
    have hp5 : p = 0 ∨ p = 1 ∨ p = 2 ∨ p = 3 ∨ p = 4 ∨ p = 5 := by omega
    rcases hq with rfl | rfl | rfl <;> rcases hp5 with rfl | rfl | rfl | rfl | rfl | rfl <;> first | (exfalso; omega) | skip
    all_goals
      simp only [nextM] at hn ⊢
      (repeat' split) <;> first | (exfalso; simp_all; done) | (simp only [trM]; simp; try omega)
end

theorem count_range (P : List Int) (c : Int) : (List.range P.length).countP (fun u => decide (P.getD u 0 = c)) = P.count c := by
  induction P with
  | nil => rfl
  | cons a P ih =>
    rw [List.length_cons, List.range_succ_eq_map, List.countP_cons, List.countP_map]
    have e : ((fun u => decide ((a :: P).getD u 0 = c)) ∘ Nat.succ) = fun u => decide (P.getD u 0 = c) := by
      funext u; simp
    rw [e, ih, List.count_cons]
    simp

theorem countP_succ (p q : Nat → Bool) {a : Nat} (hp : p a = false) (hq : q a = true) : ∀ l : List Nat, (∀ x ∈ l, p x = true → q x = true) → a ∈ l → l.countP p + 1 ≤ l.countP q
  | [], _, h => by cases h
  | x :: l, hm, h => by
    have hl : l.countP p ≤ l.countP q := List.countP_mono_left fun y hy => hm y (by simp [hy])
    rw [List.countP_cons, List.countP_cons]
    rcases List.mem_cons.1 h with rfl | h
    · rw [hp, hq]; simp; exact hl
    · have ih := countP_succ p q hp hq l (fun y hy => hm y (by simp [hy])) h
      have := hm x (by simp)
      cases c : p x with
      | false => cases q x <;> simp <;> omega
      | true => rw [this c]; simp; omega

section
variable {g : G} {P : List Int}
theorem POk.mg (ok : POk g P) : MG g P := ⟨ok.m, ok.len, fun v _ => ok.lo v, fun v _ => ok.hi v⟩
theorem prP_prN (v : Nat) : prP P v = prN P v := rfl

/-- Who has a measure wins. -/
theorem meas_win (ok : POk g P) {X : List Ms} (hX : Least g P X) {v : Nat} (hv : v < g.owner.length) (h : xM X v ≠ none) : fI (winL g P) v = 1 := by
  have mg := ok.mg
  have oA := ow_all ok.m
  have eq := fun u (hu : u < g.owner.length) => hX.eq mg hu
  have key1 : ∀ u, (u < g.owner.length ∧ xM X u ≠ none) → ow g u = 1 → ∃ w : Nat, gE g u w ∧ w < g.owner.length ∧ nextM (moL P) (prP P u) (xM X w) = xM X u := by
    intro u hu ho
    have e := eq u hu.1
    rw [shouldM, if_pos ho] at e
    rcases min_in ((nx g u).map fun w => nextM (moL P) (prP P u) (xM X w.toNat)) with q | q
    · rw [← e] at q; exact absurd q hu.2
    · obtain ⟨w, hw, q⟩ := List.mem_map.1 q
      obtain ⟨w0, w1⟩ := (nx_ok ok.m hu.1).2 w hw
      exact ⟨w.toNat, by unfold gE; rw [show ((w.toNat : Nat) : Int) = w by omega]; exact hw, by omega, by rw [q, ← e]⟩
  have key0 : ∀ u, (u < g.owner.length ∧ xM X u ≠ none) → ow g u ≠ 1 → ∀ w, gE g u w → w < g.owner.length ∧ mcode (nextM (moL P) (prP P u) (xM X w)) ≤ mcode (xM X u) := by
    intro u hu ho w hw
    have e := eq u hu.1
    rw [shouldM, if_neg ho] at e
    have hwn := gE_lt ok.m hw hu.1
    refine ⟨hwn, ?_⟩
    rw [e]
    refine le_max (List.mem_map.2 ⟨(w : Int), hw, by simp⟩)
  have some0 : ∀ u w, (u < g.owner.length ∧ xM X u ≠ none) → w < g.owner.length → mcode (nextM (moL P) (prP P u) (xM X w)) ≤ mcode (xM X u) → xM X w ≠ none := by
    intro u w hu hw hle e
    rw [e] at hle
    exact hu.2 ((mcode_top mg.mo (hX.ok.2 u hu.1)).2 (Nat.le_antisymm (mcode_top mg.mo (hX.ok.2 u hu.1)).1 hle))
  obtain ⟨T, hT⟩ : ∃ T : Nat → Int, ∀ u, (u < g.owner.length ∧ xM X u ≠ none) → ow g u = 1 → ∃ w : Nat, T u = w ∧ gE g u w ∧ w < g.owner.length ∧ nextM (moL P) (prP P u) (xM X w) = xM X u :=
    ⟨fun u => open Classical in if h : (u < g.owner.length ∧ xM X u ≠ none) ∧ ow g u = 1 then (Classical.choose (key1 u h.1 h.2) : Nat) else 0, fun u h e => ⟨Classical.choose (key1 u h e), by simp only; rw [dif_pos ⟨h, e⟩], Classical.choose_spec (key1 u h e)⟩⟩
  have edge : ∀ u w, (u < g.owner.length ∧ xM X u ≠ none) → stE (gE g) (ow g) 1 T u w → w < g.owner.length ∧ xM X w ≠ none ∧ mcode (nextM (moL P) (prP P u) (xM X w)) ≤ mcode (xM X u) := by
    intro u w hu he
    by_cases ho : ow g u = 1
    · obtain ⟨w', q1, q2, q3, q4⟩ := hT u hu ho
      have : w' = w := by have := he.2 ho; omega
      subst this
      have hle : mcode (nextM (moL P) (prP P u) (xM X w')) ≤ mcode (xM X u) := by rw [q4]; exact Nat.le_refl _
      exact ⟨q3, some0 u w' hu q3 hle, hle⟩
    · obtain ⟨q1, q2⟩ := key0 u hu ho w he.1
      exact ⟨q1, some0 u w hu q1 q2, q2⟩
  refine win_uniq ok (who := 1) (.inr rfl) (T := T) (D := fun u => u < g.owner.length ∧ xM X u ≠ none) (fun u h => h.1) ⟨fun u hu ho => ?_, fun u hu ho w hw => ?_, fun u hu hodd hc => ?_⟩ ⟨hv, h⟩
  · obtain ⟨w, q1, q2, q3, q4⟩ := hT u hu ho
    exact ⟨w, q1, q2, q3, some0 u w hu q3 (by rw [q4]; exact Nat.le_refl _)⟩
  · obtain ⟨q1, q2⟩ := key0 u hu ho w hw
    exact ⟨q1, some0 u w hu q1 q2⟩
  · have hq : prN P u = 1 ∨ prN P u = 3 ∨ prN P u = 5 := by
      have := ok.hi u
      have : prN P u ≤ 5 := by unfold prN; omega
      omega
    have step : ∀ a b, (a < g.owner.length ∧ xM X a ≠ none) → prN P a ≤ prN P u → stE (gE g) (ow g) 1 T a b → trM (prN P u) (xM X b) ≤ trM (prN P u) (xM X a) ∧ (prN P a = prN P u → trM (prN P u) (xM X b) < trM (prN P u) (xM X a)) := by
      intro a b ha hp he
      obtain ⟨e1, e2, e3⟩ := edge a b ha he
      have hb := hX.ok.2 b e1
      have hnn : nextM (moL P) (prP P a) (xM X b) ≠ none := fun z => by
        rw [z] at e3
        exact ha.2 ((mcode_top mg.mo (hX.ok.2 a ha.1)).2 (Nat.le_antisymm (mcode_top mg.mo (hX.ok.2 a ha.1)).1 e3))
      have t1 := tr_next (q := prN P u) mg.mo hb hq (p := prP P a) hp hnn
      have t2 := tr_mono (q := prN P u) mg.mo (next_ok hb) (hX.ok.2 a ha.1) ha.2 e3
      exact ⟨Nat.le_trans t1.1 t2, fun e => Nat.lt_of_lt_of_le (t1.2 e) t2⟩
    obtain ⟨w, hw, he, hr⟩ := hc.head
    have h1 := (step u w hu (Nat.le_refl _) he).2 rfl
    rcases hr with rfl | hr
    · omega
    · have := hr.le (fun a => trM (prN P u) (xM X a)) fun a b ha hb e => (step a b ha.1 ha.2 e).1
      omega

/-- What can be come to of a priority. -/
def Rq (g : G) (P : List Int) (T : Nat → Int) (W : Nat → Prop) (q v u : Nat) : Prop := (W v ∧ prN P v ≤ q) ∧ prN P u = q ∧ (v = u ∨ Way (stE (gE g) (ow g) 1 T) (fun a => W a ∧ prN P a ≤ q) v u)
noncomputable def nq (g : G) (P : List Int) (T : Nat → Int) (W : Nat → Prop) (q v : Nat) : Nat := open Classical in (List.range g.owner.length).countP fun u => decide (Rq g P T W q v u)

/-- Who wins has a measure. -/
theorem win_meas (ok : POk g P) {X : List Ms} (hX : Least g P X) {v : Nat} (hv : v < g.owner.length) (h : fI (winL g P) v = 1) : xM X v ≠ none := by
  classical
  have mg := ok.mg
  have wn := solve_wn ok (.inr rfl)
  obtain ⟨T, hT⟩ : ∃ T, T = fI (toL g P) := ⟨_, rfl⟩
  rw [← hT] at wn
  obtain ⟨W, hW⟩ : ∃ W : Nat → Prop, W = fun v => v < g.owner.length ∧ fI (winL g P) v = 1 := ⟨_, rfl⟩
  rw [← hW] at wn
  have hWn : ∀ u, W u → u < g.owner.length := fun u hu => by rw [hW] at hu; exact hu.1
  have hWv : W v := by rw [hW]; exact ⟨hv, h⟩
  have hle : ∀ q u, nq g P T W q u ≤ P.count ((q : Nat) : Int) := by
    intro q u
    rw [← count_range, ok.len]
    refine List.countP_mono_left fun w _ hw => ?_
    simp only [decide_eq_true_eq] at hw ⊢
    have := hw.2.1
    have lo := ok.lo w
    simp only [prN, fI] at this lo
    omega
  have edge : ∀ a b, W a → stE (gE g) (ow g) 1 T a b → W b := by
    intro a b ha he
    by_cases o : ow g a = 1
    · obtain ⟨w, q1, q2, q3⟩ := wn.own a ha o
      have : w = b := by have := he.2 o; omega
      rw [← this]; exact q3
    · exact wn.opp a ha o b he.1
  have sub : ∀ q a b, W a → prN P a ≤ q → stE (gE g) (ow g) 1 T a b → ∀ u, Rq g P T W q b u → Rq g P T W q a u := by
    intro q a b ha hp he u hu
    refine ⟨⟨ha, hp⟩, hu.2.1, .inr ?_⟩
    rcases hu.2.2 with rfl | hw
    · exact .one ⟨ha, hp⟩ hu.1 he
    · exact .cons ⟨ha, hp⟩ he hw
  have n1 : ∀ q a b, W a → prN P a ≤ q → stE (gE g) (ow g) 1 T a b → nq g P T W q b ≤ nq g P T W q a := by
    intro q a b ha hp he
    exact List.countP_mono_left fun w _ hw => by simp only [decide_eq_true_eq] at hw ⊢; exact sub q a b ha hp he w hw
  have n2 : ∀ q a b, q % 2 = 1 → W a → prN P a = q → stE (gE g) (ow g) 1 T a b → nq g P T W q b + 1 ≤ nq g P T W q a := by
    intro q a b hq ha hp he
    have no : ¬ Rq g P T W q b a := by
      intro hR
      refine wn.circ a ha (by rw [hp, hq]; rfl) ?_
      rw [hp]
      rcases hR.2.2 with rfl | hw
      · exact .one hR.1 hR.1 he
      · exact .cons ⟨ha, by omega⟩ he hw
    have yes : Rq g P T W q a a := ⟨⟨ha, by omega⟩, hp, .inl rfl⟩
    refine countP_succ _ _ (by simpa using no) (by simpa using yes) _ (fun w _ hw => ?_) (List.mem_range.2 (hWn a ha))
    simp only [decide_eq_true_eq] at hw ⊢
    exact sub q a b ha (by omega) he w hw
  obtain ⟨y, hy⟩ : ∃ y : List Ms, y = tab g.owner.length fun u => if W u then some (nq g P T W 1 u, nq g P T W 3 u, nq g P T W 5 u) else none := ⟨_, rfl⟩
  have yW : ∀ u, W u → xM y u = some (nq g P T W 1 u, nq g P T W 3 u, nq g P T W 5 u) := fun u hu => by
    rw [hy, xM, getD_tab, if_pos (hWn u hu), if_pos hu]
  have yN : ∀ u, ¬ W u → xM y u = none := fun u hu => by
    rw [hy, xM]
    by_cases q : u < g.owner.length
    · rw [getD_tab, if_pos q, if_neg hu]
    · rw [getD_tab, if_neg q]
  have mok : Mok g P y := by
    refine ⟨by rw [hy]; exact length_tab _ _, fun u hu => ?_⟩
    by_cases q : W u
    · rw [yW u q]
      exact ⟨hle 1 u, hle 3 u, hle 5 u⟩
    · rw [yN u q]; trivial
  have step : ∀ u w, W u → stE (gE g) (ow g) 1 T u w → mcode (nextM (moL P) (prP P u) (xM y w)) ≤ mcode (xM y u) := by
    intro u w hu he
    have hw := edge u w hu he
    rw [yW u hu, yW w hw, prP_prN]
    have a1 := n1 1 u w hu
    have a3 := n1 3 u w hu
    have a5 := n1 5 u w hu
    have b1 := n2 1 u w rfl hu
    have b3 := n2 3 u w rfl hu
    have b5 := n2 5 u w rfl hu
    have l1 : nq g P T W 1 u ≤ (moL P).a := hle 1 u
    have l3 : nq g P T W 3 u ≤ (moL P).b := hle 3 u
    have l5 : nq g P T W 5 u ≤ (moL P).c := hle 5 u
    have p5 : prN P u ≤ 5 := by have := ok.hi u; unfold prN; omega
    generalize prN P u = p at *
    generalize nq g P T W 1 u = x1 at *
    generalize nq g P T W 3 u = x3 at *
    generalize nq g P T W 5 u = x5 at *
    generalize nq g P T W 1 w = z1 at *
    generalize nq g P T W 3 w = z3 at *
    generalize nq g P T W 5 w = z5 at *
    have hp : p = 0 ∨ p = 1 ∨ p = 2 ∨ p = 3 ∨ p = 4 ∨ p = 5 := by omega
    rcases hp with rfl | rfl | rfl | rfl | rfl | rfl
    · have := a1 (by omega) he; have := a3 (by omega) he; have := a5 (by omega) he
      simp only [nextM, mcode]; omega
    · have := b1 rfl he; have := a3 (by omega) he; have := a5 (by omega) he
      simp only [nextM]; rw [if_pos (by omega)]; simp only [mcode]; omega
    · have := a3 (by omega) he; have := a5 (by omega) he
      simp only [nextM, mcode]; omega
    · have := b3 rfl he; have := a5 (by omega) he
      simp only [nextM]; rw [if_pos (by omega)]; simp only [mcode]; omega
    · have := a5 (by omega) he
      simp only [nextM, mcode]; omega
    · have := b5 rfl he
      simp only [nextM]; rw [if_pos (by omega)]; simp only [mcode]; omega
  have pre : Pre g P y := by
    intro u hu
    by_cases q : W u
    · by_cases o : ow g u = 1
      · obtain ⟨w, q1, q2, q3⟩ := wn.own u q o
        have := step u w q ⟨q2, fun _ => q1⟩
        rw [shouldM, if_pos o]
        refine Nat.le_trans (min_le (List.mem_map.2 ⟨(w : Int), q2, rfl⟩)) ?_
        simpa using this
      · rw [shouldM, if_neg o]
        rcases max_in ((nx g u).map fun w => nextM (moL P) (prP P u) (xM y w.toNat)) with k | k
        · rw [k]; simp [mcode]
        · obtain ⟨w, hw, k⟩ := List.mem_map.1 k
          obtain ⟨w0, w1⟩ := (nx_ok ok.m hu).2 w hw
          rw [← k]
          exact step u w.toNat q ⟨by unfold gE; rw [show ((w.toNat : Nat) : Int) = w by omega]; exact hw, fun z => absurd z o⟩
    · rw [yN u q]
      exact (mcode_top mg.mo (should_ok mg mok hu)).1
  have hlev := hX.min y mok pre v hv
  intro e
  rw [e, yW v hWv] at hlev
  have l1 : nq g P T W 1 v ≤ (moL P).a := hle 1 v
  have l3 : nq g P T W 3 v ≤ (moL P).b := hle 3 v
  have l5 : nq g P T W 5 v ≤ (moL P).c := hle 5 v
  have m1 := mg.mo.a
  have m3 := mg.mo.b
  have m5 := mg.mo.c
  simp only [mcode] at hlev
  omega
end
end Go.Par
