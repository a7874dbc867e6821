/- Fixpoints of sets of vertices: plain laws. -/
import Derived.Test.YtlpfokngocdanaaFnE
set_option linter.unusedSimpArgs false
namespace Go.Par

def leS (n : Nat) (a b : List Bool) : Prop := ∀ v, v < n → hasN a v = true → hasN b v = true
theorem leS.refl {n : Nat} (a : List Bool) : leS n a a := fun _ _ h => h
theorem leS.trans {n : Nat} {a b c : List Bool} (h : leS n a b) (k : leS n b c) : leS n a c := fun v hv q => k v hv (h v hv q)
def cntS (a : List Bool) : Nat := a.count true

theorem cntS_le (a : List Bool) : cntS a ≤ a.length := List.count_le_length
theorem cnt_mono : ∀ {n : Nat} {a b : List Bool}, a.length = n → b.length = n → leS n a b → cntS a ≤ cntS b ∧ (a ≠ b → cntS a < cntS b)
  | 0, a, b, ha, hb, _ => by
    have h1 := List.eq_nil_of_length_eq_zero ha
    have h2 := List.eq_nil_of_length_eq_zero hb
    subst h1; subst h2
    exact ⟨Nat.le_refl _, fun h => absurd rfl h⟩
  | n + 1, [], _, ha, _, _ => by simp at ha
  | n + 1, _ :: _, [], _, hb, _ => by simp at hb
  | n + 1, x :: a, y :: b, ha, hb, h => by
    obtain ⟨h1, h2⟩ := cnt_mono (n := n) (a := a) (b := b) (by simpa using ha) (by simpa using hb) (fun v hv q => h (v + 1) (by omega) q)
    have h0 : x = true → y = true := fun e => h 0 (by omega) e
    simp only [cntS, List.count_cons] at h1 h2 ⊢
    cases x <;> cases y <;> simp at h0 ⊢
    · exact ⟨h1, fun e => h2 e⟩
    · omega
    · exact ⟨h1, fun e => h2 e⟩

theorem leS.antisymm {n : Nat} {a b : List Bool} (ha : a.length = n) (hb : b.length = n) (h : leS n a b) (k : leS n b a) : a = b := by
  by_cases e : a = b
  · exact e
  · have h1 := (cnt_mono ha hb h).2 e
    have h2 := (cnt_mono hb ha k).1
    omega

/-- Again and again, until nothing changes. -/
def fixG (F : List Bool → List Bool) : Nat → List Bool → List Bool
  | 0, x => x
  | f + 1, x => if F x = x then x else fixG F f (F x)

theorem fixG_at {F : List Bool → List Bool} {f : Nat} {x : List Bool} (h : F x = x) : fixG F f x = x := by
  cases f with
  | zero => rfl
  | succ f => simp [fixG, h]
theorem fixG_step {F : List Bool → List Bool} {f : Nat} {x : List Bool} (h : ¬ F x = x) : fixG F (f + 1) x = fixG F f (F x) := by simp [fixG, h]

structure Mon (n : Nat) (F : List Bool → List Bool) : Prop where
  len : ∀ x, (F x).length = n
  mono : ∀ x y, leS n x y → leS n (F x) (F y)

theorem fix_down {n : Nat} {F : List Bool → List Bool} (M : Mon n F) : ∀ (f : Nat) (x : List Bool), x.length = n → leS n (F x) x → cntS x < f →
    F (fixG F f x) = fixG F f x ∧ leS n (fixG F f x) x ∧ (fixG F f x).length = n ∧ ∀ y, leS n y (F y) → leS n y x → leS n y (fixG F f x)
  | 0, x, _, _, hc => by omega
  | f + 1, x, hl, hd, hc => by
    by_cases e : F x = x
    · rw [fixG_at e]
      exact ⟨e, leS.refl _, hl, fun y _ h => h⟩
    · rw [fixG_step e]
      have hc' := (cnt_mono (M.len x) hl hd).2 e
      obtain ⟨h1, h2, h3, h4⟩ := fix_down M f (F x) (M.len x) (M.mono _ _ hd) (by omega)
      exact ⟨h1, h2.trans hd, h3, fun y hy h => h4 y hy (hy.trans (M.mono _ _ h))⟩

theorem fix_up {n : Nat} {F : List Bool → List Bool} (M : Mon n F) : ∀ (f : Nat) (x : List Bool), x.length = n → leS n x (F x) → n < f + cntS x →
    F (fixG F f x) = fixG F f x ∧ leS n x (fixG F f x) ∧ (fixG F f x).length = n ∧ ∀ y, leS n (F y) y → leS n x y → leS n (fixG F f x) y
  | 0, x, hl, _, hc => by have := cntS_le x; omega
  | f + 1, x, hl, hd, hc => by
    by_cases e : F x = x
    · rw [fixG_at e]
      exact ⟨e, leS.refl _, hl, fun y _ h => h⟩
    · rw [fixG_step e]
      have hc' := (cnt_mono hl (M.len x) hd).2 (fun h => e h.symm)
      obtain ⟨h1, h2, h3, h4⟩ := fix_up M f (F x) (M.len x) (M.mono _ _ hd) (by omega)
      exact ⟨h1, hd.trans h2, h3, fun y hy h => h4 y hy ((M.mono _ _ h).trans hy)⟩

/-! ### Sets of a game -/
theorem has_not {g : G} {a : List Bool} {v : Nat} (h : v < g.owner.length) : hasN (notL g a) v = !hasN a v := by simp [notL, hasN, getElem?_tab, h]
theorem has_and {g : G} {a b : List Bool} {v : Nat} (h : v < g.owner.length) : hasN (andL g a b) v = (hasN a v && hasN b v) := by simp [andL, hasN, getElem?_tab, h]
theorem has_or {g : G} {a b : List Bool} {v : Nat} (h : v < g.owner.length) : hasN (orL g a b) v = (hasN a v || hasN b v) := by simp [orL, hasN, getElem?_tab, h]
theorem has_force {g : G} {who : Int} {a : List Bool} {v : Nat} (h : v < g.owner.length) : hasN (forceL g who a) v = forceP g who a v := by
  have : ∀ n (f : Nat → Bool), v < n → hasN (tab n f) v = f v := fun n f h => by simp [hasN, h]
  exact this _ _ h
theorem len_not (g : G) (a : List Bool) : (notL g a).length = g.owner.length := length_tab _ _
theorem len_and (g : G) (a b : List Bool) : (andL g a b).length = g.owner.length := length_tab _ _
theorem len_or (g : G) (a b : List Bool) : (orL g a b).length = g.owner.length := length_tab _ _
theorem len_force (g : G) (who : Int) (a : List Bool) : (forceL g who a).length = g.owner.length := length_tab _ _

theorem hasI_of {n : Nat} {a b : List Bool} (h : leS n a b) {w : Int} (h0 : 0 ≤ w) (hw : w < n) (q : hasI a w = true) : hasI b w = true := h w.toNat (by omega) q

theorem force_mono {g : G} (hm : mayE g = 0) {who : Int} {a b : List Bool} (h : leS g.owner.length a b) : leS g.owner.length (forceL g who a) (forceL g who b) := by
  intro v hv q
  rw [has_force hv] at q ⊢
  have hn := (may_ok hm).2.1
  have hv' : v < g.next.length := by omega
  obtain ⟨_, hr⟩ := may_row hm hv hv'
  simp only [forceP, List.getD_eq_getElem?_getD, List.getElem?_eq_getElem hv', Option.getD_some] at q ⊢
  split at q
  · rename_i ho
    rw [if_pos ho]
    obtain ⟨w, hw, hq⟩ := List.any_eq_true.1 q
    obtain ⟨q0, q1⟩ := hr w hw
    exact List.any_eq_true.2 ⟨w, hw, hasI_of h q0 q1 hq⟩
  · rename_i ho
    rw [if_neg ho]
    refine List.all_eq_true.2 fun w hw => ?_
    obtain ⟨q0, q1⟩ := hr w hw
    exact hasI_of h q0 q1 (List.all_eq_true.1 q w hw)

theorem or_mono {g : G} {a b c d : List Bool} (h : leS g.owner.length a c) (k : leS g.owner.length b d) : leS g.owner.length (orL g a b) (orL g c d) := by
  intro v hv q
  rw [has_or hv, Bool.or_eq_true] at q ⊢
  exact q.imp (h v hv) (k v hv)
theorem and_mono {g : G} {a b c d : List Bool} (h : leS g.owner.length a c) (k : leS g.owner.length b d) : leS g.owner.length (andL g a b) (andL g c d) := by
  intro v hv q
  rw [has_and hv, Bool.and_eq_true] at q ⊢
  exact ⟨h v hv q.1, k v hv q.2⟩

def topL (g : G) : List Bool := notL g []
def botL (g : G) : List Bool := andL g [] []
theorem le_top {g : G} (a : List Bool) : leS g.owner.length a (topL g) := by
  intro v hv _; rw [topL, has_not hv]; simp [hasN]
theorem bot_le {g : G} (a : List Bool) : leS g.owner.length (botL g) a := by
  intro v hv q; rw [botL, has_and hv] at q; simp [hasN] at q

/-- Of what is sure, or goes on outside a row of assume. -/
def stepL (g : G) (sure a x : List Bool) : List Bool := orL g sure (andL g (notL g a) (forceL g 1 x))
theorem step_mon {g : G} (hm : mayE g = 0) (sure a : List Bool) : Mon g.owner.length (stepL g sure a) :=
  ⟨fun _ => len_or _ _ _, fun _ _ h => or_mono (leS.refl _) (and_mono (leS.refl _) (force_mono hm h))⟩
def great (g : G) (F : List Bool → List Bool) : List Bool := fixG F (g.owner.length + 1) (topL g)
theorem great_spec {g : G} {F : List Bool → List Bool} (M : Mon g.owner.length F) : F (great g F) = great g F ∧ (great g F).length = g.owner.length ∧ ∀ y, leS g.owner.length y (F y) → leS g.owner.length y (great g F) := by
  have hc : cntS (topL g) < g.owner.length + 1 := by have := cntS_le (topL g); rw [topL, len_not] at this; rw [topL]; omega
  obtain ⟨h1, _, h3, h4⟩ := fix_down M (g.owner.length + 1) (topL g) (len_not _ _) (le_top _) hc
  exact ⟨h1, h3, fun y hy => h4 y hy (le_top y)⟩
theorem great_mono {g : G} {F F' : List Bool → List Bool} (M : Mon g.owner.length F) (M' : Mon g.owner.length F') (h : ∀ x, leS g.owner.length (F x) (F' x)) : leS g.owner.length (great g F) (great g F') := by
  refine (great_spec M').2.2 _ ?_
  have e := (great_spec M).1
  intro v hv q
  rw [← e] at q
  exact h _ v hv q

def sureL (g : G) (goal y : List Bool) : List Bool := orL g goal (forceL g 1 y)
/-- What the first rows of assume come to. -/
def levelK (g : G) (A : List (List Bool)) (sure : List Bool) : Nat → List Bool
  | 0 => []
  | k + 1 => orL g (levelK g A sure k) (great g (stepL g sure (A.getD k [])))
def levelL (g : G) (A : List (List Bool)) (goal y : List Bool) : List Bool := levelK g A (sureL g goal y) A.length

theorem levelK_mono {g : G} (hm : mayE g = 0) {A : List (List Bool)} {s t : List Bool} (h : leS g.owner.length s t) : ∀ k, leS g.owner.length (levelK g A s k) (levelK g A t k)
  | 0 => leS.refl _
  | k + 1 => or_mono (levelK_mono hm h k) (great_mono (step_mon hm _ _) (step_mon hm _ _) fun _ => or_mono h (leS.refl _))

theorem level_mon {g : G} (hm : mayE g = 0) {A : List (List Bool)} (hA : 0 < A.length) (goal : List Bool) : Mon g.owner.length (levelL g A goal) := by
  refine ⟨fun y => ?_, fun _ _ h => levelK_mono hm (or_mono (leS.refl _) (force_mono hm h)) _⟩
  obtain ⟨k, hk⟩ : ∃ k, A.length = k + 1 := ⟨A.length - 1, by omega⟩
  rw [levelL, hk]
  exact len_or _ _ _

def goalL (g : G) (row z : List Bool) : List Bool := andL g row (forceL g 1 z)
def leastL (g : G) (A : List (List Bool)) (row z : List Bool) : List Bool := fixG (levelL g A (goalL g row z)) (g.owner.length + 1) (botL g)
theorem least_spec {g : G} (hm : mayE g = 0) {A : List (List Bool)} (hA : 0 < A.length) (row z : List Bool) :
    levelL g A (goalL g row z) (leastL g A row z) = leastL g A row z ∧ (leastL g A row z).length = g.owner.length ∧ ∀ y, leS g.owner.length (levelL g A (goalL g row z) y) y → leS g.owner.length (leastL g A row z) y := by
  have M := level_mon hm hA (goalL g row z)
  obtain ⟨h1, _, h3, h4⟩ := fix_up M (g.owner.length + 1) (botL g) (len_and _ _ _) (bot_le _) (by omega)
  exact ⟨h1, h3, fun y hy => h4 y hy (bot_le y)⟩

/-- What is kept: it is of that form. -/
def Kept (g : G) (A : List (List Bool)) (z : List Bool) : Prop := z.length = g.owner.length ∧ ∃ goal, leS g.owner.length (levelL g A goal z) z ∧ True

theorem kept_top {g : G} (A : List (List Bool)) : Kept g A (topL g) := ⟨len_not _ _, [], le_top _, trivial⟩

theorem least_le {g : G} (hm : mayE g = 0) {A : List (List Bool)} (hA : 0 < A.length) {row z : List Bool} (h : Kept g A z) : leS g.owner.length (leastL g A row z) z ∧ Kept g A (leastL g A row z) := by
  obtain ⟨hl, goal, hg, _⟩ := h
  obtain ⟨h1, h2, h3⟩ := least_spec hm hA row z
  refine ⟨h3 z ?_, h2, goalL g row z, by rw [h1]; exact leS.refl _, trivial⟩
  refine leS.trans (levelK_mono hm ?_ _) hg
  intro v hv q
  rw [sureL, has_or hv, Bool.or_eq_true] at q ⊢
  rcases q with q | q
  · rw [goalL, has_and hv, Bool.and_eq_true] at q
    exact .inr q.2
  · exact .inr q

/-- One round. -/
def roundK (g : G) (A E : List (List Bool)) (z : List Bool) : Nat → List Bool
  | 0 => z
  | k + 1 => leastL g A (E.getD k []) (roundK g A E z k)
def roundL (g : G) (A E : List (List Bool)) (z : List Bool) : List Bool := roundK g A E z E.length

theorem round_kept {g : G} (hm : mayE g = 0) {A : List (List Bool)} (hA : 0 < A.length) (E : List (List Bool)) {z : List Bool} (h : Kept g A z) : ∀ k, leS g.owner.length (roundK g A E z k) z ∧ Kept g A (roundK g A E z k)
  | 0 => ⟨leS.refl _, h⟩
  | k + 1 => by
    obtain ⟨h1, h2⟩ := round_kept hm hA E h k
    obtain ⟨h3, h4⟩ := least_le hm hA (row := E.getD k []) h2
    exact ⟨h3.trans h1, h4⟩

/-- How it ends, and after how many rounds. -/
def solveG (g : G) (A E : List (List Bool)) : Nat → List Bool → Nat → List Bool × Nat
  | 0, z, k => (z, k)
  | f + 1, z, k => if z = roundL g A E z then (z, k) else solveG g A E f (roundL g A E z) (k + 1)
def rowsL (g : G) (l : List (List Bool)) : List (List Bool) := if l = [] then [topL g] else l
def solveL (g : G) (A E : List (List Bool)) : List Bool × Nat := solveG g (rowsL g A) (rowsL g E) (g.owner.length + 1) (topL g) 0
theorem rowsL_pos (g : G) (l : List (List Bool)) : 0 < (rowsL g l).length := by
  unfold rowsL
  split
  · simp
  · rename_i h; exact List.length_pos_iff.2 h
end Go.Par
