/- Measures: what the laws of small say of them, plain. -/
import Derived.Test.YtihlpchiomkinaaSmP
import Derived.Test.YtihlpchiomkinaaAgB
set_option linter.unusedSimpArgs false
set_option linter.unusedVariables false
set_option maxRecDepth 8000
namespace Go.Par

/-- One measure is above another one, from a priority on (or no less, of an even one). -/
def fallsM (t u : Nat × Nat × Nat) (p : Nat) : Bool :=
  if t.2.2 ≠ u.2.2 then decide (u.2.2 < t.2.2) else if p ≤ 3 then (if t.2.1 ≠ u.2.1 then decide (u.2.1 < t.2.1) else if p ≤ 1 then (if t.1 ≠ u.1 then decide (u.1 < t.1) else decide (p % 2 = 0)) else decide (p % 2 = 0)) else decide (p % 2 = 0)

theorem falls_next {mo : Mo} {p : Nat} {t u : Nat × Nat × Nat} (ok : mo.ok) (ht : msOk mo (some t)) (hu : msOk mo (some u)) (hp : p ≤ 5) (h : mcode (nextM mo p (some u)) ≤ mcode (some t)) : fallsM t u p = true := by
  have hk := mcode_top ok ht
  obtain ⟨h1, h2, h3⟩ := ok
  obtain ⟨a, b, c⟩ := t
  obtain ⟨a', b', c'⟩ := u
  simp only [msOk] at ht hu
  have e : ∀ (a b c : Nat), mcode (some (a, b, c)) = c * 16000000 + b * 4000 + a := fun _ _ _ => rfl
  have e0 : mcode none = 64000000000 := rfl
  rw [e] at h hk
  obtain ⟨q0, q1, q2⟩ := ht
  obtain ⟨r0, r1, r2⟩ := hu
  have L := @lex_iff
  match p, hp with
  | 0, _ =>
    simp only [nextM, e] at h
    rw [lex_iff (by omega) (by omega) (by omega) (by omega)] at h
    simp only [fallsM]; clear hk L e
    repeat' split
    all_goals simp only [decide_eq_true_eq]
    all_goals omega
  | 1, _ =>
    simp only [nextM] at h
    simp only [fallsM]
    have h' : c' < c ∨ (c' = c ∧ (b' < b ∨ (b' = b ∧ a' < a))) := by
      split at h
      · rw [e, lex_iff (by omega) (by omega) (by omega) (by omega)] at h; clear hk L e; omega
      · split at h
        · rw [e, lex_iff (by omega) (by omega) (by omega) (by omega)] at h; clear hk L e; omega
        · split at h
          · rw [e, lex_iff (by omega) (by omega) (by omega) (by omega)] at h; clear hk L e; omega
          · rw [e0] at h; clear L e; exfalso; omega
    clear hk L e h
    repeat' split
    all_goals simp only [decide_eq_true_eq]
    all_goals omega
  | 2, _ =>
    simp only [nextM, e] at h
    rw [lex_iff (by omega) (by omega) (by omega) (by omega)] at h
    simp only [fallsM]; clear hk L e
    repeat' split
    all_goals simp only [decide_eq_true_eq]
    all_goals omega
  | 3, _ =>
    simp only [nextM] at h
    simp only [fallsM]
    have h' : c' < c ∨ (c' = c ∧ b' < b) := by
      split at h
      · rw [e, lex_iff (by omega) (by omega) (by omega) (by omega)] at h; clear hk L e; omega
      · split at h
        · rw [e, lex_iff (by omega) (by omega) (by omega) (by omega)] at h; clear hk L e; omega
        · rw [e0] at h; clear L e; exfalso; omega
    clear hk L e h
    repeat' split
    all_goals simp only [decide_eq_true_eq]
    all_goals omega
  | 4, _ =>
    simp only [nextM, e] at h
    rw [lex_iff (by omega) (by omega) (by omega) (by omega)] at h
    simp only [fallsM]; clear hk L e
    repeat' split
    all_goals simp only [decide_eq_true_eq]
    all_goals omega
  | 5, _ =>
    simp only [nextM] at h
    simp only [fallsM]
    have h' : c' < c := by
      split at h
      · rw [e, lex_iff (by omega) (by omega) (by omega) (by omega)] at h; clear hk L e; omega
      · rw [e0] at h; clear L e; exfalso; omega
    clear hk L e h
    repeat' split
    all_goals simp only [decide_eq_true_eq]
    all_goals omega

def fallP (L : List Ms) (P : List Int) (v : Nat) (w : Int) : Bool :=
  match xM L v, xM L w.toNat with
  | none, _ => true
  | some _, none => false
  | some t, some u => fallsM t u (prP P v)

section
variable {g : G} {P : List Int} {L : List Ms} {v : Nat}
theorem MG.pr (ok : MG g P) (hv : v < g.owner.length) : prP P v ≤ 5 := by
  have h1 := ok.lo v hv
  have h2 := ok.hi v hv
  unfold prP; omega
theorem fall_of (ok : MG g P) (h : Mok g P L) (hv : v < g.owner.length) {w : Int} (hw : w ∈ nx g v) (hle : mcode (nextM (moL P) (prP P v) (xM L w.toNat)) ≤ mcode (xM L v)) (ht : xM L v ≠ none) : fallP L P v w = true := by
  have hwn := (nx_ok ok.m hv).2 w hw
  have m1 := h.2 v hv
  have m2 := h.2 w.toNat (by omega)
  unfold fallP
  generalize xM L v = x at *
  generalize xM L w.toNat = y at *
  cases x with
  | none => exact absurd rfl ht
  | some t =>
    cases y with
    | none => exact absurd ((mcode_top ok.mo m1).2 (Nat.le_antisymm (mcode_top ok.mo m1).1 hle)) ht
    | some u => exact falls_next ok.mo m1 m2 (ok.pr hv) hle
theorem falls_sys (ok : MG g P) (h : Least g P L) (hv : v < g.owner.length) (ho : ow g v = 1) (ht : xM L v ≠ none) : (nx g v).any (fallP L P v) = true := by
  have e := h.eq ok hv
  rw [shouldM, if_pos ho] at e
  rcases min_in ((nx g v).map fun w => nextM (moL P) (prP P v) (xM L w.toNat)) with q | q
  · exact absurd (e.trans q) ht
  · obtain ⟨w, hw, q⟩ := List.mem_map.1 q
    exact List.any_eq_true.2 ⟨w, hw, fall_of ok h.ok hv hw (by rw [q, ← e]; exact Nat.le_refl _) ht⟩
theorem falls_env (ok : MG g P) (h : Least g P L) (hv : v < g.owner.length) (ho : ow g v ≠ 1) (ht : xM L v ≠ none) : (nx g v).all (fallP L P v) = true := by
  have e := h.eq ok hv
  rw [shouldM, if_neg ho] at e
  refine List.all_eq_true.2 fun w hw => fall_of ok h.ok hv hw ?_ ht
  rw [e]
  exact le_max (List.mem_map.2 ⟨w, hw, rfl⟩)

/-- Of even priorities alone. -/
structure Evn (P : List Int) : Prop where
  a : P.count 1 = 0
  b : P.count 3 = 0
  c : P.count 5 = 0
  ev : ∀ v, prP P v % 2 = 0
theorem Evn.of (h : ∀ p ∈ P, p % 2 = 0) : Evn P := by
  refine ⟨List.count_eq_zero.2 fun q => absurd (h _ q) (by decide), List.count_eq_zero.2 fun q => absurd (h _ q) (by decide), List.count_eq_zero.2 fun q => absurd (h _ q) (by decide), fun v => ?_⟩
  unfold prP
  by_cases hv : v < P.length
  · have := h _ (List.getElem_mem hv)
    rw [List.getD_eq_getElem?_getD, List.getElem?_eq_getElem hv, Option.getD_some]
    omega
  · rw [List.getD_eq_getElem?_getD, List.getElem?_eq_none (by omega)]; rfl
theorem Evn.mo (e : Evn P) : moL P = ⟨0, 0, 0⟩ := by rw [moL, e.a, e.b, e.c]
theorem next_zero {mo : Mo} {p : Nat} (he : p % 2 = 0) (hp : p ≤ 5) : nextM mo p (some (0, 0, 0)) = some (0, 0, 0) := by
  match p, hp with
  | 0, _ => rfl
  | 1, _ => cases he
  | 2, _ => rfl
  | 3, _ => cases he
  | 4, _ => rfl
  | 5, _ => cases he
theorem even_all (e : Evn P) (h : Mok g P L) (hv : v < g.owner.length) : xM L v = none ∨ xM L v = some (0, 0, 0) := by
  have m := h.2 v hv
  rw [e.mo] at m
  cases q : xM L v with
  | none => exact .inl rfl
  | some t =>
    obtain ⟨a, b, c⟩ := t
    rw [q] at m
    simp only [msOk] at m
    obtain ⟨h1, h2, h3⟩ := m
    right
    rw [show a = 0 by omega, show b = 0 by omega, show c = 0 by omega]
theorem even_lost (ok : MG g P) (e : Evn P) (h : Least g P L) (hv : v < g.owner.length) : xM L v = none ↔ hasN (regL g 0 []) v = true := by
  constructor
  · intro q
    by_cases c : hasN (regL g 0 []) v = true
    · exact c
    exfalso
    have key : ∀ u, u < g.owner.length → xM (tab g.owner.length fun v => if hasN (regL g 0 []) v = true then none else some (0, 0, 0)) u = if hasN (regL g 0 []) u = true then none else some (0, 0, 0) := fun u hu => by rw [xM, getD_tab, if_pos hu]
    have hy : Mok g P (tab g.owner.length fun v => if hasN (regL g 0 []) v = true then none else some (0, 0, 0)) := ⟨length_tab _ _, fun u hu => by
      rw [key u hu]; split
      · trivial
      · simp [msOk]⟩
    have pre : Pre g P (tab g.owner.length fun v => if hasN (regL g 0 []) v = true then none else some (0, 0, 0)) := by
      intro u hu
      have ho := should_ok ok hy hu
      rw [key u hu]
      split
      · exact (mcode_top ok.mo ho).1
      · rename_i hn
        have hf : ¬ forceP g 0 (regL g 0 []) u = true := fun z => hn (reg_force hu z)
        rw [force_iff] at hf
        simp only [not_or, not_and, not_exists] at hf
        obtain ⟨f1, f2⟩ := hf
        have nz := next_zero (mo := moL P) (e.ev u) (ok.pr hu)
        have hz : ∀ w ∈ nx g u, ¬ hasN (regL g 0 []) w.toNat = true → nextM (moL P) (prP P u) (xM (tab g.owner.length fun v => if hasN (regL g 0 []) v = true then none else some (0, 0, 0)) w.toNat) = some (0, 0, 0) := fun w hw hn' => by
          have := (nx_ok ok.m hu).2 w hw
          rw [key _ (by omega), if_neg hn', nz]
        by_cases ho : ow g u = 1
        · have f3 := f2 (by rw [ho]; decide)
          obtain ⟨w, hw, hw2⟩ : ∃ w ∈ nx g u, ¬ hasN (regL g 0 []) w.toNat = true := by
            simp only [Classical.not_forall] at f3
            obtain ⟨w, hw, q⟩ := f3
            exact ⟨w, hw, q⟩
          rw [shouldM, if_pos ho]
          refine Nat.le_trans (min_le (List.mem_map.2 ⟨w, hw, rfl⟩)) ?_
          rw [hz w hw hw2]
          exact Nat.le_refl _
        · have o0 : ow g u = 0 := (ow_ok ok.m hu).resolve_right ho
          rw [shouldM, if_neg ho]
          rcases max_in ((nx g u).map fun w => nextM (moL P) (prP P u) (xM (tab g.owner.length fun v => if hasN (regL g 0 []) v = true then none else some (0, 0, 0)) w.toNat)) with z | z
          · rw [z]; exact Nat.le_refl _
          · obtain ⟨w, hw, z⟩ := List.mem_map.1 z
            rw [← z, hz w hw (f1 o0 w hw)]
            exact Nat.le_refl _
    have := h.min _ hy pre v hv
    rw [key v hv, if_neg c, q] at this
    simp [mcode] at this
  · rw [reg_lev]
    intro q
    have key : ∀ k v, lv g 0 [] k v → xM L v = none := by
      intro k
      induction k with
      | zero => intro v hl; have := (lv_zero (lv_lt hl)).1 hl; simp [hasN] at this
      | succ k ih =>
        intro v hl
        have hv := lv_lt hl
        rcases (lv_succ hv).1 hl with z | z
        · exact ih v z
        · rw [h.eq ok hv]
          rcases force_iff.1 z with ⟨o, w, hw, q⟩ | ⟨o, q⟩
          · have hn := ih _ q
            have le : mcode none ≤ mcode (maxM ((nx g v).map fun w => nextM (moL P) (prP P v) (xM L w.toNat))) := le_max (List.mem_map.2 ⟨w, hw, by rw [hn]; rfl⟩)
            have so := should_ok ok h.ok hv
            rw [shouldM, if_neg (by rw [o]; decide)] at so ⊢
            exact (mcode_top ok.mo so).2 (Nat.le_antisymm (mcode_top ok.mo so).1 le)
          · have o1 : ow g v = 1 := (ow_ok ok.m hv).resolve_left o
            rw [shouldM, if_pos o1]
            rcases min_in ((nx g v).map fun w => nextM (moL P) (prP P v) (xM L w.toNat)) with z | z
            · exact z
            · obtain ⟨w, hw, z⟩ := List.mem_map.1 z
              rw [← z, ih _ (q w hw)]
              rfl
    exact key _ v q

/-- Two greater at each vertex. -/
def upP (P : List Int) : List Int := P.map fun p => p + 2
def upM : Ms → Ms
  | none => none
  | some (a, b, _) => some (0, a, b)
def dnM : Ms → Ms
  | none => none
  | some (_, b, c) => some (b, c, 0)
structure Up (g : G) (P : List Int) : Prop where
  ok : MG g P
  ok2 : MG g (upP P)
  c : (moL P).c = 0
  mo2 : moL (upP P) = ⟨0, (moL P).a, (moL P).b⟩
  pr : ∀ v, v < g.owner.length → prP (upP P) v = prP P v + 2 ∧ prP P v ≤ 3
theorem up_count (P : List Int) (k : Int) : (upP P).count (k + 2) = P.count k := by
  unfold upP
  induction P with
  | nil => rfl
  | cons p P ih =>
    simp only [List.map_cons, List.count_cons, ih]
    congr 1
    by_cases h : p = k
    · rw [h]; simp
    · rw [if_neg (by simp; omega), if_neg (by simp; omega)]
theorem Up.of (ok : MG g P) (h : ∀ p ∈ P, p ≤ 3) : Up g P := by
  have lp := ok.len
  have lu : (upP P).length = g.owner.length := by rw [upP, List.length_map, lp]
  have gd : ∀ v, v < g.owner.length → (upP P).getD v 0 = P.getD v 0 + 2 ∧ P.getD v 0 ≤ 3 := fun v hv => by
    have h1 : v < P.length := by omega
    have h2 : v < (upP P).length := by omega
    rw [List.getD_eq_getElem?_getD, List.getElem?_eq_getElem h2, List.getD_eq_getElem?_getD, List.getElem?_eq_getElem h1]
    refine ⟨by simp [upP], h _ (List.getElem_mem h1)⟩
  have c1 : P.count 5 = 0 := List.count_eq_zero.2 fun q => absurd (h _ q) (by decide)
  have c2 : (upP P).count 1 = 0 := by
    refine List.count_eq_zero.2 fun q => ?_
    obtain ⟨p, hp, q⟩ := List.mem_map.1 q
    obtain ⟨v, hv, e⟩ := List.mem_iff_getElem.1 hp
    have := ok.lo v (by omega)
    rw [List.getD_eq_getElem?_getD, List.getElem?_eq_getElem hv, Option.getD_some, e] at this
    omega
  refine ⟨ok, ⟨ok.m, lu, fun v hv => ?_, fun v hv => ?_⟩, c1, ?_, fun v hv => ?_⟩
  · have := ok.lo v hv; have := gd v hv; omega
  · have := gd v hv; omega
  · rw [moL, c2, show (3 : Int) = 1 + 2 from rfl, show (5 : Int) = 3 + 2 from rfl, up_count, up_count]; rfl
  · have := ok.lo v hv; have := gd v hv; unfold prP; omega
theorem up_ok {mo : Mo} {x : Ms} (h : msOk mo x) : msOk ⟨0, mo.a, mo.b⟩ (upM x) := by
  cases x with
  | none => trivial
  | some t => obtain ⟨a, b, c⟩ := t; simp only [msOk, upM] at h ⊢; omega
theorem dn_ok {mo : Mo} {x : Ms} (h : msOk ⟨0, mo.a, mo.b⟩ x) : msOk mo (dnM x) := by
  cases x with
  | none => trivial
  | some t => obtain ⟨a, b, c⟩ := t; simp only [msOk, dnM] at h ⊢; omega
theorem up_next {mo : Mo} (hc : mo.c = 0) {p : Nat} (hp : p ≤ 3) {x : Ms} (h : msOk mo x) : nextM ⟨0, mo.a, mo.b⟩ (p + 2) (upM x) = upM (nextM mo p x) := by
  cases x with
  | none => rfl
  | some t =>
    obtain ⟨a, b, c⟩ := t
    simp only [msOk] at h
    have c0 : c = 0 := by omega
    subst c0
    match p, hp with
    | 0, _ => rfl
    | 1, _ => by_cases h1 : a < mo.a <;> by_cases h2 : b < mo.b <;> simp [nextM, upM, hc, h1, h2]
    | 2, _ => rfl
    | 3, _ => by_cases h2 : b < mo.b <;> simp [nextM, upM, hc, h2]
theorem dn_next {mo : Mo} (hc : mo.c = 0) {p : Nat} (hp : p ≤ 3) (x : Ms) : dnM (nextM ⟨0, mo.a, mo.b⟩ (p + 2) x) = nextM mo p (dnM x) := by
  cases x with
  | none => rfl
  | some t =>
    obtain ⟨a, b, c⟩ := t
    match p, hp with
    | 0, _ => rfl
    | 1, _ => by_cases h1 : b < mo.a <;> by_cases h2 : c < mo.b <;> simp [nextM, dnM, hc, h1, h2]
    | 2, _ => rfl
    | 3, _ => by_cases h2 : c < mo.b <;> simp [nextM, dnM, hc, h2]
theorem up_mono {mo : Mo} (ok : mo.ok) {x y : Ms} (hc : mo.c = 0) (hx : msOk mo x) (hy : msOk mo y) (h : mcode x ≤ mcode y) : mcode (upM x) ≤ mcode (upM y) := by
  obtain ⟨k1, k2, k3⟩ := ok
  cases y with
  | none =>
    have : msOk ⟨3000, 3000, 3000⟩ (upM x) := by
      cases x with
      | none => trivial
      | some t => obtain ⟨a, b, c⟩ := t; simp only [msOk, upM] at hx ⊢; omega
    exact (mcode_top ⟨Nat.le_refl _, Nat.le_refl _, Nat.le_refl _⟩ this).1
  | some u =>
    obtain ⟨a', b', c'⟩ := u
    cases x with
    | none => simp only [msOk] at hy; simp only [mcode] at h; omega
    | some t =>
      obtain ⟨a, b, c⟩ := t
      simp only [msOk] at hx hy
      simp only [mcode] at h
      rw [lex_iff (by omega) (by omega) (by omega) (by omega)] at h
      simp only [mcode, upM, Nat.zero_mul, Nat.add_zero]
      omega
theorem dn_mono {mo : Mo} (ok : mo.ok) {x y : Ms} (hx : msOk ⟨0, mo.a, mo.b⟩ x) (hy : msOk ⟨0, mo.a, mo.b⟩ y) (h : mcode x ≤ mcode y) : mcode (dnM x) ≤ mcode (dnM y) := by
  obtain ⟨k1, k2, k3⟩ := ok
  cases y with
  | none =>
    have : msOk ⟨3000, 3000, 3000⟩ (dnM x) := by
      cases x with
      | none => trivial
      | some t => obtain ⟨a, b, c⟩ := t; simp only [msOk, dnM] at hx ⊢; omega
    exact (mcode_top ⟨Nat.le_refl _, Nat.le_refl _, Nat.le_refl _⟩ this).1
  | some u =>
    obtain ⟨a', b', c'⟩ := u
    cases x with
    | none => simp only [msOk] at hy; simp only [mcode] at h; omega
    | some t =>
      obtain ⟨a, b, c⟩ := t
      simp only [msOk] at hx hy
      simp only [mcode] at h
      rw [lex_iff (by omega) (by omega) (by omega) (by omega)] at h
      simp only [mcode, dnM, Nat.zero_mul, Nat.zero_add]
      omega

/-- What is enough, is so told in other numbers. -/
theorem pre_map {P2 : List Int} {f : Ms → Ms} {y : List Ms} (ok : MG g P) (ok2 : MG g P2) (hy : Mok g P y) (h0 : f none = none) (h1 : f (some (0, 0, 0)) = some (0, 0, 0)) (hok : ∀ x, msOk (moL P) x → msOk (moL P2) (f x)) (hm : ∀ x z, msOk (moL P) x → msOk (moL P) z → mcode x ≤ mcode z → mcode (f x) ≤ mcode (f z)) (hn : ∀ v, v < g.owner.length → ∀ x, msOk (moL P) x → f (nextM (moL P) (prP P v) x) = nextM (moL P2) (prP P2 v) (f x)) (h : Pre g P y) : Mok g P2 (y.map f) ∧ Pre g P2 (y.map f) := by
  have xm : ∀ v, xM (y.map f) v = f (xM y v) := fun v => by
    simp only [xM, List.getD_eq_getElem?_getD, List.getElem?_map]
    cases y[v]? with
    | none => simp [h0]
    | some x => rfl
  have my : Mok g P2 (y.map f) := ⟨by rw [List.length_map]; exact hy.1, fun v hv => by rw [xm]; exact hok _ (hy.2 v hv)⟩
  refine ⟨my, fun v hv => ?_⟩
  have hs := should_ok ok hy hv
  have key : mcode (shouldM g P2 (y.map f) v) ≤ mcode (f (shouldM g P y v)) := by
    have el : (nx g v).map (fun w => nextM (moL P2) (prP P2 v) (xM (y.map f) w.toNat)) = ((nx g v).map fun w => nextM (moL P) (prP P v) (xM y w.toNat)).map f := by
      rw [List.map_map]
      refine List.map_congr_left fun w hw => ?_
      have := (nx_ok ok.m hv).2 w hw
      rw [Function.comp_apply, xm, hn v hv _ (hy.2 _ (by omega))]
    have so2 := should_ok ok2 my hv
    unfold shouldM at hs so2 ⊢
    rw [el] at so2 ⊢
    generalize hl : (nx g v).map (fun w => nextM (moL P) (prP P v) (xM y w.toNat)) = l at *
    have lok : ∀ m ∈ l, msOk (moL P) m := fun m hm => by
      rw [← hl] at hm
      obtain ⟨w, hw, rfl⟩ := List.mem_map.1 hm
      have := (nx_ok ok.m hv).2 w hw
      exact next_ok (hy.2 _ (by omega))
    by_cases ho : ow g v = 1
    · rw [if_pos ho] at so2 hs ⊢
      rw [if_pos ho]
      rcases min_in l with q | q
      · rw [q, h0]; exact (mcode_top ok2.mo so2).1
      · exact min_le (List.mem_map.2 ⟨_, q, rfl⟩)
    · rw [if_neg ho] at so2 hs ⊢
      rw [if_neg ho]
      rcases max_in (l.map f) with q | q
      · rw [q]; simp [mcode]
      · obtain ⟨m, hm', q⟩ := List.mem_map.1 q
        rw [← q]
        exact hm _ _ (lok m hm') hs (le_max hm')
  rw [xm]
  exact Nat.le_trans key (hm _ _ hs (hy.2 v hv) (h v hv))

theorem up_least (U : Up g P) (h : Least g P L) : Least g (upP P) (L.map upM) := by
  have up := pre_map (P2 := upP P) (f := upM) U.ok U.ok2 h.ok rfl rfl (fun x hx => by rw [U.mo2]; exact up_ok hx) (fun x z hx hz q => up_mono U.ok.mo U.c hx hz q) (fun v hv x hx => by rw [(U.pr v hv).1, U.mo2, up_next U.c (U.pr v hv).2 hx]) h.pre
  refine ⟨up.1, up.2, fun y hy py v hv => ?_⟩
  have hy' : ∀ v, v < g.owner.length → msOk ⟨0, (moL P).a, (moL P).b⟩ (xM y v) := fun v hv => by rw [← U.mo2]; exact hy.2 v hv
  have dn := pre_map (P2 := P) (f := dnM) U.ok2 U.ok hy rfl rfl (fun x hx => dn_ok (by rw [← U.mo2]; exact hx)) (fun x z hx hz q => dn_mono U.ok.mo (by rw [← U.mo2]; exact hx) (by rw [← U.mo2]; exact hz) q) (fun v hv x hx => by rw [(U.pr v hv).1, U.mo2, dn_next U.c (U.pr v hv).2]) py
  have le := h.min _ dn.1 dn.2 v hv
  have up1 := up_mono U.ok.mo U.c (h.ok.2 v hv) (dn.1.2 v hv) le
  have x1 : xM (L.map upM) v = upM (xM L v) := by
    have : v < L.length := by rw [h.ok.1]; exact hv
    simp [xM, this]
  have x2 : xM (y.map dnM) v = dnM (xM y v) := by
    have : v < y.length := by rw [hy.1]; exact hv
    simp [xM, this]
  rw [x1]
  rw [x2] at up1
  refine Nat.le_trans up1 ?_
  have := hy' v hv
  generalize xM y v = z at *
  cases z with
  | none => exact Nat.le_refl _
  | some t => obtain ⟨a, b, c⟩ := t; simp only [mcode, upM, dnM]; omega
end
end Go.Par
