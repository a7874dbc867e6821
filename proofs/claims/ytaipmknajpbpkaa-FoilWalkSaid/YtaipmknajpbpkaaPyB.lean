/- The machine that solves a game with priorities, part by part: plain laws. -/
import Derived.Test.YtaipmknajpbpkaaPyA
import Derived.Test.YtaipmknajpbpkaaAgB
import Derived.Test.YtaipmknajpbpkaaFgB
set_option linter.unusedSimpArgs false
set_option linter.unusedVariables false
namespace Go.Par

def gE (g : G) (u w : Nat) : Prop := (w : Int) ∈ nx g u
abbrev fI (l : List Int) (v : Nat) : Int := l.getD v 0
abbrev onlyG (g : G) (part : List Bool) : G := waysG g (onlyP part)

section
variable {g : G} {who : Int} {part s : List Bool}

theorem gE_lt (hm : mayE g = 0) {u w : Nat} (h : gE g u w) (hu : u < g.owner.length) : w < g.owner.length := by have := (nx_ok hm hu).2 w h; omega

theorem att_reg (hm : mayE g = 0) (hw : who = 0 ∨ who = 1) (s : List Bool) : Att (gE g) (ow g) who (fun v => v < g.owner.length) (fun v => v < g.owner.length ∧ hasN s v = true) (fun v => v < g.owner.length ∧ hasN (regL g who s) v = true) (fI (awayL g who s)) := by
  have I := isRk (g := g) (who := who) (a := s) hm
  have hr : ∀ v, v < g.owner.length → (hasN (regL g who s) v = true ↔ 0 ≤ (ranksL g who s).getD v 0) := fun v hv => by rw [has_reg hv, decide_eq_true_eq, ranksL_getD hv]
  refine ⟨fun v hv => ⟨hv.1, reg_in hv.1 hv.2⟩, fun v hv => hv.1, ⟨fun v => ((ranksL g who s).getD v 0).toNat, fun v hv hS ho => ?_, fun v hv hS ho w hw hd => ?_⟩, fun v hv hA ho w hw hd hA' => ?_, fun v hv hA ho => ?_⟩
  · have h0 := (hr v hv.1).1 hv.2
    have h1 : 1 ≤ (ranksL g who s).getD v 0 := by
      have : (ranksL g who s).getD v 0 ≠ 0 := fun q => hS ⟨hv.1, (I.zero v hv.1).1 q⟩
      omega
    obtain ⟨u, q1, q2, q3, q4, q5⟩ := way_some hm I hv.1 h1 ho
    exact ⟨u, q1, q3, ⟨q2, (hr u q2).2 q4⟩, by simp only; omega⟩
  · have h0 := (hr v hv.1).1 hv.2
    have h1 : 1 ≤ (ranksL g who s).getD v 0 := by
      have : (ranksL g who s).getD v 0 ≠ 0 := fun q => hS ⟨hv.1, (I.zero v hv.1).1 q⟩
      omega
    obtain ⟨q1, q2⟩ := I.opp v hv.1 h1 ho w hw
    simp only [Int.toNat_natCast] at q1 q2
    exact ⟨⟨hd, (hr w hd).2 q1⟩, by simp only; omega⟩
  · have h0 : (ranksL g who s).getD v 0 < 0 := by
      rcases Int.lt_or_le ((ranksL g who s).getD v 0) 0 with q | q
      · exact q
      · exact absurd ⟨hv, (hr v hv).2 q⟩ hA
    have := I.out v hv h0 ho w hw
    simp only [Int.toNat_natCast] at this
    have := (hr w hd).1 hA'.2
    omega
  · have hA' : hasN (regL g who s) v = false := by
      cases q : hasN (regL g who s) v with
      | false => rfl
      | true => exact absurd ⟨hv, q⟩ hA
    have := (keep_who hv hA').2.2 ho
    obtain ⟨w, hw1, hw2⟩ := List.countP_pos_iff.1 (Nat.pos_of_ne_zero this)
    obtain ⟨w0, w1⟩ := (nx_ok hm hv).2 w hw1
    refine ⟨w.toNat, by show ((w.toNat : Nat) : Int) ∈ _; rwa [Int.toNat_of_nonneg w0], by omega, fun q => ?_⟩
    rw [q.2] at hw2; cases hw2

theorem only_len (hm : mayE g = 0) : (onlyG g part).owner = g.owner := by rw [onlyG, waysG_eq hm]
theorem only_may (hm : mayE g = 0) : mayE (onlyG g part) = 0 := waysG_may hm _
theorem only_edge (hm : mayE g = 0) {u w : Nat} (hu : u < g.owner.length) : gE (onlyG g part) u w ↔ gE g u w ∧ hasN part u = true ∧ hasN part w = true := by
  have h2 := (may_ok hm).2.1
  have hu' : u < g.next.length := by omega
  unfold gE nx
  rw [onlyG, waysG_row hm _ hu']
  have : g.next.getD u [] = g.next[u] := by simp [hu']
  rw [this, List.mem_filter, onlyP, Bool.and_eq_true, hasI_nat]

/-- Where a player goes to a set within a part: from where, and how. -/
noncomputable def goesR (g : G) (who : Int) (part s : List Bool) : List Bool := andL g (regL (onlyG g part) who s) part
noncomputable def goesX (g : G) (who : Int) (part s : List Bool) (T : List Int) : List Int :=
  tab g.owner.length fun v => if 0 ≤ fI (awayL (onlyG g part) who s) v ∧ hasN part v = true then fI (awayL (onlyG g part) who s) v else fI T v

def inP (g : G) (part : List Bool) (v : Nat) : Prop := v < g.owner.length ∧ hasN part v = true

theorem att_goes (hm : mayE g = 0) (hw : who = 0 ∨ who = 1) (hs : ∀ v, hasN s v = true → hasN part v = true) :
    Att (gE g) (ow g) who (inP g part) (inP g s) (inP g (goesR g who part s)) (fI (awayL (onlyG g part) who s)) := by
  have a := att_reg (g := onlyG g part) (who := who) (only_may hm) hw s
  have eo : ow (onlyG g part) = ow g := by unfold ow; rw [only_len hm]
  rw [eo, only_len hm] at a
  have hr : ∀ v, inP g (goesR g who part s) v ↔ (v < g.owner.length ∧ hasN (regL (onlyG g part) who s) v = true) ∧ hasN part v = true := fun v => by
    unfold inP goesR
    constructor
    · rintro ⟨h1, h2⟩; rw [has_and h1, Bool.and_eq_true] at h2; exact ⟨⟨h1, h2.1⟩, h2.2⟩
    · rintro ⟨⟨h1, h2⟩, h3⟩; exact ⟨h1, by rw [has_and h1, h2, h3]; rfl⟩
  obtain ⟨rk, r1, r2⟩ := a.rank
  refine ⟨fun v hv => (hr v).2 ⟨a.sa v hv, hs v hv.2⟩, fun v hv => ⟨hv.1, ((hr v).1 hv).2⟩, ⟨rk, fun v hv hS ho => ?_, fun v hv hS ho w hw' hd => ?_⟩, fun v hv hA ho w hw' hd hA' => ?_, fun v hv hA ho => ?_⟩
  · obtain ⟨w, q1, q2, q3, q4⟩ := r1 v ((hr v).1 hv).1 hS ho
    have q2' := (only_edge hm hv.1).1 q2
    exact ⟨w, q1, q2'.1, (hr w).2 ⟨q3, q2'.2.2⟩, q4⟩
  · obtain ⟨q1, q2⟩ := r2 v ((hr v).1 hv).1 hS ho w ((only_edge hm hv.1).2 ⟨hw', ((hr v).1 hv).2, hd.2⟩) hd.1
    exact ⟨(hr w).2 ⟨q1, hd.2⟩, q2⟩
  · exact a.oown v hv.1 (fun q => hA ((hr v).2 ⟨q, hv.2⟩)) ho w ((only_edge hm hv.1).2 ⟨hw', hv.2, hd.2⟩) hd.1 ((hr w).1 hA').1
  · obtain ⟨w, q1, q2, q3⟩ := a.oopp v hv.1 (fun q => hA ((hr v).2 ⟨q, hv.2⟩)) ho
    have q1' := (only_edge hm hv.1).1 q1
    exact ⟨w, q1'.1, ⟨q2, q1'.2.2⟩, fun q => q3 ((hr w).1 q).1⟩

/-- The ways that are told are ways of the game; of none else is told. -/
theorem away_ge (hm : mayE g = 0) {v : Nat} (hv : v < g.owner.length) : fI (awayL g who s) v = -1 ∨ (ow g v = who ∧ 1 ≤ (ranksL g who s).getD v 0 ∧ ∃ u : Nat, fI (awayL g who s) v = u ∧ u < g.owner.length) := by
  by_cases h : ow g v ≠ who ∨ (ranksL g who s).getD v 0 < 1
  · exact .inl (way_none hv h)
  · have h1 : ow g v = who := Classical.byContradiction fun q => h (.inl q)
    have h2 : 1 ≤ (ranksL g who s).getD v 0 := by
      rcases Int.lt_or_le ((ranksL g who s).getD v 0) 1 with q | q
      · exact absurd (.inr q) h
      · exact q
    obtain ⟨u, q1, q2, _⟩ := way_some hm (isRk hm) hv h2 h1
    exact .inr ⟨h1, h2, u, q1, q2⟩
end

/-! ### The machine -/
structure Fr where
  in_ : List Bool
  step : Nat
  who : Int
  best : List Bool
  rest : List Bool

structure ZS where
  st : List Fr
  W : List Int
  T : List Int

def lessL (g : G) (a b : List Bool) : List Bool := andL g a (notL g b)
def topP (P : List Int) (part : List Bool) : Int := (List.range part.length).foldl (fun t v => if hasN part v then max t (fI P v) else t) 0
def bestL (P : List Int) (part : List Bool) (top : Int) : List Bool := tab part.length fun v => hasN part v && decide (fI P v = top)
def winsX (n : Nat) (who : Int) (s : List Bool) (W : List Int) : List Int := tab n fun v => if hasN s v then who else fI W v
def wonL (who : Int) (part : List Bool) (W : List Int) : List Bool := tab part.length fun v => hasN part v && decide (fI W v = who)
def staysX (g : G) (who : Int) (part s : List Bool) (T : List Int) : List Int :=
  tab g.owner.length fun v => if hasN s v = true ∧ ow g v = who then ((nx g v).find? (hasI part)).getD (fI T v) else fI T v
def whoP (top : Int) : Int := if top % 2 = 1 then 0 else 1
def anyL (g : G) (s : List Bool) : Bool := decide (0 < (List.range g.owner.length).countP (hasN s))

noncomputable def zstep (g : G) (P : List Int) (s : ZS) : ZS :=
  match s.st with
  | [] => s
  | f :: K =>
    if anyL g f.in_ = false then ⟨K, s.W, s.T⟩ else
    match f.step with
    | 0 =>
      let top := topP P f.in_
      let best := bestL P f.in_ top
      let rest := lessL g f.in_ (goesR g (whoP top) f.in_ best)
      ⟨⟨rest, 0, 0, [], []⟩ :: ⟨f.in_, 1, whoP top, best, rest⟩ :: K, s.W, goesX g (whoP top) f.in_ best s.T⟩
    | 1 =>
      let other := wonL (1 - f.who) f.rest s.W
      if anyL g other = false then ⟨K, winsX g.owner.length f.who f.in_ s.W, staysX g f.who f.in_ f.best s.T⟩ else
      let back := goesR g (1 - f.who) f.in_ other
      ⟨⟨lessL g f.in_ back, 0, 0, [], []⟩ :: ⟨f.in_, 2, f.who, f.best, f.rest⟩ :: K, winsX g.owner.length (1 - f.who) back s.W, goesX g (1 - f.who) f.in_ other s.T⟩
    | _ => ⟨K, s.W, s.T⟩

def Zto (g : G) (P : List Int) : Nat → ZS → ZS → Prop
  | 0, s, s' => s = s'
  | k + 1, s, s' => s.st ≠ [] ∧ Zto g P k (zstep g P s) s'

theorem Zto.trans {g : G} {P : List Int} : ∀ {k l : Nat} {s s' s'' : ZS}, Zto g P k s s' → Zto g P l s' s'' → Zto g P (k + l) s s''
  | 0, l, s, s', s'', h, h' => by have e : s = s' := h; subst e; rwa [Nat.zero_add]
  | k + 1, l, s, s', s'', h, h' => by
    rw [show k + 1 + l = (k + l) + 1 by omega]
    exact ⟨h.1, h.2.trans h'⟩

theorem max_fold (P : List Int) (p : Nat → Bool) (hP : ∀ v, 0 ≤ fI P v) : ∀ (l : List Nat) (t : Int), t ≤ l.foldl (fun t v => if p v then max t (fI P v) else t) t ∧ (∀ v ∈ l, p v = true → fI P v ≤ l.foldl (fun t v => if p v then max t (fI P v) else t) t) ∧
    (l.foldl (fun t v => if p v then max t (fI P v) else t) t = t ∨ ∃ v ∈ l, p v = true ∧ l.foldl (fun t v => if p v then max t (fI P v) else t) t = fI P v)
  | [], t => ⟨Int.le_refl _, fun v h => (by cases h), .inl rfl⟩
  | x :: l, t => by
    simp only [List.foldl_cons]
    by_cases c : p x = true
    · rw [if_pos c]
      obtain ⟨h1, h2, h3⟩ := max_fold P p hP l (max t (fI P x))
      refine ⟨by omega, fun v hv hp => ?_, ?_⟩
      · rcases List.mem_cons.1 hv with rfl | hv
        · omega
        · exact h2 v hv hp
      · rcases h3 with h3 | ⟨v, hv, q1, q2⟩
        · rcases Int.le_total t (fI P x) with q | q
          · exact .inr ⟨x, by simp, c, by omega⟩
          · exact .inl (by omega)
        · exact .inr ⟨v, by simp [hv], q1, q2⟩
    · rw [if_neg c]
      obtain ⟨h1, h2, h3⟩ := max_fold P p hP l t
      refine ⟨h1, fun v hv hp => ?_, ?_⟩
      · rcases List.mem_cons.1 hv with rfl | hv
        · exact absurd hp c
        · exact h2 v hv hp
      · rcases h3 with h3 | ⟨v, hv, q1, q2⟩
        · exact .inl h3
        · exact .inr ⟨v, by simp [hv], q1, q2⟩

theorem anyL_iff {g : G} {s : List Bool} : anyL g s = true ↔ ∃ v, inP g s v := by
  unfold anyL inP
  rw [decide_eq_true_eq, List.countP_pos_iff]
  simp
theorem anyL_false {g : G} {s : List Bool} : anyL g s = false ↔ ∀ v, ¬ inP g s v := by
  rw [← Bool.not_eq_true, anyL_iff]
  exact ⟨fun h v q => h ⟨v, q⟩, fun h ⟨v, q⟩ => h v q⟩

theorem in_less {g : G} {a b : List Bool} {v : Nat} : inP g (lessL g a b) v ↔ inP g a v ∧ ¬ inP g b v := by
  unfold inP lessL
  constructor
  · rintro ⟨h1, h2⟩
    rw [has_and h1, has_not h1, Bool.and_eq_true, Bool.not_eq_true'] at h2
    exact ⟨⟨h1, h2.1⟩, fun q => by rw [h2.2] at q; cases q.2⟩
  · rintro ⟨⟨h1, h2⟩, h3⟩
    refine ⟨h1, ?_⟩
    rw [has_and h1, has_not h1, h2]
    cases q : hasN b v with
    | false => rfl
    | true => exact absurd ⟨h1, q⟩ h3

theorem cnt_less {g : G} {a b : List Bool} (ha : a.length = g.owner.length) {v : Nat} (h1 : inP g a v) (h2 : inP g b v) : cntS (lessL g a b) < cntS a := by
  have hl : (lessL g a b).length = g.owner.length := len_and _ _ _
  have hle : leS g.owner.length (lessL g a b) a := fun u hu q => ((in_less (g := g)).1 ⟨hu, q⟩).1.2
  refine (cnt_mono hl ha hle).2 fun e => ?_
  have : inP g (lessL g a b) v := by rw [e]; exact h1
  exact (in_less.1 this).2 h2

theorem fI_out {a b : List Int} {v : Nat} (ha : a.length ≤ v) (hb : b.length ≤ v) : fI a v = fI b v := by
  rw [fI, fI, List.getD_eq_getElem?_getD, List.getD_eq_getElem?_getD, List.getElem?_eq_none ha, List.getElem?_eq_none hb]

def prN (P : List Int) (v : Nat) : Nat := (fI P v).toNat

structure POk (g : G) (P : List Int) : Prop where
  m : mayE g = 0
  len : P.length = g.owner.length
  lo : ∀ v, 0 ≤ fI P v
  hi : ∀ v, fI P v ≤ 5

/-- A part is solved in some steps; what is not in it stays. -/
theorem zsol {g : G} {P : List Int} (ok : POk g P) : ∀ (m : Nat) (part : List Bool), part.length = g.owner.length → cntS part ≤ m → Tot (gE g) (inP g part) → ∀ (K : List Fr) (W T : List Int), W.length = g.owner.length → T.length = g.owner.length →
    ∃ k W' T', Zto g P k ⟨⟨part, 0, 0, [], []⟩ :: K, W, T⟩ ⟨K, W', T'⟩ ∧ W'.length = g.owner.length ∧ T'.length = g.owner.length ∧
      Sol (gE g) (ow g) (prN P) (inP g part) (fI W') (fI T') ∧ ∀ v, ¬ inP g part v → fI W' v = fI W v ∧ fI T' v = fI T v := by
  intro m
  induction m with
  | zero =>
    intro part hl hc ht K W T hW hT
    have hno : ∀ v, ¬ inP g part v := fun v h => by
      have := cnt_less hl h h; omega
    refine ⟨1, W, T, ⟨by simp, ?_⟩, hW, hT, Sol.empty hno, fun v _ => ⟨rfl, rfl⟩⟩
    show zstep g P _ = _
    simp only [zstep, anyL_false.2 hno, if_true]
  | succ m ih =>
    intro part hl hc ht K W T hW hT
    by_cases hany : ∃ v, inP g part v
    · have hany' : anyL g part = true := anyL_iff.2 hany
      obtain ⟨v0, hv0⟩ := hany
      have hmax := max_fold P (hasN part) ok.lo (List.range part.length) 0
      obtain ⟨top, etop⟩ : ∃ top, top = topP P part := ⟨_, rfl⟩
      rw [show (List.range part.length).foldl (fun t v => if hasN part v then max t (fI P v) else t) 0 = topP P part from rfl, ← etop] at hmax
      obtain ⟨m1, m2, m3⟩ := hmax
      have hle : ∀ v, inP g part v → prN P v ≤ top.toNat := fun v hv => by
        have := m2 v (by simp [hl, hv.1]) hv.2
        unfold prN; omega
      obtain ⟨best, ebest⟩ : ∃ b, b = bestL P part top := ⟨_, rfl⟩
      have hbest : ∀ v, inP g best v ↔ inP g part v ∧ prN P v = top.toNat := fun v => by
        unfold inP
        rw [ebest, bestL]
        constructor
        · rintro ⟨h1, h2⟩
          rw [hasN_tab (by omega), Bool.and_eq_true, decide_eq_true_eq] at h2
          exact ⟨⟨h1, h2.1⟩, by unfold prN; rw [h2.2]⟩
        · rintro ⟨⟨h1, h2⟩, h3⟩
          refine ⟨h1, ?_⟩
          rw [hasN_tab (by omega), Bool.and_eq_true, decide_eq_true_eq]
          have := ok.lo v
          unfold prN at h3
          exact ⟨h2, by omega⟩
      have hb0 : ∃ v, inP g best v := by
        rcases m3 with q | ⟨v, hv, q1, q2⟩
        · refine ⟨v0, (hbest v0).2 ⟨hv0, ?_⟩⟩
          have := hle v0 hv0
          rw [q] at this ⊢
          simpa using this
        · exact ⟨v, (hbest v).2 ⟨⟨by simpa [hl] using hv, q1⟩, by unfold prN; rw [← q2]⟩⟩
      obtain ⟨who, ewho⟩ : ∃ w, w = whoP top := ⟨_, rfl⟩
      have hw : who = 0 ∨ who = 1 := by rw [ewho, whoP]; split <;> simp
      have hp : ((top.toNat % 2 : Nat) : Int) ≠ who := by rw [ewho, whoP]; split <;> omega
      have hbs : ∀ v, hasN best v = true → hasN part v = true := fun v h => by
        rw [ebest, bestL] at h
        have hv := hasN_lt h
        rw [length_tab] at hv
        rw [hasN_tab hv, Bool.and_eq_true] at h
        exact h.1
      have a := att_goes (g := g) (who := who) ok.m hw hbs
      obtain ⟨A, eA⟩ : ∃ A, A = goesR g who part best := ⟨_, rfl⟩
      rw [← eA] at a
      obtain ⟨rest, erest⟩ : ∃ r, r = lessL g part A := ⟨_, rfl⟩
      have hrest : ∀ v, inP g rest v ↔ inP g part v ∧ ¬ inP g A v := fun v => by rw [erest]; exact in_less
      have lrest : rest.length = g.owner.length := by rw [erest]; exact len_and _ _ _
      obtain ⟨vb, hvb⟩ := hb0
      have crest : cntS rest ≤ m := by
        have := cnt_less (g := g) hl ((hbest vb).1 hvb).1 (a.sa vb hvb)
        rw [erest]; omega
      have trest : Tot (gE g) (inP g rest) := by
        have := a.tot ht
        intro v hv
        obtain ⟨w, q1, q2⟩ := this v ((hrest v).1 hv)
        exact ⟨w, q1, (hrest w).2 q2⟩
      obtain ⟨T1, eT1⟩ : ∃ T1, T1 = goesX g who part best T := ⟨_, rfl⟩
      have lT1 : T1.length = g.owner.length := by rw [eT1]; exact length_tab _ _
      have hT1 : ∀ v, v < g.owner.length → fI T1 v = if 0 ≤ fI (awayL (onlyG g part) who best) v ∧ hasN part v = true then fI (awayL (onlyG g part) who best) v else fI T v := fun v hv => by
        rw [eT1, goesX, fI, getD_tab, if_pos hv]
      obtain ⟨k1, W2, T2, z1, lW2, lT2, s1, out1⟩ := ih rest lrest crest trest (⟨part, 1, who, best, rest⟩ :: K) W T1 hW lT1
      have first : Zto g P 1 ⟨⟨part, 0, 0, [], []⟩ :: K, W, T⟩ ⟨⟨rest, 0, 0, [], []⟩ :: ⟨part, 1, who, best, rest⟩ :: K, W, T1⟩ := by
        refine ⟨by simp, ?_⟩
        show zstep g P _ = _
        simp only [zstep, hany', Bool.true_eq_false, if_false]
        rw [← etop, ← ewho, ← ebest, ← eA, ← erest, ← eT1]
      -- what stands outside
      have nT1 : ∀ v, ¬ inP g part v → fI T1 v = fI T v := fun v hv => by
        by_cases q : v < g.owner.length
        · rw [hT1 v q, if_neg fun c => hv ⟨q, c.2⟩]
        · exact fI_out (by omega) (by omega)
      have nrest : ∀ v, ¬ inP g part v → ¬ inP g rest v := fun v hv q => hv ((hrest v).1 q).1
      have s1' : Sol (gE g) (ow g) (prN P) (fun v => inP g part v ∧ ¬ inP g A v) (fI W2) (fI T2) := by
        have e : inP g rest = fun v => inP g part v ∧ ¬ inP g A v := funext fun v => propext (hrest v)
        rwa [e] at s1
      have aT : ∀ v, inP g A v → ¬ inP g best v → ow g v = who → fI T2 v = fI (awayL (onlyG g part) who best) v := fun v hA hS ho => by
        rw [(out1 v fun q => ((hrest v).1 q).2 hA).2, hT1 v hA.1]
        obtain ⟨rk, r1, _⟩ := a.rank
        obtain ⟨w, q1, _⟩ := r1 v hA hS ho
        rw [if_pos ⟨by rw [q1]; omega, (a.ad v hA).2⟩]
      obtain ⟨other, eoth⟩ : ∃ o, o = wonL (1 - who) rest W2 := ⟨_, rfl⟩
      have hoth : ∀ v, inP g other v ↔ (inP g part v ∧ ¬ inP g A v) ∧ fI W2 v = 1 - who := fun v => by
        rw [← hrest v, eoth]
        unfold inP wonL
        constructor
        · rintro ⟨h1, h2⟩
          rw [hasN_tab (by omega), Bool.and_eq_true, decide_eq_true_eq] at h2
          exact ⟨⟨h1, h2.1⟩, h2.2⟩
        · rintro ⟨⟨h1, h2⟩, h3⟩
          exact ⟨h1, by rw [hasN_tab (by omega), h2, Bool.true_and, decide_eq_true_eq]; exact h3⟩
      have hoA : ∀ v, v < g.owner.length → ow g v = 0 ∨ ow g v = 1 := fun v hv => ow_ok ok.m hv
      have hoA' : ∀ v, ow g v = 0 ∨ ow g v = 1 := fun v => by
        by_cases q : v < g.owner.length
        · exact hoA v q
        · left; rw [ow, List.getD_eq_getElem?_getD, List.getElem?_eq_none (by omega)]; rfl
      by_cases hoa : anyL g other = false
      · -- all is won
        obtain ⟨T3, eT3⟩ : ∃ T3, T3 = staysX g who part best T2 := ⟨_, rfl⟩
        obtain ⟨W3, eW3⟩ : ∃ W3, W3 = winsX g.owner.length who part W2 := ⟨_, rfl⟩
        have second : Zto g P 1 ⟨⟨part, 1, who, best, rest⟩ :: K, W2, T2⟩ ⟨K, W3, T3⟩ := by
          refine ⟨by simp, ?_⟩
          show zstep g P _ = _
          simp only [zstep, hany', Bool.true_eq_false, if_false]
          rw [← eoth, if_pos hoa, ← eT3, ← eW3]
        have hW3 : ∀ v, v < g.owner.length → fI W3 v = if hasN part v then who else fI W2 v := fun v hv => by
          rw [eW3, winsX, fI, getD_tab, if_pos hv]
        have hT3 : ∀ v, v < g.owner.length → fI T3 v = if hasN best v = true ∧ ow g v = who then ((nx g v).find? (hasI part)).getD (fI T2 v) else fI T2 v := fun v hv => by
          rw [eT3, staysX, fI, getD_tab, if_pos hv]
        have lW3 : W3.length = g.owner.length := by rw [eW3]; exact length_tab _ _
        have lT3 : T3.length = g.owner.length := by rw [eT3]; exact length_tab _ _
        refine ⟨1 + (k1 + 1), W3, T3, first.trans (z1.trans second), lW3, lT3, ?_, fun v hv => ?_⟩
        · refine Sol.all (who := who) (A := inP g A) (S := inP g best) (top := top.toNat) hoA' hw hp hle hbest a s1' (fun v h1 h2 => ?_) (fun v h => ?_) (fun v h1 h2 => ?_) (fun v h1 h2 h3 => ?_) (fun v h1 h2 => ?_)
          · have := anyL_false.1 hoa v
            rw [hoth v] at this
            have hne : ¬ fI W2 v = 1 - who := fun q => this ⟨⟨h1, h2⟩, q⟩
            rcases s1'.win v ⟨h1, h2⟩ with q | q <;> rcases hw with q' | q' <;> omega
          · rw [hW3 v h.1, if_pos h.2]
          · rw [hT3 v h1.1, if_neg]
            rintro ⟨q, _⟩
            exact h2 (a.sa v ⟨h1.1, q⟩)
          · rw [hT3 v h1.1, if_neg fun q => h2 ⟨h1.1, q.1⟩]
            exact aT v h1 h2 h3
          · rw [hT3 v h1.1, if_pos ⟨h1.2, h2⟩]
            obtain ⟨w, q1, q2⟩ := ht v ((hbest v).1 h1).1
            have hx : ((nx g v).find? (hasI part)).isSome = true := by
              rw [List.find?_isSome]
              exact ⟨w, q1, by rw [hasI_nat]; exact q2.2⟩
            obtain ⟨x, hx⟩ := Option.isSome_iff_exists.1 hx
            have hxm := List.mem_of_find?_eq_some hx
            have hxp := List.find?_some hx
            obtain ⟨x0, x1⟩ := (nx_ok ok.m h1.1).2 x hxm
            refine ⟨x.toNat, by rw [hx, Option.getD_some]; omega, by show ((x.toNat : Nat) : Int) ∈ _; rwa [Int.toNat_of_nonneg x0], by omega, ?_⟩
            rw [← hasI_nat, Int.toNat_of_nonneg x0]; exact hxp
        · have hv1 := nrest v hv
          refine ⟨?_, ?_⟩
          · rw [← (out1 v hv1).1]
            by_cases q : v < g.owner.length
            · rw [hW3 v q, if_neg fun c => hv ⟨q, c⟩]
            · exact fI_out (by omega) (by omega)
          · rw [← nT1 v hv, ← (out1 v hv1).2]
            by_cases q : v < g.owner.length
            · rw [hT3 v q, if_neg fun c => hv ⟨q, hbs v c.1⟩]
            · exact fI_out (by omega) (by omega)
      · -- the other one wins a part
        have hoa' : anyL g other = true := by simpa using hoa
        obtain ⟨vo, hvo⟩ := anyL_iff.1 hoa'
        have hos : ∀ v, hasN other v = true → hasN part v = true := fun v h => by
          have hv := hasN_lt h
          have : other.length = g.owner.length := by rw [eoth, wonL, length_tab]; exact lrest
          exact ((hoth v).1 ⟨by omega, h⟩).1.1.2
        have hw' : 1 - who = 0 ∨ 1 - who = 1 := by omega
        have b := att_goes (g := g) (who := 1 - who) ok.m hw' hos
        obtain ⟨B, eB⟩ : ∃ B, B = goesR g (1 - who) part other := ⟨_, rfl⟩
        rw [← eB] at b
        obtain ⟨T3, eT3⟩ : ∃ T3, T3 = goesX g (1 - who) part other T2 := ⟨_, rfl⟩
        obtain ⟨W3, eW3⟩ : ∃ W3, W3 = winsX g.owner.length (1 - who) B W2 := ⟨_, rfl⟩
        obtain ⟨rest2, erest2⟩ : ∃ r, r = lessL g part B := ⟨_, rfl⟩
        have hrest2 : ∀ v, inP g rest2 v ↔ inP g part v ∧ ¬ inP g B v := fun v => by rw [erest2]; exact in_less
        have lrest2 : rest2.length = g.owner.length := by rw [erest2]; exact len_and _ _ _
        have crest2 : cntS rest2 ≤ m := by
          have := cnt_less (g := g) hl ((hoth vo).1 hvo).1.1 (b.sa vo hvo)
          rw [erest2]; omega
        have trest2 : Tot (gE g) (inP g rest2) := by
          have := b.tot ht
          intro v hv
          obtain ⟨w, q1, q2⟩ := this v ((hrest2 v).1 hv)
          exact ⟨w, q1, (hrest2 w).2 q2⟩
        have lW3 : W3.length = g.owner.length := by rw [eW3]; exact length_tab _ _
        have lT3 : T3.length = g.owner.length := by rw [eT3]; exact length_tab _ _
        obtain ⟨k2, W4, T4, z2, lW4, lT4, s2, out2⟩ := ih rest2 lrest2 crest2 trest2 (⟨part, 2, who, best, rest⟩ :: K) W3 T3 lW3 lT3
        have second : Zto g P 1 ⟨⟨part, 1, who, best, rest⟩ :: K, W2, T2⟩ ⟨⟨rest2, 0, 0, [], []⟩ :: ⟨part, 2, who, best, rest⟩ :: K, W3, T3⟩ := by
          refine ⟨by simp, ?_⟩
          show zstep g P _ = _
          simp only [zstep, hany', Bool.true_eq_false, if_false]
          rw [← eoth, if_neg hoa, ← eB, ← eT3, ← eW3, ← erest2]
        have third : Zto g P 1 ⟨⟨part, 2, who, best, rest⟩ :: K, W4, T4⟩ ⟨K, W4, T4⟩ := by
          refine ⟨by simp, ?_⟩
          show zstep g P _ = _
          simp only [zstep, hany', Bool.true_eq_false, if_false]
        have hW3 : ∀ v, v < g.owner.length → fI W3 v = if hasN B v then 1 - who else fI W2 v := fun v hv => by
          rw [eW3, winsX, fI, getD_tab, if_pos hv]
        have hT3 : ∀ v, v < g.owner.length → fI T3 v = if 0 ≤ fI (awayL (onlyG g part) (1 - who) other) v ∧ hasN part v = true then fI (awayL (onlyG g part) (1 - who) other) v else fI T2 v := fun v hv => by
          rw [eT3, goesX, fI, getD_tab, if_pos hv]
        have s2' : Sol (gE g) (ow g) (prN P) (fun v => inP g part v ∧ ¬ inP g B v) (fI W4) (fI T4) := by
          have e : inP g rest2 = fun v => inP g part v ∧ ¬ inP g B v := funext fun v => propext (hrest2 v)
          rwa [e] at s2
        have nB : ∀ v, inP g B v → ¬ inP g rest2 v := fun v h q => ((hrest2 v).1 q).2 h
        refine ⟨1 + (k1 + (1 + (k2 + 1))), W4, T4, first.trans (z1.trans (second.trans (z2.trans third))), lW4, lT4, ?_, fun v hv => ?_⟩
        · refine Sol.part (who := who) (S := inP g best) (A := inP g A) (O := inP g other) (B := inP g B) (T0 := fI (awayL (onlyG g part) who best)) (T1 := fI T2) (W1 := fI W2) (TB := fI (awayL (onlyG g part) (1 - who) other)) (W2 := fI W4) (T2 := fI T4) hoA' hw a s1' hoth b s2' (fun v h => ?_) (fun v h1 h2 => rfl) (fun v h => ?_) (fun v h1 h2 h3 => ?_) (fun v h1 h2 => rfl)
          · rw [(out2 v (nB v h)).1, hW3 v h.1, if_pos h.2]
          · rw [(out2 v (nB v (b.sa v h))).2, hT3 v h.1, if_neg]
            rintro ⟨q, _⟩
            have hz : (ranksL (onlyG g part) (1 - who) other).getD v 0 = 0 := ((isRk (only_may ok.m)).zero v (by rw [only_len ok.m]; exact h.1)).2 h.2
            rcases away_ge (g := onlyG g part) (who := 1 - who) (s := other) (only_may ok.m) (v := v) (by rw [only_len ok.m]; exact h.1) with q' | ⟨_, q', _⟩
            · omega
            · omega
          · rw [(out2 v (nB v h1)).2, hT3 v h1.1]
            obtain ⟨rk, r1, _⟩ := b.rank
            obtain ⟨w, q1, _⟩ := r1 v h1 h2 h3
            rw [if_pos ⟨by rw [q1]; omega, (b.ad v h1).2⟩]
        · have hv2 : ¬ inP g rest2 v := fun q => hv ((hrest2 v).1 q).1
          have hv1 := nrest v hv
          have hvB : ¬ inP g B v := fun q => hv (b.ad v q)
          refine ⟨?_, ?_⟩
          · rw [(out2 v hv2).1, ← (out1 v hv1).1]
            by_cases q : v < g.owner.length
            · rw [hW3 v q, if_neg fun c => hvB ⟨q, c⟩]
            · exact fI_out (by omega) (by omega)
          · rw [(out2 v hv2).2, ← nT1 v hv, ← (out1 v hv1).2]
            by_cases q : v < g.owner.length
            · rw [hT3 v q, if_neg fun c => hv ⟨q, c.2⟩]
            · exact fI_out (by omega) (by omega)
    · have hno : ∀ v, ¬ inP g part v := fun v h => hany ⟨v, h⟩
      refine ⟨1, W, T, ⟨by simp, ?_⟩, hW, hT, Sol.empty hno, fun v _ => ⟨rfl, rfl⟩⟩
      show zstep g P _ = _
      simp only [zstep, anyL_false.2 hno, if_true]
end Go.Par
