/- What is won of a whole game with priorities, and how: plain laws. -/
import Derived.Test.YtaipmknajpbpkaaPyB
set_option linter.unusedSimpArgs false
set_option linter.unusedVariables false
namespace Go.Par

def mayP (g : G) (P : List Int) : Bool := decide (mayE g = 0) && decide (P.length = g.owner.length) && P.all fun p => decide (0 ≤ p) && decide (p < 6)
theorem mayP_ok {g : G} {P : List Int} (h : mayP g P = true) : POk g P := by
  simp only [mayP, Bool.and_eq_true, decide_eq_true_eq, List.all_eq_true] at h
  obtain ⟨⟨h1, h2⟩, h3⟩ := h
  have key : ∀ v, 0 ≤ fI P v ∧ fI P v ≤ 5 := fun v => by
    by_cases hv : v < P.length
    · have := h3 P[v] (List.getElem_mem hv)
      have e : fI P v = P[v] := by simp [fI, hv]
      rw [e]; omega
    · have e : fI P v = 0 := by simp [fI, hv]
      rw [e]; omega
  exact ⟨h1, h2, fun v => (key v).1, fun v => (key v).2⟩

noncomputable def RL (g : G) (who : Int) : List Bool := regL g who []
noncomputable def AL (g : G) (who : Int) : List Int := awayL g who []
def whoAt (x : Nat) : Int := if x = 0 then 1 else 0
noncomputable def TIz (g : G) : Nat → List Int
  | 0 => tab g.owner.length fun _ => -1
  | x + 1 => tab g.owner.length fun v => if hasN (RL g (whoAt x)) v = true ∧ 0 ≤ fI (AL g (whoAt x)) v then fI (AL g (whoAt x)) v else fI (TIz g x) v
noncomputable def WI (g : G) : Nat → List Int
  | 0 => tab g.owner.length fun _ => 0
  | x + 1 => winsX g.owner.length (whoAt x) (RL g (whoAt x)) (WI g x)
noncomputable def LI (g : G) : Nat → List Bool
  | 0 => notL g []
  | x + 1 => lessL g (LI g x) (RL g (whoAt x))
theorem TI_len (g : G) (x : Nat) : (TIz g x).length = g.owner.length := by cases x <;> exact length_tab _ _
theorem WI_len (g : G) (x : Nat) : (WI g x).length = g.owner.length := by cases x <;> exact length_tab _ _
theorem LI_len (g : G) (x : Nat) : (LI g x).length = g.owner.length := by cases x <;> exact length_tab _ _
noncomputable def zst0 (g : G) : ZS := ⟨[⟨LI g 2, 0, 0, [], []⟩], WI g 2, TIz g 2⟩
noncomputable def zfin (g : G) (P : List Int) : ZS := open Classical in if h : ∃ s, (∃ m, Zto g P m (zst0 g) s) ∧ s.st = [] then Classical.choose h else zst0 g
noncomputable def winL (g : G) (P : List Int) : List Int := (zfin g P).W
noncomputable def toL (g : G) (P : List Int) : List Int := tab g.owner.length fun v => if fI (zfin g P).W v ≠ ow g v then -1 else fI (zfin g P).T v

theorem Zto.det {g : G} {P : List Int} : ∀ {m k : Nat} {s s1 s2 : ZS}, Zto g P m s s1 → Zto g P k s s2 → s1.st = [] → s2.st = [] → s1 = s2
  | 0, 0, s, s1, s2, h1, h2, _, _ => by have e1 : s = s1 := h1; have e2 : s = s2 := h2; rw [← e1, ← e2]
  | 0, k + 1, s, s1, s2, h1, h2, q1, _ => by have e1 : s = s1 := h1; subst e1; exact absurd q1 h2.1
  | m + 1, 0, s, s1, s2, h1, h2, _, q2 => by have e2 : s = s2 := h2; subst e2; exact absurd q2 h1.1
  | m + 1, k + 1, s, s1, s2, h1, h2, q1, q2 => Zto.det h1.2 h2.2 q1 q2

theorem Sol.congrT {E : Nat → Nat → Prop} {ow : Nat → Int} {pr : Nat → Nat} {D : Nat → Prop} {W T T' : Nat → Int} (s : Sol E ow pr D W T) (h : ∀ v, D v → ow v = W v → T' v = T v) : Sol E ow pr D W T' := by
  refine ⟨s.win, fun v hv e => ?_, s.opp, fun v hv e k => ?_⟩
  · obtain ⟨w, q1, q2, q3, q4⟩ := s.own v hv e
    exact ⟨w, by rw [h v hv e]; exact q1, q2, q3, q4⟩
  · refine s.circ v hv e (k.mono (fun a b ha _ q => ⟨q.1, fun o => ?_⟩) fun a q => q)
    rw [← h a ha.1 (by rw [o, ha.2.1])]; exact q.2 o

theorem att_none {g : G} {who : Int} (hm : mayE g = 0) (hw : who = 0 ∨ who = 1) : Att (gE g) (ow g) who (fun v => v < g.owner.length) (fun _ => False) (inP g (RL g who)) (fI (AL g who)) := by
  have a := att_reg (g := g) (who := who) hm hw []
  obtain ⟨rk, r1, r2⟩ := a.rank
  exact ⟨fun _ h => h.elim, a.ad, ⟨rk, fun v h1 _ h3 => r1 v h1 (by simp [hasN]) h3, fun v h1 _ h3 => r2 v h1 (by simp [hasN]) h3⟩, a.oown, a.oopp⟩

theorem ow_all {g : G} (hm : mayE g = 0) (v : Nat) : ow g v = 0 ∨ ow g v = 1 := by
  by_cases q : v < g.owner.length
  · exact ow_ok hm q
  · left; rw [ow, List.getD_eq_getElem?_getD, List.getElem?_eq_none (by omega)]; rfl

theorem tot_left {g : G} (hm : mayE g = 0) : Tot (gE g) (inP g (LI g 2)) := by
  have a := att_none (g := g) (who := 1) hm (.inr rfl)
  have b := att_none (g := g) (who := 0) hm (.inl rfl)
  have t := Att.totAll (who := 0) (ow_all hm) (.inl rfl) a b
  intro v hv
  have hin : ∀ u, inP g (LI g 2) u ↔ (u < g.owner.length ∧ ¬ inP g (RL g 1) u) ∧ ¬ inP g (RL g 0) u := fun u => by
    show inP g (lessL g (lessL g (notL g []) (RL g 1)) (RL g 0)) u ↔ _
    rw [in_less, in_less]
    constructor
    · rintro ⟨⟨h1, h2⟩, h3⟩; exact ⟨⟨h1.1, h2⟩, h3⟩
    · rintro ⟨⟨h1, h2⟩, h3⟩; exact ⟨⟨⟨h1, by rw [has_not h1]; simp [hasN]⟩, h2⟩, h3⟩
  obtain ⟨w, q1, q2⟩ := t v ((hin v).1 hv)
  exact ⟨w, q1, (hin w).2 q2⟩

theorem zfin_spec {g : G} {P : List Int} (ok : POk g P) : (∃ m, Zto g P m (zst0 g) (zfin g P)) ∧ (zfin g P).st = [] ∧ (zfin g P).W.length = g.owner.length ∧ (zfin g P).T.length = g.owner.length ∧
    Sol (gE g) (ow g) (prN P) (inP g (LI g 2)) (fI (zfin g P).W) (fI (zfin g P).T) ∧ ∀ v, ¬ inP g (LI g 2) v → fI (zfin g P).W v = fI (WI g 2) v ∧ fI (zfin g P).T v = fI (TIz g 2) v := by
  obtain ⟨k, W', T', z, l1, l2, s, o⟩ := zsol ok _ (LI g 2) (LI_len g 2) (Nat.le_refl _) (tot_left ok.m) [] (WI g 2) (TIz g 2) (WI_len g 2) (TI_len g 2)
  have ex : ∃ s, (∃ m, Zto g P m (zst0 g) s) ∧ s.st = [] := ⟨_, ⟨k, z⟩, rfl⟩
  have hc := Classical.choose_spec ex
  have e0 : zfin g P = Classical.choose ex := by unfold zfin; rw [dif_pos ex]
  rw [← e0] at hc
  obtain ⟨⟨m, hm⟩, hst⟩ := hc
  have e : zfin g P = ⟨[], W', T'⟩ := Zto.det hm z hst rfl
  refine ⟨⟨m, hm⟩, hst, ?_⟩
  rw [e]
  exact ⟨l1, l2, s, o⟩

/-- The whole game is solved. -/
theorem solve_sol {g : G} {P : List Int} (ok : POk g P) : Sol (gE g) (ow g) (prN P) (fun v => v < g.owner.length) (fI (winL g P)) (fI (toL g P)) := by
  obtain ⟨_, _, l1, l2, s, o⟩ := zfin_spec ok
  obtain ⟨W, hW⟩ : ∃ W, W = (zfin g P).W := ⟨_, rfl⟩
  obtain ⟨T, hT⟩ : ∃ T, T = (zfin g P).T := ⟨_, rfl⟩
  have hto : ∀ v, v < g.owner.length → ow g v = fI W v → fI (toL g P) v = fI T v := fun v hv e => by
    rw [toL, fI, getD_tab, if_pos hv, if_neg (by rw [← hW, e]; simp), ← hT]
  rw [← hW, ← hT] at s o
  show Sol _ _ _ _ (fI (zfin g P).W) _
  rw [← hW]
  refine Sol.congrT (T := fI T) ?_ hto
  have oA := ow_all ok.m
  have a := att_none (g := g) (who := 1) ok.m (.inr rfl)
  have b := att_none (g := g) (who := 0) ok.m (.inl rfl)
  have hin : ∀ u, inP g (LI g 2) u ↔ (u < g.owner.length ∧ ¬ inP g (RL g 1) u) ∧ ¬ inP g (RL g 0) u := fun u => by
    show inP g (lessL g (lessL g (notL g []) (RL g 1)) (RL g 0)) u ↔ _
    rw [in_less, in_less]
    constructor
    · rintro ⟨⟨h1, h2⟩, h3⟩; exact ⟨⟨h1.1, h2⟩, h3⟩
    · rintro ⟨⟨h1, h2⟩, h3⟩; exact ⟨⟨⟨h1, by rw [has_not h1]; simp [hasN]⟩, h2⟩, h3⟩
  have apart : ∀ v, inP g (RL g 1) v → ¬ inP g (RL g 0) v := Att.apart (who := 0) oA (.inl rfl) a b
  have b' := Att.sub (who := 0) oA (.inl rfl) a b
  have s' : Sol (gE g) (ow g) (prN P) (fun v => (v < g.owner.length ∧ ¬ inP g (RL g 1) v) ∧ ¬ inP g (RL g 0) v) (fI W) (fI T) := by
    have e : inP g (LI g 2) = fun v => (v < g.owner.length ∧ ¬ inP g (RL g 1) v) ∧ ¬ inP g (RL g 0) v := funext fun v => propext (hin v)
    rwa [e] at s
  have eW : ∀ v, v < g.owner.length → fI (WI g 2) v = if hasN (RL g 0) v then 0 else if hasN (RL g 1) v then 1 else 0 := fun v hv => by
    show fI (winsX _ 0 (RL g 0) (winsX _ 1 (RL g 1) (WI g 0))) v = _
    rw [winsX, fI, getD_tab, if_pos hv, winsX, fI, getD_tab, if_pos hv]
    simp only [WI, fI, getD_tab, if_pos hv]
  have eT : ∀ v, v < g.owner.length → fI (TIz g 2) v = if hasN (RL g 0) v = true ∧ 0 ≤ fI (AL g 0) v then fI (AL g 0) v else if hasN (RL g 1) v = true ∧ 0 ≤ fI (AL g 1) v then fI (AL g 1) v else -1 := fun v hv => by
    simp only [TIz, whoAt, fI, getD_tab, if_pos hv]
    simp
  have wR1 : ∀ v, inP g (RL g 1) v → fI W v = 1 := fun v h => by
    rw [(o v fun q => ((hin v).1 q).1.2 h).1, eW v h.1, if_neg (fun q => apart v h ⟨h.1, q⟩), if_pos h.2]
  have wR0 : ∀ v, inP g (RL g 0) v → fI W v = 0 := fun v h => by
    rw [(o v fun q => ((hin v).1 q).2 h).1, eW v h.1, if_pos h.2]
  have tR1 : ∀ v, inP g (RL g 1) v → ow g v = 1 → fI T v = fI (AL g 1) v := fun v h ho => by
    obtain ⟨rk, r1, _⟩ := a.rank
    obtain ⟨w, q, _⟩ := r1 v h id ho
    rw [(o v fun q => ((hin v).1 q).1.2 h).2, eT v h.1, if_neg (fun q => apart v h ⟨h.1, q.1⟩), if_pos ⟨h.2, by rw [q]; omega⟩]
  have tR0 : ∀ v, inP g (RL g 0) v → ow g v = 0 → fI T v = fI (AL g 0) v := fun v h ho => by
    obtain ⟨rk, r1, _⟩ := b.rank
    obtain ⟨w, q, _⟩ := r1 v h id ho
    rw [(o v fun q => ((hin v).1 q).2 h).2, eT v h.1, if_pos ⟨h.2, by rw [q]; omega⟩]
  have s2 : Sol (gE g) (ow g) (prN P) (fun v => v < g.owner.length ∧ ¬ inP g (RL g 1) v) (fI W) (fI T) :=
    Sol.add (who := 0) oA (.inl rfl) b' s' wR0 (fun _ _ _ => rfl) tR0 (fun _ _ _ => rfl)
  exact Sol.add (who := 1) oA (.inr rfl) a s2 wR1 (fun _ _ _ => rfl) tR1 (fun _ _ _ => rfl)

/-- Each wins what is told, as it is told. -/
theorem solve_wn {g : G} {P : List Int} (ok : POk g P) {who : Int} (hw : who = 0 ∨ who = 1) : Wn (gE g) (ow g) (prN P) who (fI (toL g P)) fun v => v < g.owner.length ∧ fI (winL g P) v = who :=
  Sol.wn (ow_all ok.m) (fun u w h hu => gE_lt ok.m h hu) (solve_sol ok) hw
theorem solve_win {g : G} {P : List Int} (ok : POk g P) {v : Nat} (hv : v < g.owner.length) : fI (winL g P) v = 0 ∨ fI (winL g P) v = 1 := (solve_sol ok).win v hv

/-- Who wins from a set wins what is told there. -/
theorem win_uniq {g : G} {P : List Int} (ok : POk g P) {who : Int} (hw : who = 0 ∨ who = 1) {T : Nat → Int} {D : Nat → Prop} (hD : ∀ v, D v → v < g.owner.length) (h : Wn (gE g) (ow g) (prN P) who T D) {v : Nat} (hv : D v) : fI (winL g P) v = who := by
  have hB : ∀ v, prN P v ≤ 5 := fun v => by have := ok.hi v; unfold prN; omega
  have key := fun (T1 T0 : Nat → Int) (D1 D0 : Nat → Prop) => Wn.apart (E := gE g) (ow := ow g) (pr := prN P) (n := g.owner.length) (B := 5) (T1 := T1) (T0 := T0) (D1 := D1) (D0 := D0) (ow_all ok.m) hB
  rcases solve_win ok (hD v hv) with q | q <;> rcases hw with rfl | rfl
  · exact q
  · exact (key _ _ _ _ hD h (solve_wn ok (.inl rfl)) v hv ⟨hD v hv, q⟩).elim
  · exact (key _ _ _ _ (fun v h => h.1) (solve_wn ok (.inr rfl)) h v ⟨hD v hv, q⟩ hv).elim
  · exact q
end Go.Par
