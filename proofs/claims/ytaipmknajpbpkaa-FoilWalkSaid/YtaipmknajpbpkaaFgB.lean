/- Texts FnI PlA PlB FnG FnH PlC FnJ PlE FnL FnM FnN PlF PlK, one behind another. -/
import Derived.Test.YtaipmknajpbpkaaFgA
import Derived.Test.YtaipmknajpbpkaaMgC
set_option linter.unusedSimpArgs false
set_option maxRecDepth 8000
namespace Go.Par
open Go.Proofs

def deadP (g : G) (who : Int) (v : Nat) : Bool := g.owner.getD v 0 == who && (g.next.getD v []).length == 0
def deadA (g : G) (who : Int) : AV := if mayE g = 0 then .ro true (bools (tab g.owner.length (deadP g who))) else .nils

theorem graph_Dead (g : G) (hf : g.fits) (who : Int) : Pure Try.prog 103 [g.av, .int .i64 who] (deadA g who) := by
  intro h
  refine AC.body Θ_ok Try.func103 rfl rfl (Nat.le_of_ble_eq_true rfl) ?_
  refine AW.seq fun _ k1 => AW.region [] Θ_ok ?_
  simp
  refine k1 _ ?_
  refine AW.seq fun _ k1 => ?_
  by_cases hm : mayE g = 0
  · have hn := (may_ok hm).2.1
    have h3 := (may_ok hm).1
    refine AW.seq fun _ k2 => AW.region [] Θ_ok ?_
    simp
    refine (graph_May g hf).use (by simp [G.av]) ?_
    try simp [hm]
    refine k2 _ ?_
    refine AW.cond false (by simp [Int.natCast_inj]) (fun h => by cases h) (fun _ => ?_)
    refine AW.skip ?_
    simp
    refine k1 _ ?_
    refine AW.seq fun _ k1 => AW.region [14] Θ_ok ?_
    simp
    refine ⟨by omega, fun o ho => k1 _ ?_⟩
    rw [replicate_tab, flat_tab (fun _ _ => rfl)]
    refine AW.seq fun _ k1 => ?_
    refine AW.seq fun _ k2 => AW.region [] Θ_ok ?_
    simp
    refine k2 _ ?_
    refine AW.block ?_
    refine AW.loopI (X := Nat) (fun x => x ≤ g.owner.length) (fun x => ⟨40, [(18, .int .i64 x), (17, .int .i64 g.owner.length), (16, .ro false (ints g.owner)), (5, .mu o g.owner.length), (1, .int .i64 who), (2, .rop [.ro false (ints g.owner), .ro false (rows g.next)])],
      upd h o (some ⟨tab g.owner.length fun i => .bool (decide (i < x) && deadP g who i), 4, 1, true⟩)⟩) (fun x => g.owner.length - x) 0 (Nat.zero_le _) (GStep.eq (by simp) ?_) fun x hx => ?_
    · simp; exact fun _ _ q => q
    refine AW.seq fun _ k2 => AW.region [] Θ_ok ?_
    simp
    refine k2 _ ?_
    by_cases hlt : x < g.owner.length
    · have hv' : x < g.next.length := by omega
      have inc := wrap_succ (show x < 9223372036854775807 by omega)
      have hD : deadP g who x = (g.owner[x] == who && g.next[x].length == 0) := by simp [deadP, hlt, hv']
      have hset : (tab g.owner.length fun i => AV.bool (decide (i < x) && deadP g who i)).set x (.bool (deadP g who x)) = tab g.owner.length fun i => .bool (decide (i < x + 1) && deadP g who i) := by
        rw [set_tab]
        refine tab_congr fun i hi => ?_
        by_cases e : i = x
        · simp [e]
        · by_cases h1 : i < x
          · simp [e, h1, show i < x + 1 by omega]
          · simp [e, h1, show ¬ i < x + 1 by omega]
      refine AW.seq fun _ k2 => AW.cond true (by simp [Int.natCast_inj, hlt]) (fun _ => ?_) (fun h => by cases h)
      refine AW.skip ?_
      simp
      refine k2 _ ?_
      refine AW.seq fun _ k2 => ?_
      refine AW.block ?_
      refine AW.seq fun _ k3 => AW.region [] Θ_ok ?_
      simp [hlt]
      refine k3 _ ?_
      by_cases how : g.owner[x] = who
      · have hD2 : deadP g who x = ((g.next[x].length : Int) == 0) := by
          rw [hD]; simp only [how, beq_self_eq_true, Bool.true_and]
          rw [Bool.eq_iff_iff]; simp
        rw [hD2] at hset
        refine AW.region [] Θ_ok ?_
        simp [hlt, hv', how]
        refine ⟨by omega, k2 _ ?_⟩
        refine AW.region [] Θ_ok ?_
        simp
        exact ⟨x + 1, by omega, by omega, GStep.eq (by simp [inc]) (subH_of_eq (congrArg (fun c => upd h o (some ⟨c, 4, 1, true⟩)) hset))⟩
      · have hD2 : deadP g who x = false := by rw [hD]; simp [how]
        rw [hD2] at hset
        refine AW.region [] Θ_ok ?_
        simp [hlt, hv', how]
        refine ⟨by omega, k2 _ ?_⟩
        refine AW.region [] Θ_ok ?_
        simp
        exact ⟨x + 1, by omega, by omega, GStep.eq (by simp [inc]) (subH_of_eq (congrArg (fun c => upd h o (some ⟨c, 4, 1, true⟩)) hset))⟩
    · obtain rfl : x = g.owner.length := by omega
      refine AW.seq fun _ k2 => AW.cond false (by simp [Int.natCast_inj]) (fun h => by cases h) (fun _ => ?_)
      refine AW.exit ?_
      simp
      refine k1 _ ?_
      refine AW.seq fun _ kr => AW.region [] Θ_ok ?_
      simp
      refine kr _ (AW.ret ?_)
      simp [Try.f103]
      refine Fin.freeze (k := true) (upd_same _ _ _) (fun _ => rfl) rfl (by simp) (fun u hu => ?_) h (by simp [upd_none_id ho]; exact fun _ _ q => q) ⟨?_, rfl⟩
      · simp only [mem_tab] at hu
        obtain ⟨i, _, rfl⟩ := hu
        rfl
      · simp only [deadA, if_pos hm, bools, map_tab]
        congr 1
        exact tab_congr fun i hi => by simp [hi]
  · refine AW.seq fun _ k2 => AW.region [] Θ_ok ?_
    simp
    refine (graph_May g hf).use (by simp [G.av]) ?_
    try simp [hm]
    refine k2 _ ?_
    refine AW.cond true (by simp [Int.natCast_inj, hm]) (fun _ => ?_) (fun h => by cases h)
    refine AW.seq fun _ kr => AW.region [] Θ_ok ?_
    simp
    refine kr _ (AW.ret ?_)
    simp [Try.f103]
    exact Fin.refl ⟨by simp [deadA, hm], rfl⟩
end Go.Par

namespace Go.Par

inductive Reaches (g : G) (from_ : List Bool) : Nat → Prop where
  | start (v : Nat) (h : v < g.owner.length) (hf : hasN from_ v = true) : Reaches g from_ v
  | step (v w : Nat) (hr : Reaches g from_ v) (hw : (w : Int) ∈ g.next.getD v []) : Reaches g from_ w

open Classical in
noncomputable def reachL (g : G) (from_ : List Bool) : List Bool := tab g.owner.length fun v => decide (Reaches g from_ v)

theorem count_set : ∀ (l : List Bool) (v : Nat) (h : v < l.length), l[v] = false → (l.set v true).count false + 1 = l.count false
  | a :: l, 0, h, e => by simp at e; subst e; simp
  | a :: l, v + 1, h, e => by
    have := count_set l v (by simpa using h) (by simpa using e)
    simp only [List.set_cons_succ, List.count_cons]
    omega

/-- What holds of the set and of what is to do. -/
structure RI (g : G) (from_ : List Bool) (out : List Bool) (todo : List Int) : Prop where
  len : out.length = g.owner.length
  sound : ∀ v, hasN out v = true → Reaches g from_ v
  todoIn : ∀ t ∈ todo, ∃ v : Nat, t = v ∧ v < g.owner.length ∧ hasN out v = true
  size : todo.length + out.count false ≤ g.owner.length

theorem hasN_set (l : List Bool) (v w : Nat) (h : v < l.length) : hasN (l.set v true) w = if w = v then true else hasN l w := by
  unfold hasN
  simp only [List.getD_eq_getElem?_getD, List.getElem?_set]
  by_cases e : v = w
  · subst e; simp [h]
  · rw [if_neg e, if_neg fun h => e h.symm]

theorem RI.meet {g : G} {from_ out : List Bool} {todo : List Int} (I : RI g from_ out todo) {v : Nat} (hv : v < out.length) (hr : Reaches g from_ v) (hb : out[v] = false) : RI g from_ (out.set v true) (todo ++ [(v : Int)]) := by
  have hc := count_set out v hv hb
  refine ⟨by rw [List.length_set]; exact I.len, fun w hw => ?_, fun t ht => ?_, by have := I.size; simp only [List.length_append, List.length_cons, List.length_nil]; omega⟩
  · rw [hasN_set out v w hv] at hw
    by_cases e : w = v
    · subst e; exact hr
    · rw [if_neg e] at hw; exact I.sound w hw
  · rcases List.mem_append.1 ht with ht | ht
    · obtain ⟨w, e, h1, h2⟩ := I.todoIn t ht
      refine ⟨w, e, h1, ?_⟩
      rw [hasN_set out v w hv]
      split
      · rfl
      · exact h2
    · simp at ht
      exact ⟨v, ht, by rw [← I.len]; exact hv, by rw [hasN_set out v v hv, if_pos rfl]⟩

/-- What is met and done with leads to what is met. -/
def Clo (g : G) (out : List Bool) (todo : List Int) (ex : Nat → Prop) : Prop :=
  ∀ v, hasN out v = true → ¬ ex v → (v : Int) ∉ todo → ∀ w : Nat, (w : Int) ∈ g.next.getD v [] → hasN out w = true

theorem Clo.meet {g : G} {out : List Bool} {todo : List Int} {ex : Nat → Prop} (C : Clo g out todo ex) {v : Nat} (hv : v < out.length) : Clo g (out.set v true) (todo ++ [(v : Int)]) ex := by
  intro u hu hex hn w hw
  rw [hasN_set out v w hv]
  split
  · rfl
  · rw [hasN_set out v u hv] at hu
    by_cases e : u = v
    · subst e; exact absurd (by simp) hn
    · rw [if_neg e] at hu
      exact C u hu hex (fun h => hn (List.mem_append.2 (.inl h))) w hw

/-- At the end the set is what is reached. -/
theorem RI.done {g : G} {from_ out : List Bool} (I : RI g from_ out []) (C : Clo g out [] fun _ => False) (hs : ∀ v, v < g.owner.length → hasN from_ v = true → hasN out v = true) : out = reachL g from_ := by
  have full : ∀ v, Reaches g from_ v → hasN out v = true := by
    intro v h
    induction h with
    | start v h hf => exact hs v h hf
    | step v w hr hw ih => exact C v ih (fun h => h) (by simp) w hw
  refine tab_ext I.len fun i hi => ?_
  have hi' : i < out.length := by rw [I.len]; exact hi
  have e : hasN out i = out[i] := by simp [hasN, hi']
  rw [List.getElem?_eq_getElem hi']
  congr 1
  cases hb : out[i]
  · have : ¬ Reaches g from_ i := fun h => by
      have := full i h
      rw [e, hb] at this; cases this
    simp [this]
  · have : Reaches g from_ i := I.sound i (by rw [e, hb])
    simp [this]

end Go.Par

namespace Go.Par

theorem rise_iff : ∀ {l : List Int} {was n : Int}, rise was l n = true ↔ (∀ w ∈ l, was < w ∧ w < n) ∧ l.Pairwise (· < ·)
  | [], was, n => by simp [rise]
  | v :: r, was, n => by
    have ih := rise_iff (l := r) (was := v) (n := n)
    simp only [rise]
    split
    · rename_i h
      constructor
      · intro q; cases q
      · rintro ⟨q, _⟩; have := q v (by simp); omega
    · rename_i h
      rw [ih, List.pairwise_cons]
      constructor
      · rintro ⟨q, p⟩
        exact ⟨fun w hw => by
          rcases List.mem_cons.1 hw with rfl | hw
          · omega
          · have := q w hw; omega, fun w hw => (q w hw).1, p⟩
      · rintro ⟨q, p, p'⟩
        exact ⟨fun w hw => ⟨p w hw, (q w (by simp [hw])).2⟩, p'⟩

theorem rise_len : ∀ {l : List Int} {was n : Int}, rise was l n = true → l = [] ∨ was + l.length < n
  | [], was, n, _ => .inl rfl
  | v :: r, was, n, h => by
    simp only [rise] at h
    split at h
    · cases h
    · rcases rise_len h with rfl | q
      · right; simp; omega
      · right; simp only [List.length_cons]; omega

theorem sorted_ext : ∀ {a b : List Int}, a.Pairwise (· < ·) → b.Pairwise (· < ·) → (∀ w, w ∈ a ↔ w ∈ b) → a = b
  | [], [], _, _, _ => rfl
  | [], b :: l, _, _, h => absurd ((h b).2 (by simp)) (by simp)
  | a :: l, [], _, _, h => absurd ((h a).1 (by simp)) (by simp)
  | a :: l, b :: m, ha, hb, h => by
    rw [List.pairwise_cons] at ha hb
    have e : a = b := by
      rcases List.mem_cons.1 ((h a).1 (by simp)) with e | e
      · exact e
      · rcases List.mem_cons.1 ((h b).2 (by simp)) with f | f
        · exact f.symm
        · have := hb.1 a e; have := ha.1 b f; omega
    subst e
    rw [sorted_ext ha.2 hb.2 fun w => ?_]
    constructor
    · intro hw
      rcases List.mem_cons.1 ((h w).1 (by simp [hw])) with e | e
      · subst e; have := ha.1 w hw; omega
      · exact e
    · intro hw
      rcases List.mem_cons.1 ((h w).2 (by simp [hw])) with e | e
      · subst e; have := hb.1 w hw; omega
      · exact e

theorem filter_sorted : ∀ {l : List Int} (w : Int), l.Pairwise (· < ·) → l.filter (· == w) = if w ∈ l then [w] else []
  | [], w, _ => by simp
  | a :: l, w, h => by
    rw [List.pairwise_cons] at h
    rw [List.filter_cons, filter_sorted w h.2]
    by_cases e : a = w
    · subst e
      have : a ∉ l := fun q => by have := h.1 a q; omega
      simp [this]
    · have e' : ¬ w = a := fun q => e q.symm
      simp [e, e']

theorem may_rise {g : G} (h : mayE g = 0) {v : Nat} (hv : v < g.next.length) : rise (-1) g.next[v] g.owner.length = true := by
  obtain ⟨h1, h2, h3⟩ := may_ok h
  have := h3 v (by omega)
  simp only [okV, Bool.and_eq_true, List.getD_eq_getElem?_getD, List.getElem?_eq_getElem hv, Option.getD_some] at this
  exact this.2

/-- From where one goes to 'w', by the vertices below 'x' and the first 'y' ways of 'x'. -/
def befS (g : G) (x y w : Nat) : List Int :=
  ((List.range x).flatMap fun v => ((g.next.getD v []).filter (· == (w : Int))).map fun _ => (v : Int)) ++ (((g.next.getD x []).take y).filter (· == (w : Int))).map fun _ => (x : Int)

theorem befS_zero (g : G) (w : Nat) : befS g 0 0 w = [] := by simp [befS]
theorem befS_next (g : G) {x : Nat} (hx : x < g.next.length) (w : Nat) : befS g x g.next[x].length w = befS g (x + 1) 0 w := by
  simp [befS, List.range_succ, hx]
theorem befS_step (g : G) {x y : Nat} (hx : x < g.next.length) (hy : y < g.next[x].length) (w : Nat) : befS g x (y + 1) w = befS g x y w ++ if g.next[x][y] = (w : Int) then [(x : Int)] else [] := by
  simp only [befS, List.getD_eq_getElem?_getD, List.getElem?_eq_getElem hx, Option.getD_some]
  rw [List.take_succ_eq_append_getElem hy, List.filter_append, List.map_append, List.append_assoc]
  congr 2
  by_cases e : g.next[x][y] = (w : Int) <;> simp [e]

/-- From where one goes to 'w'. -/
def bef (g : G) (w : Nat) : List Int := ((List.range g.next.length).filter fun v => (g.next.getD v []).contains (w : Int)).map Int.ofNat

theorem befS_sorted {g : G} (hm : mayE g = 0) (w : Nat) : ∀ {x : Nat}, x ≤ g.next.length → befS g x 0 w = ((List.range x).filter fun v => (g.next.getD v []).contains (w : Int)).map Int.ofNat
  | 0, _ => by simp [befS]
  | x + 1, hx => by
    have hx' : x < g.next.length := by omega
    have ih := befS_sorted hm w (x := x) (by omega)
    rw [← befS_next g hx']
    have e : befS g x g.next[x].length w = befS g x 0 w ++ (g.next[x].filter (· == (w : Int))).map fun _ => (x : Int) := by
      simp [befS, hx']
    rw [e, ih, List.range_succ, List.filter_append, List.map_append]
    congr 1
    have hs := (rise_iff.1 (may_rise hm hx')).2
    rw [filter_sorted _ hs]
    by_cases q : (w : Int) ∈ g.next[x] <;> simp [q, hx']

theorem befS_len {g : G} (hm : mayE g = 0) (w : Nat) {x y : Nat} (hx : x < g.next.length) : (befS g x y w).length ≤ 6000 := by
  have hs := (rise_iff.1 (may_rise hm hx)).2
  have h3 := (may_ok hm).1
  have h2 := (may_ok hm).2.1
  have e : befS g x y w = befS g x 0 w ++ ((g.next[x].take y).filter (· == (w : Int))).map fun _ => (x : Int) := by
    simp [befS, hx]
  rw [e, befS_sorted hm w (Nat.le_of_lt hx), filter_sorted _ (hs.sublist (List.take_sublist _ _))]
  have h1 : ((List.range x).filter fun v => (g.next.getD v []).contains (w : Int)).length ≤ x := by
    have := List.length_filter_le (fun v => (g.next.getD v []).contains (w : Int)) (List.range x)
    simpa using this
  simp only [List.length_append, List.length_map]
  split <;> simp only [List.length_cons, List.length_nil] <;> omega

end Go.Par

set_option linter.unusedSimpArgs false
set_option maxRecDepth 8000
set_option linter.unusedSectionVars false
namespace Go.Par
open Go.Proofs

/-- The memory while one goes about in a game: the set, the word that holds it, the word that holds what is to do, and that row. -/
def RH (h0 : Heap) (o p5 p6 q : Nat) (out : List Bool) (todo : List Int) (nn : Bool) (jk : List Int) : Heap := fun x =>
  if x = o then some ⟨bools out, 4, 1, true⟩ else if x = p5 then some ⟨[.mu o out.length], 31, 1, true⟩ else
  if x = p6 then some ⟨[.mu q todo.length], 22, 1, true⟩ else if x = q then some ⟨ints (todo ++ jk), 3, 1, nn⟩ else h0 x

structure RN (h0 : Heap) (o p5 p6 q : Nat) : Prop where
  a1 : p5 ≠ o
  a2 : p6 ≠ o
  a3 : q ≠ o
  a4 : p6 ≠ p5
  a5 : q ≠ p5
  a6 : q ≠ p6
  f1 : h0 o = none
  f2 : h0 p5 = none
  f3 : h0 p6 = none
  f4 : h0 q = none

section
variable {h0 : Heap} {o p5 p6 q : Nat} (N : RN h0 o p5 p6 q) (out : List Bool) (todo : List Int) (nn : Bool) (jk : List Int)
include N
theorem RN.at1 : RH h0 o p5 p6 q out todo nn jk o = some ⟨bools out, 4, 1, true⟩ := by simp [RH]
theorem RN.at2 : RH h0 o p5 p6 q out todo nn jk p5 = some ⟨[.mu o out.length], 31, 1, true⟩ := by simp [RH, N.a1]
theorem RN.at3 : RH h0 o p5 p6 q out todo nn jk p6 = some ⟨[.mu q todo.length], 22, 1, true⟩ := by simp [RH, N.a2, N.a4]
theorem RN.at4 : RH h0 o p5 p6 q out todo nn jk q = some ⟨ints (todo ++ jk), 3, 1, nn⟩ := by simp [RH, N.a3, N.a5, N.a6]
theorem RN.set (v : Nat) : upd (RH h0 o p5 p6 q out todo nn jk) o (some ⟨(bools out).set v (.bool true), 4, 1, true⟩) = RH h0 o p5 p6 q (out.set v true) todo nn jk := by
  funext x
  simp only [upd, RH]
  split
  · simp [List.map_set]
  · simp
theorem RN.add (v : Int) (q' : Nat) (h : RH h0 o p5 p6 q out todo nn jk q' = none) :
    RN h0 o p5 p6 q' ∧ upd (upd (RH h0 o p5 p6 q out todo nn jk) q none) q' (some ⟨ints todo ++ [.int .i64 v], 3, 1, true⟩) p6 = some ⟨[.mu q todo.length], 22, 1, true⟩ ∧
    upd (upd (upd (RH h0 o p5 p6 q out todo nn jk) q none) q' (some ⟨ints todo ++ [.int .i64 v], 3, 1, true⟩)) p6 (some ⟨[.mu q' (todo.length + 1)], 22, 1, true⟩) = RH h0 o p5 p6 q' out (todo ++ [v]) true [] := by
  have hq : q' ≠ o ∧ q' ≠ p5 ∧ q' ≠ p6 ∧ h0 q' = none := by
    simp only [RH] at h
    split at h
    · cases h
    · split at h
      · cases h
      · split at h
        · cases h
        · split at h
          · cases h
          · rename_i a b c d
            exact ⟨a, b, c, h⟩
  refine ⟨⟨N.a1, N.a2, hq.1, N.a4, hq.2.1, hq.2.2.1, N.f1, N.f2, N.f3, hq.2.2.2⟩, ?_, ?_⟩
  · rw [upd_ne _ _ (fun e => hq.2.2.1 e.symm), upd_ne _ _ (fun e => N.a6 e.symm)]; exact N.at3 out todo nn jk
  funext x
  simp only [upd, RH]
  by_cases e1 : x = p6
  · subst e1; simp [N.a2, N.a4]
  · by_cases e2 : x = q'
    · subst e2; simp [e1, hq.1, hq.2.1]
    · by_cases e3 : x = q
      · subst e3
        simp [e1, e2, N.a3, N.a5, N.f4]
      · simp [e1, e2, e3]
end

end Go.Par

set_option linter.unusedSimpArgs false
set_option maxRecDepth 8000
namespace Go.Par
open Go.Proofs

open Classical in
noncomputable def reachA (g : G) (from_ : List Bool) : AV := if mayE g = 0 then .ro true (bools (reachL g from_)) else .nils

structure RX where
  q : Nat
  out : List Bool
  todo : List Int
  nn : Bool
  x : Nat
  jk : List Int

end Go.Par

namespace Go.Par

theorem Reaches.lt {g : G} (hm : mayE g = 0) {from_ : List Bool} {v : Nat} (h : Reaches g from_ v) : v < g.owner.length := by
  induction h with
  | start v h hf => exact h
  | step v w hr hw ih =>
    have h2 := (may_ok hm).2.1
    have hv : v < g.next.length := by omega
    rw [List.getD_eq_getElem?_getD, List.getElem?_eq_getElem hv, Option.getD_some] at hw
    have := (may_row hm ih hv).2 _ hw
    omega

theorem Reaches.mono {g : G} {a b : List Bool} (h : ∀ v, v < g.owner.length → hasN a v = true → Reaches g b v) {v : Nat} (q : Reaches g a v) : Reaches g b v := by
  induction q with
  | start v hv hf => exact h v hv hf
  | step v w _ hw ih => exact .step v w ih hw

theorem hasN_lt {l : List Bool} {v : Nat} (h : hasN l v = true) : v < l.length := by
  by_cases e : v < l.length
  · exact e
  · simp [hasN, List.getElem?_eq_none (Nat.le_of_not_lt e)] at h
theorem hasN_get {l : List Bool} {v : Nat} (h : v < l.length) : hasN l v = l[v] := by simp [hasN, h]
theorem hasN_tab {n : Nat} {f : Nat → Bool} {v : Nat} (h : v < n) : hasN (tab n f) v = f v := by simp [hasN, h]

open Classical in
theorem reachL_get (g : G) (from_ : List Bool) {v : Nat} (h : v < (reachL g from_).length) : (reachL g from_)[v] = decide (Reaches g from_ v) := by simp [reachL]
theorem reachL_len (g : G) (from_ : List Bool) : (reachL g from_).length = g.owner.length := by simp [reachL]
open Classical in
theorem reachL_has {g : G} {from_ : List Bool} {v : Nat} : hasN (reachL g from_) v = true ↔ v < g.owner.length ∧ Reaches g from_ v := by
  constructor
  · intro h
    have q := hasN_lt h
    rw [reachL_len] at q
    rw [reachL, hasN_tab q] at h
    exact ⟨q, by simpa using h⟩
  · rintro ⟨q, h⟩
    rw [reachL, hasN_tab q]; simpa using h

/-- What is told by one set is reached from it. -/
theorem reachL_start {g : G} {from_ : List Bool} {v : Nat} (hv : v < (reachL g from_).length) (h : hasN from_ v = true) : (reachL g from_)[v] = true := by
  rw [reachL_get]; rw [reachL_len] at hv; simpa using Reaches.start v hv h
theorem reachL_step {g : G} {from_ : List Bool} {v w : Nat} (hv : v < (reachL g from_).length) (hw : w < (reachL g from_).length) (h : (reachL g from_)[v] = true) (hm : (w : Int) ∈ g.next.getD v []) : (reachL g from_)[w] = true := by
  rw [reachL_get] at h ⊢
  simpa using Reaches.step v w (by simpa using h) hm

theorem reaches_or {g : G} {a b c : List Bool} (h : ∀ v, v < g.owner.length → hasN c v = (hasN a v || hasN b v)) {v : Nat} : Reaches g c v ↔ Reaches g a v ∨ Reaches g b v := by
  constructor
  · intro q
    induction q with
    | start v hv hf =>
      rw [h v hv, Bool.or_eq_true] at hf
      exact hf.imp (fun e => .start v hv e) (fun e => .start v hv e)
    | step v w _ hw ih => exact ih.imp (fun e => .step v w e hw) (fun e => .step v w e hw)
  · rintro (q | q)
    · exact q.mono fun v hv e => .start v hv (by rw [h v hv, e]; rfl)
    · exact q.mono fun v hv e => .start v hv (by rw [h v hv, e, Bool.or_true])

open Classical in
theorem reachL_or {g : G} {a b c : List Bool} (h : ∀ v, v < g.owner.length → hasN c v = (hasN a v || hasN b v)) {v : Nat} (h1 : v < (reachL g a).length) (h2 : v < (reachL g b).length) (h3 : v < (reachL g c).length) :
    (reachL g c)[v] = ((reachL g a)[v] || (reachL g b)[v]) := by
  rw [reachL_get, reachL_get, reachL_get]
  have e := reaches_or h (v := v)
  by_cases p : Reaches g a v <;> by_cases q : Reaches g b v <;> simp [e, p, q]

open Classical in
theorem reachL_twice (g : G) (a : List Bool) : reachL g (reachL g a) = reachL g a := by
  refine tab_congr fun v hv => ?_
  have : Reaches g (reachL g a) v ↔ Reaches g a v :=
    ⟨fun q => q.mono fun v hv e => (reachL_has.1 e).2, fun q => .start v hv (reachL_has.2 ⟨hv, q⟩)⟩
  simp [this]
end Go.Par

set_option linter.unusedSimpArgs false
set_option maxRecDepth 8000
namespace Go.Par
open Go.Proofs

def befL (g : G) : List (List Int) := tab g.owner.length fun w => bef g w
def befA (g : G) : AV := if mayE g = 0 then .ro true (rows (befL g)) else .nils

structure BX where
  f : Nat → Nat
  nn : Nat → Bool
  x : Nat
  y : Nat

def befR (g : G) (nn : Nat → Bool) (x y : Nat) : Nat → Ob := fun w => ⟨ints (befS g x y w), 3, 1, nn w⟩
def befC (g : G) (f : Nat → Nat) (x y : Nat) : Ob := ⟨tab g.owner.length fun w => .mu (f w) (befS g x y w).length, 22, 1, true⟩

theorem befR_next (g : G) (nn : Nat → Bool) {x : Nat} (hx : x < g.next.length) : befR g nn x g.next[x].length = befR g nn (x + 1) 0 := by
  funext w; simp only [befR, befS_next g hx]
theorem befC_next (g : G) (f : Nat → Nat) {x : Nat} (hx : x < g.next.length) : befC g f x g.next[x].length = befC g f (x + 1) 0 := by
  simp only [befC, befS_next g hx]

theorem graph_Before (g : G) (hf : g.fits) : Pure Try.prog 105 [g.av] (befA g) := by
  intro h
  refine AC.body Θ_ok Try.func105 rfl rfl (Nat.le_of_ble_eq_true rfl) ?_
  refine AW.seq fun _ k1 => AW.region [] Θ_ok ?_
  simp
  refine k1 _ ?_
  refine AW.seq fun _ k1 => ?_
  by_cases hm : mayE g = 0
  · have hn := (may_ok hm).2.1
    have h3 := (may_ok hm).1
    refine AW.seq fun _ k2 => AW.region [] Θ_ok ?_
    simp
    refine (graph_May g hf).use (by simp [G.av]) ?_
    try simp [hm]
    refine k2 _ ?_
    refine AW.cond false (by simp [Int.natCast_inj]) (fun h => by cases h) (fun _ => ?_)
    refine AW.skip ?_
    simp
    refine k1 _ ?_
    refine AW.seq fun _ k1 => AW.region [14] Θ_ok ?_
    simp
    refine ⟨by omega, fun o ho => k1 _ ?_⟩
    rw [replicate_tab, flat_tab (fun _ _ => rfl)]
    refine AW.family 3 1 ho fun f N => ?_
    refine AW.seq fun _ k1 => ?_
    refine AW.seq fun _ k2 => AW.region [] Θ_ok ?_
    simp
    refine k2 _ ?_
    refine AW.block ?_
    have hst : FH h o ⟨tab g.owner.length fun i => .mu (f i) 0, 22, 1, true⟩ f g.owner.length (fun _ => ⟨[], 3, 1, false⟩) = FH h o (befC g f 0 0) f g.owner.length (befR g (fun _ => false) 0 0) := by
      have e : befR g (fun _ => false) 0 0 = fun _ => ⟨[], 3, 1, false⟩ := by funext w; simp [befR, befS_zero]
      rw [e]; simp [befC, befS_zero]
    rw [hst]
    refine AW.loopI (X := BX) (fun s => FN h o s.f g.owner.length ∧ s.x ≤ g.next.length)
      (fun s => ⟨42, [(18, .int .i64 s.x), (17, .int .i64 g.next.length), (16, .ro false (rows g.next)), (3, .mu o g.owner.length)], FH h o (befC g s.f s.x 0) s.f g.owner.length (befR g s.nn s.x 0)⟩)
      (fun s => g.next.length - s.x) ⟨f, fun _ => false, 0, 0⟩ ⟨N, Nat.zero_le _⟩ (GStep.eq (by simp) (subH.refl _)) ?_
    clear N hst f
    rintro ⟨f, nn, x, _⟩ ⟨N, hx⟩
    simp only at N hx ⊢
    refine AW.seq fun _ k2 => AW.region [] Θ_ok ?_
    simp
    refine k2 _ ?_
    by_cases hlt : x < g.next.length
    · have hlr := hf.row _ (List.getElem_mem hlt)
      obtain ⟨_, hr⟩ := may_row hm (by omega) hlt
      have inc := wrap_succ (show x < 9223372036854775807 by omega)
      refine AW.seq fun _ k2 => AW.cond true (by simp [Int.natCast_inj, hlt]) (fun _ => ?_) (fun h => by cases h)
      refine AW.skip ?_
      simp
      refine k2 _ ?_
      refine AW.seq fun _ k2 => ?_
      refine AW.block ?_
      refine AW.seq fun _ k3 => AW.region [] Θ_ok ?_
      simp [hlt]
      refine k3 _ ?_
      refine AW.seq fun _ k3 => AW.region [] Θ_ok ?_
      simp
      refine k3 _ ?_
      refine AW.block ?_
      refine AW.loopI (X := BX) (fun s => FN h o s.f g.owner.length ∧ s.y ≤ g.next[x].length)
        (fun s => ⟨42, [(25, .int .i64 s.y), (24, .int .i64 g.next[x].length), (23, .ro false (ints g.next[x])), (4, .int .i64 x), (18, .int .i64 x), (17, .int .i64 g.next.length), (16, .ro false (rows g.next)), (3, .mu o g.owner.length)], FH h o (befC g s.f x s.y) s.f g.owner.length (befR g s.nn x s.y)⟩)
        (fun s => g.next[x].length - s.y) ⟨f, nn, x, 0⟩ ⟨N, Nat.zero_le _⟩ (GStep.eq (by simp) (subH.refl _)) ?_
      clear N f nn
      rintro ⟨f, nn, _, y⟩ ⟨N, hy⟩
      simp only at N hy ⊢
      refine AW.seq fun _ k3 => AW.region [] Θ_ok ?_
      simp
      refine k3 _ ?_
      by_cases hly : y < g.next[x].length
      · obtain ⟨w, hw⟩ : ∃ w : Nat, g.next[x][y] = (w : Int) := ⟨g.next[x][y].toNat, by have := (hr _ (List.getElem_mem hly)).1; omega⟩
        have hwn : w < g.owner.length := by have := (hr _ (List.getElem_mem hly)).2; omega
        have incy := wrap_succ (show y < 9223372036854775807 by omega)
        have hO : FH h o (befC g f x y) f g.owner.length (befR g nn x y) o = some (befC g f x y) := FN.at_out
        have hW := N.at_row (C := befC g f x y) (R := befR g nn x y) hwn
        have hbl := befS_len hm w (y := y) hlt
        have hC : (befC g f x y).cells[w]? = some (.mu (f w) (befS g x y w).length) := by simp [befC, getElem?_tab, hwn]
        have hL : (befC g f x y).cells.drop w = .mu (f w) (befS g x y w).length :: (befC g f x y).cells.drop (w + 1) := by
          have hh : w < (befC g f x y).cells.length := by simp [befC, hwn]
          rw [List.drop_eq_getElem_cons hh]
          rw [List.getElem?_eq_getElem hh] at hC
          rw [Option.some.inj hC]
        have hCl : (befC g f x y).cells.length = g.owner.length := by simp [befC]
        refine AW.seq fun _ k3 => AW.cond true (by simp [Int.natCast_inj, hly]) (fun _ => ?_) (fun h => by cases h)
        refine AW.skip ?_
        simp
        refine k3 _ ?_
        refine AW.seq fun _ k3 => ?_
        refine AW.block ?_
        refine AW.seq fun _ k4 => AW.region [] Θ_ok ?_
        simp [hly, hw]
        refine k4 _ ?_
        refine AW.region [] Θ_ok ?_
        simp [hO, hL, hwn, hW, appendA, befR]
        refine ⟨rfl, by omega, fun n' hn' => ?_⟩
        have hft : List.take (befS g x y w).length (ints (befS g x y w)) = ints (befS g x y w) := List.take_of_length_le (by simp)
        have stepC : (⟨(befC g f x y).cells.set w (.mu n' ((befS g x y w).length + 1)), (befC g f x y).ty, (befC g f x y).sz, (befC g f x y).nn⟩ : Ob) = befC g (fun i => if i = w then n' else f i) x (y + 1) := by
          simp only [befC, set_tab]
          congr 1
          refine tab_congr fun i _ => ?_
          rw [befS_step g hlt hly, hw]
          by_cases e : i = w
          · subst e; simp
          · have e' : ¬ (w : Int) = (i : Int) := by omega
            simp [e, e']
        have stepR : (fun i => if i = w then (⟨ints (befS g x y w) ++ [.int .i64 x], 3, 1, true⟩ : Ob) else befR g nn x y i) = befR g (fun i => if i = w then true else nn i) x (y + 1) := by
          funext i
          simp only [befR]
          rw [befS_step g hlt hly, hw]
          by_cases e : i = w
          · subst e; simp
          · have e' : ¬ (w : Int) = (i : Int) := by omega
            simp [e, e']
        obtain ⟨N', he⟩ := N.grow (C' := befC g (fun i => if i = w then n' else f i) x (y + 1)) hwn ⟨ints (befS g x y w) ++ [.int .i64 x], 3, 1, true⟩ hn'
        obtain ⟨q1, q2, q3⟩ := N.fresh hn'
        rw [hft]
        have hno : upd (upd (FH h o (befC g f x y) f g.owner.length (befR g nn x y)) (f w) none) n' (some ⟨ints (befS g x y w) ++ [.int .i64 x], 3, 1, true⟩) o = some (befC g f x y) := by
          rw [upd_ne _ _ (Ne.symm q1), upd_ne _ _ (Ne.symm (N.ne w hwn))]; exact hO
        rw [hno]
        simp only
        refine ⟨⟨trivial, by rw [hCl]; exact hwn⟩, k3 _ ?_⟩
        rw [stepC, he, stepR]
        refine AW.region [] Θ_ok ?_
        simp
        exact ⟨⟨_, _, 0, y + 1⟩, ⟨N', hly⟩, by simp only; omega, GStep.eq (by simp [incy]) (subH.refl _)⟩
      · obtain rfl : y = g.next[x].length := by omega
        refine AW.seq fun _ k3 => AW.cond false (by simp [Int.natCast_inj]) (fun h => by cases h) (fun _ => ?_)
        refine AW.exit ?_
        simp
        refine k2 _ ?_
        rw [befC_next g f hlt, befR_next g nn hlt]
        refine AW.region [] Θ_ok ?_
        simp
        exact ⟨⟨f, nn, x + 1, 0⟩, ⟨N, hlt⟩, by simp only; omega, GStep.eq (by simp [inc]) (subH.refl _)⟩
    · obtain rfl : x = g.next.length := by omega
      refine AW.seq fun _ k2 => AW.cond false (by simp [Int.natCast_inj]) (fun h => by cases h) (fun _ => ?_)
      refine AW.exit ?_
      simp
      refine k1 _ ?_
      have hA : befC g f g.next.length 0 = ⟨tab g.owner.length fun i => if i < g.owner.length then .mu (f i) (befS g g.next.length 0 i).length else .ro false (ints (bef g i)), 22, 1, true⟩ := by
        simp only [befC]
        congr 1
        exact tab_congr fun i hi => by simp [hi]
      rw [hA]
      refine AW.ghost (GStep.rows N (R := befR g nn g.next.length 0) (fun _ _ => rfl) (fun i _ => by simp [befR]) (fun i _ u hu => ?_) (fun i _ => ?_) g.owner.length (Nat.le_refl _)) ?_
      · simp only [befR, List.mem_map] at hu; obtain ⟨_, _, rfl⟩ := hu; rfl
      · simp only [befR, bef]; rw [befS_sorted hm i (Nat.le_refl _)]
      refine AW.seq fun _ kr => AW.region [] Θ_ok ?_
      simp
      refine kr _ (AW.ret ?_)
      simp [Try.f105]
      refine Fin.freeze (k := true) (upd_same _ _ _) (fun _ => rfl) rfl (by simp) (fun u hu => ?_) h (by simp [upd_none_id ho]; exact subH.refl _) ⟨?_, rfl⟩
      · simp only [mem_tab] at hu
        obtain ⟨i, _, rfl⟩ := hu
        rfl
      · simp [befA, hm, befL]
  · refine AW.seq fun _ k2 => AW.region [] Θ_ok ?_
    simp
    refine (graph_May g hf).use (by simp [G.av]) ?_
    try simp [hm]
    refine k2 _ ?_
    refine AW.cond true (by simp [Int.natCast_inj, hm]) (fun _ => ?_) (fun h => by cases h)
    refine AW.seq fun _ kr => AW.region [] Θ_ok ?_
    simp
    refine kr _ (AW.ret ?_)
    simp [Try.f105]
    exact Fin.refl ⟨by simp [befA, hm], rfl⟩
end Go.Par

namespace Go.Par

def waysRow (g : G) (p : Nat → Int → Bool) (v : Nat) : List Int := (g.next.getD v []).filter (p v)
def waysL (g : G) (p : Nat → Int → Bool) : List (List Int) := tab g.next.length (waysRow g p)

/-- The rows when the first 'x' are done, and 'y' ways of the next one. -/
def waysS (g : G) (p : Nat → Int → Bool) (x y v : Nat) : List Int := if v < x then waysRow g p v else if v = x then ((g.next.getD x []).take y).filter (p x) else []

theorem waysS_zero (g : G) (p : Nat → Int → Bool) (v : Nat) : waysS g p 0 0 v = [] := by simp [waysS]
theorem waysS_next (g : G) (p : Nat → Int → Bool) {x : Nat} (hx : x < g.next.length) (v : Nat) : waysS g p x g.next[x].length v = waysS g p (x + 1) 0 v := by
  unfold waysS
  by_cases e : v < x
  · rw [if_pos e, if_pos (by omega)]
  · by_cases e2 : v = x
    · subst e2; simp [waysRow, hx]
    · rw [if_neg e, if_neg e2, if_neg (by omega)]
      split <;> simp
theorem waysS_step (g : G) (p : Nat → Int → Bool) {x y : Nat} (hx : x < g.next.length) (hy : y < g.next[x].length) (v : Nat) : waysS g p x (y + 1) v = waysS g p x y v ++ if v = x ∧ p x g.next[x][y] = true then [g.next[x][y]] else [] := by
  unfold waysS
  by_cases e : v < x
  · rw [if_pos e, if_pos e, if_neg (by omega)]; simp
  · by_cases e2 : v = x
    · subst e2
      simp only [Nat.lt_irrefl, if_false, if_true, true_and, List.getD_eq_getElem?_getD, List.getElem?_eq_getElem hx, Option.getD_some]
      rw [List.take_succ_eq_append_getElem hy, List.filter_append]
      congr 1
      by_cases q : p v g.next[v][y] = true <;> simp [q]
    · simp [e, e2]
theorem waysS_len {g : G} (hm : mayE g = 0) (p : Nat → Int → Bool) {x y : Nat} (hx : x < g.next.length) : (waysS g p x y x).length ≤ 3000 := by
  have h3 := (may_ok hm).1
  have := rise_len (may_rise hm hx)
  simp only [waysS, Nat.lt_irrefl, if_false, if_true, List.getD_eq_getElem?_getD, List.getElem?_eq_getElem hx, Option.getD_some]
  have h1 := List.length_filter_le (p x) (List.take y g.next[x])
  have h2 : (List.take y g.next[x]).length ≤ g.next[x].length := by simp; omega
  rcases this with e | e
  · rw [e] at h2 ⊢; simp
  · omega

def waysG (g : G) (p : Nat → Int → Bool) : G := if mayE g = 0 then ⟨g.owner, waysL g p⟩ else ⟨[], []⟩

theorem waysL_len (g : G) (p : Nat → Int → Bool) : (waysL g p).length = g.next.length := length_tab _ _
theorem waysL_get (g : G) (p : Nat → Int → Bool) {v : Nat} (h : v < (waysL g p).length) (h' : v < g.next.length) : (waysL g p)[v] = g.next[v].filter (p v) := by
  simp [waysL, waysRow, h']

theorem waysG_fits {g : G} (hf : g.fits) (p : Nat → Int → Bool) : (waysG g p).fits := by
  unfold waysG
  split
  · refine ⟨hf.owner, by simp only [waysL_len]; exact hf.next, fun l hl => ?_⟩
    simp only at hl
    obtain ⟨v, hv, rfl⟩ := mem_tab.1 hl
    have h1 := List.length_filter_le (p v) g.next[v]
    have h2 := hf.row _ (List.getElem_mem hv)
    simp only [waysRow, List.getD_eq_getElem?_getD, List.getElem?_eq_getElem hv, Option.getD_some]
    omega
  · exact ⟨by simp, by simp, by simp⟩

theorem rise_filter {l : List Int} {was n : Int} (h : rise was l n = true) (p : Int → Bool) : rise was (l.filter p) n = true := by
  rw [rise_iff] at h ⊢
  exact ⟨fun w hw => h.1 w (List.mem_filter.1 hw).1, h.2.sublist List.filter_sublist⟩

theorem waysG_may {g : G} (hm : mayE g = 0) (p : Nat → Int → Bool) : mayE (waysG g p) = 0 := by
  obtain ⟨h1, h2, h3⟩ := may_ok hm
  have e0 : waysG g p = ⟨g.owner, waysL g p⟩ := if_pos hm
  have e3 : (waysL g p).length = g.owner.length := by rw [waysL_len, h2]
  have : (List.range g.owner.length).all (okV ⟨g.owner, waysL g p⟩) = true := all_of_range fun v hv => by
    have := h3 v hv
    simp only [okV, Bool.and_eq_true] at this ⊢
    refine ⟨this.1, ?_⟩
    rw [waysL, getD_tab, if_pos (by omega)]
    exact rise_filter this.2 _
  rw [e0]
  unfold mayE
  simp only [e3]
  rw [if_neg (by omega), if_pos trivial, if_pos this]

end Go.Par

set_option linter.unusedSimpArgs false
set_option maxRecDepth 8000
namespace Go.Par
open Go.Proofs

theorem slices_Clone (l : List Int) (hl : l.length ≤ 17592186044416) : Pure Try.prog 126 [.ro false (ints l)] (.ro false (ints l)) := by
  intro h
  refine AC.nilCases (us1 := []) (us2 := []) (fun e => ?_) ?_
  · have el : l = [] := by simpa using e
    subst el
    refine AC.body Θ_ok Try.func126 rfl rfl (Nat.le_of_ble_eq_true rfl) ?_
    refine AW.seq fun _ k1 => AW.region [] Θ_ok ?_
    simp
    refine k1 _ ?_
    refine AW.seq fun _ k1 => ?_
    refine AW.seq fun _ k2 => AW.region [] Θ_ok ?_
    simp
    refine k2 _ ?_
    refine AW.cond true (by simp [Int.natCast_inj]) (fun _ => ?_) (fun h => by cases h)
    refine AW.seq fun _ kr => AW.region [] Θ_ok ?_
    simp
    refine kr _ (AW.ret ?_)
    simp [Try.f126]
    refine ⟨_, h, fun φ w x H V => ⟨φ, Ext.refl φ, H, V.wk (u' := .ro false []) (by simp), fun _ q => q⟩, rfl, rfl⟩
  · refine AC.body Θ_ok Try.func126 rfl rfl (Nat.le_of_ble_eq_true rfl) ?_
    refine AW.seq fun _ k1 => AW.region [] Θ_ok ?_
    simp
    refine k1 _ ?_
    refine AW.seq fun _ k1 => ?_
    refine AW.seq fun _ k2 => AW.region [] Θ_ok ?_
    simp
    refine k2 _ ?_
    refine AW.cond false (by simp [Int.natCast_inj]) (fun h => by cases h) (fun _ => ?_)
    refine AW.skip ?_
    simp
    refine k1 _ ?_
    refine AW.seq fun _ kr => AW.region [5] Θ_ok ?_
    simp [upd_same, appendA]
    refine fun b hb => ⟨rfl, ⟨by omega, by omega⟩, fun n' hn' => kr _ (AW.ret ?_)⟩
    obtain ⟨hnb, hn0⟩ := ne_of_none hn' (by simp)
    simp [Try.f126]
    have hfl := flat_ints l
    refine Fin.freeze (k := false) (upd_same _ _ _) (fun e => by cases e) rfl (by rw [hfl]; simp) (fun u hu => ?_) h (fun o x hx => ?_) ⟨by rw [hfl], rfl⟩
    · simp only at hu
      rw [hfl] at hu
      obtain ⟨_, _, rfl⟩ := List.mem_map.1 hu
      rfl
    · have h1 : o ≠ b := by rintro rfl; rw [hb] at hx; cases hx
      have h2 : o ≠ n' := by rintro rfl; rw [hn0] at hx; cases hx
      simp [upd_at, h1, h2, hx]
end Go.Par

set_option linter.unusedSimpArgs false
set_option maxRecDepth 8000
namespace Go.Par
open Go.Proofs

/-- What a game's value is that a function made. -/
def waysA (g : G) (p : Nat → Int → Bool) : AV := if mayE g = 0 then .agg [.ro false (ints g.owner), .ro true (rows (waysL g p))] else .agg [.nils, .nils]
theorem waysA_weak (g : G) (p : Nat → Int → Bool) : weak (waysA g p) = (waysG g p).av := by
  unfold waysA waysG
  split <;> simp [G.av]

structure WX where
  f : Nat → Nat
  nn : Nat → Bool
  x : Nat
  y : Nat

def wayR (g : G) (p : Nat → Int → Bool) (nn : Nat → Bool) (x y : Nat) : Nat → Ob := fun v => ⟨ints (waysS g p x y v), 3, 1, nn v⟩
def wayC (g : G) (p : Nat → Int → Bool) (f : Nat → Nat) (x y : Nat) : Ob := ⟨tab g.next.length fun v => .mu (f v) (waysS g p x y v).length, 22, 1, true⟩
theorem wayR_next (g : G) (p : Nat → Int → Bool) (nn : Nat → Bool) {x : Nat} (hx : x < g.next.length) : wayR g p nn x g.next[x].length = wayR g p nn (x + 1) 0 := by
  funext w; simp only [wayR, waysS_next g p hx]
theorem wayC_next (g : G) (p : Nat → Int → Bool) (f : Nat → Nat) {x : Nat} (hx : x < g.next.length) : wayC g p f x g.next[x].length = wayC g p f (x + 1) 0 := by
  simp only [wayC, waysS_next g p hx]

theorem graph_ways (g : G) (hf : g.fits) (F : FuncId) (cap : List AV) (p : Nat → Int → Bool) (hp : mayE g = 0 → ∀ (v : Nat) (h : v < g.next.length) (w : Int), v < g.owner.length → w ∈ g.next[v] → Pure Try.prog F ([.int .i64 v, .int .i64 w] ++ cap) (.bool (p v w))) :
    Pure Try.prog 124 [g.av, .clo F cap] (waysA g p) := by
  have hb := hf.owner
  intro h
  refine AC.body Θ_ok Try.func124 rfl rfl (Nat.le_of_ble_eq_true rfl) ?_
  refine AW.seq fun _ k1 => AW.region [4] Θ_ok ?_
  simp [newA]
  refine fun r hr => k1 _ ?_
  refine AW.seq fun _ k1 => ?_
  by_cases hm : mayE g = 0
  · have hn := (may_ok hm).2.1
    have h3 := (may_ok hm).1
    refine AW.seq fun _ k2 => AW.region [] Θ_ok ?_
    simp
    refine (graph_May g hf).use (by simp [G.av]) ?_
    try simp [hm]
    refine k2 _ ?_
    refine AW.cond false (by simp [Int.natCast_inj]) (fun h => by cases h) (fun _ => ?_)
    refine AW.skip ?_
    simp
    refine k1 _ ?_
    refine AW.seq fun _ k1 => AW.draw [20, 5] 9 [] Θ_ok mixed (by kernel_rfl) (by kernel_rfl) ?_
    simp [vcDraw, vcPre, vcTail, callA, isAlloc, isLoad, effOp, obl, obA, mkOK, valA]
    refine ⟨_, (slices_Clone g.owner hb).wk (by simp), ?_⟩
    simp
    refine ⟨⟨by omega, by omega⟩, fun o ho q hq => k1 _ ?_⟩
    obtain ⟨hor, ho0⟩ := ne_of_none ho (by simp)
    obtain ⟨hqo, hq1⟩ := ne_of_none hq (by simp)
    obtain ⟨hqr, hq0⟩ := ne_of_none hq1 (by simp)
    rw [replicate_tab, flat_tab (fun _ _ => rfl), upd_comm _ _ _ (Ne.symm hqo)]
    obtain ⟨H0, hH0⟩ : ∃ H0, H0 = upd (upd h r (some ⟨[.nils, .nils], 25, 2, true⟩)) q (some ⟨[.ro false (ints g.owner), .mu o g.next.length], 25, 2, true⟩) := ⟨_, rfl⟩
    have hoH : H0 o = none := by rw [hH0, upd_ne _ _ (Ne.symm hqo)]; exact ho
    have hqH : H0 q = some ⟨[.ro false (ints g.owner), .mu o g.next.length], 25, 2, true⟩ := by rw [hH0, upd_same]
    rw [← hH0]
    refine AW.family 3 1 hoH fun f N => ?_
    refine AW.seq fun _ k1 => ?_
    refine AW.seq fun _ k2 => AW.region [] Θ_ok ?_
    simp
    refine k2 _ ?_
    refine AW.block ?_
    have hst : FH H0 o ⟨tab g.next.length fun i => .mu (f i) 0, 22, 1, true⟩ f g.next.length (fun _ => ⟨[], 3, 1, false⟩) = FH H0 o (wayC g p f 0 0) f g.next.length (wayR g p (fun _ => false) 0 0) := by
      have e : wayR g p (fun _ => false) 0 0 = fun _ => ⟨[], 3, 1, false⟩ := by funext w; simp [wayR, waysS_zero]
      rw [e]; simp [wayC, waysS_zero]
    rw [hst]
    refine AW.loopI (X := WX) (fun s => FN H0 o s.f g.next.length ∧ s.x ≤ g.next.length)
      (fun s => ⟨55, [(25, .int .i64 s.x), (24, .int .i64 g.next.length), (23, .ro false (rows g.next)), (4, .ptr r 0), (5, .ptr q 0), (1, .clo F cap)], FH H0 o (wayC g p s.f s.x 0) s.f g.next.length (wayR g p s.nn s.x 0)⟩)
      (fun s => g.next.length - s.x) ⟨f, fun _ => false, 0, 0⟩ ⟨N, Nat.zero_le _⟩ (GStep.eq (by simp) (subH.refl _)) ?_
    clear N hst f
    rintro ⟨f, nn, x, _⟩ ⟨N, hx⟩
    simp only at N hx ⊢
    refine AW.seq fun _ k2 => AW.region [] Θ_ok ?_
    simp
    refine k2 _ ?_
    by_cases hlt : x < g.next.length
    · have hlr := hf.row _ (List.getElem_mem hlt)
      have inc := wrap_succ (show x < 9223372036854775807 by omega)
      refine AW.seq fun _ k2 => AW.cond true (by simp [Int.natCast_inj, hlt]) (fun _ => ?_) (fun h => by cases h)
      refine AW.skip ?_
      simp
      refine k2 _ ?_
      refine AW.seq fun _ k2 => ?_
      refine AW.block ?_
      refine AW.seq fun _ k3 => AW.region [] Θ_ok ?_
      simp [hlt]
      refine k3 _ ?_
      refine AW.seq fun _ k3 => AW.region [] Θ_ok ?_
      simp
      refine k3 _ ?_
      refine AW.block ?_
      refine AW.loopI (X := WX) (fun s => FN H0 o s.f g.next.length ∧ s.y ≤ g.next[x].length)
        (fun s => ⟨55, [(32, .int .i64 s.y), (31, .int .i64 g.next[x].length), (30, .ro false (ints g.next[x])), (6, .int .i64 x), (25, .int .i64 x), (24, .int .i64 g.next.length), (23, .ro false (rows g.next)), (4, .ptr r 0), (5, .ptr q 0), (1, .clo F cap)], FH H0 o (wayC g p s.f x s.y) s.f g.next.length (wayR g p s.nn x s.y)⟩)
        (fun s => g.next[x].length - s.y) ⟨f, nn, x, 0⟩ ⟨N, Nat.zero_le _⟩ (GStep.eq (by simp) (subH.refl _)) ?_
      clear N f nn
      rintro ⟨f, nn, _, y⟩ ⟨N, hy⟩
      simp only at N hy ⊢
      refine AW.seq fun _ k3 => AW.region [] Θ_ok ?_
      simp
      refine k3 _ ?_
      by_cases hly : y < g.next[x].length
      · have incy := wrap_succ (show y < 9223372036854775807 by omega)
        have hstep := waysS_step g p hlt hly
        have sp := hp hm x hlt _ (by omega) (List.getElem_mem hly)
        refine AW.seq fun _ k3 => AW.cond true (by simp [Int.natCast_inj, hly]) (fun _ => ?_) (fun h => by cases h)
        refine AW.skip ?_
        simp
        refine k3 _ ?_
        refine AW.seq fun _ k3 => ?_
        refine AW.block ?_
        refine AW.seq fun _ k4 => AW.region [] Θ_ok ?_
        simp [hly]
        refine k4 _ ?_
        refine AW.seq fun _ k4 => AW.region [] Θ_ok ?_
        simp
        refine sp.use (by simp) ?_
        refine k4 _ ?_
        cases hpw : p x g.next[x][y]
        · have eC : wayC g p f x y = wayC g p f x (y + 1) := by
            simp only [wayC]; congr 1
            exact tab_congr fun i _ => by rw [hstep, hpw]; simp
          have eR : wayR g p nn x y = wayR g p nn x (y + 1) := by
            funext i; simp only [wayR]; rw [hstep, hpw]; simp
          refine AW.cond false (by simp [Int.natCast_inj, hpw]) (fun h => by cases h) (fun _ => ?_)
          refine AW.skip ?_
          simp
          refine k3 _ ?_
          rw [eC, eR]
          refine AW.region [] Θ_ok ?_
          simp
          exact ⟨⟨f, nn, 0, y + 1⟩, ⟨N, hly⟩, by simp only; omega, GStep.eq (by simp [incy]) (subH.refl _)⟩
        · have hO : FH H0 o (wayC g p f x y) f g.next.length (wayR g p nn x y) o = some (wayC g p f x y) := FN.at_out
          have hW := N.at_row (C := wayC g p f x y) (R := wayR g p nn x y) hlt
          have hqf : ∀ i, i < g.next.length → f i ≠ q := by
            intro i hi e
            have := N.free i hi
            rw [e, hqH] at this; cases this
          have hQ : FH H0 o (wayC g p f x y) f g.next.length (wayR g p nn x y) q = some ⟨[.ro false (ints g.owner), .mu o g.next.length], 25, 2, true⟩ := by rw [FN.at_else hqo hqf]; exact hqH
          have hbl := waysS_len hm p (y := y) hlt
          have hC : (wayC g p f x y).cells[x]? = some (.mu (f x) (waysS g p x y x).length) := by simp [wayC, getElem?_tab, hlt]
          have hCl : (wayC g p f x y).cells.length = g.next.length := by simp [wayC]
          have hL : (wayC g p f x y).cells.drop x = .mu (f x) (waysS g p x y x).length :: (wayC g p f x y).cells.drop (x + 1) := by
            have hh : x < (wayC g p f x y).cells.length := by rw [hCl]; exact hlt
            rw [List.drop_eq_getElem_cons hh]
            rw [List.getElem?_eq_getElem hh] at hC
            rw [Option.some.inj hC]
          refine AW.cond true (by simp [Int.natCast_inj, hpw]) (fun _ => ?_) (fun h => by cases h)
          refine AW.draw [] 10 [1, 4] Θ_ok mixed (by kernel_rfl) (by kernel_rfl) ?_
          simp [vcDraw, vcPre, vcTail, callA, isAlloc, isLoad, effOp, obl, obA, mkOK, valA, hO, hL, hlt, hW, hQ, appendA, wayR]
          refine ⟨rfl, by omega, fun n' hn' => ?_⟩
          have hft : List.take (waysS g p x y x).length (ints (waysS g p x y x)) = ints (waysS g p x y x) := List.take_of_length_le (by simp)
          rw [hft]
          have stepC : (⟨(wayC g p f x y).cells.set x (.mu n' ((waysS g p x y x).length + 1)), (wayC g p f x y).ty, (wayC g p f x y).sz, (wayC g p f x y).nn⟩ : Ob) = wayC g p (fun i => if i = x then n' else f i) x (y + 1) := by
            simp only [wayC, set_tab]
            congr 1
            refine tab_congr fun i _ => ?_
            rw [hstep, hpw]
            by_cases e : i = x
            · subst e; simp
            · simp [e]
          have stepR : (fun i => if i = x then (⟨ints (waysS g p x y x) ++ [.int .i64 g.next[x][y]], 3, 1, true⟩ : Ob) else wayR g p nn x y i) = wayR g p (fun i => if i = x then true else nn i) x (y + 1) := by
            funext i
            simp only [wayR]
            rw [hstep, hpw]
            by_cases e : i = x
            · subst e; simp
            · simp [e]
          obtain ⟨N', he⟩ := N.grow (C' := wayC g p (fun i => if i = x then n' else f i) x (y + 1)) hlt ⟨ints (waysS g p x y x) ++ [.int .i64 g.next[x][y]], 3, 1, true⟩ hn'
          obtain ⟨q1, q2, q3⟩ := N.fresh hn'
          have hqn : q ≠ n' := by rintro rfl; rw [hqH] at q3; cases q3
          have hno : upd (upd (FH H0 o (wayC g p f x y) f g.next.length (wayR g p nn x y)) (f x) none) n' (some ⟨ints (waysS g p x y x) ++ [.int .i64 g.next[x][y]], 3, 1, true⟩) o = some (wayC g p f x y) := by
            rw [upd_ne _ _ (Ne.symm q1), upd_ne _ _ (Ne.symm (N.ne x hlt))]; exact hO
          have hnq : upd (upd (FH H0 o (wayC g p f x y) f g.next.length (wayR g p nn x y)) (f x) none) n' (some ⟨ints (waysS g p x y x) ++ [.int .i64 g.next[x][y]], 3, 1, true⟩) q = some ⟨[.ro false (ints g.owner), .mu o g.next.length], 25, 2, true⟩ := by
            rw [upd_ne _ _ hqn, upd_ne _ _ (Ne.symm (hqf x hlt))]; exact hQ
          rw [hno, hnq]
          simp only
          rw [upd_ne _ _ hqo, hnq]
          refine ⟨rfl, ⟨trivial, by rw [hCl]; exact hlt⟩, rfl, k3 _ ?_⟩
          rw [stepC, he, stepR]
          refine AW.region [] Θ_ok ?_
          simp
          exact ⟨⟨_, _, 0, y + 1⟩, ⟨N', hly⟩, by simp only; omega, GStep.eq (by simp [incy]) (subH.refl _)⟩
      · obtain rfl : y = g.next[x].length := by omega
        refine AW.seq fun _ k3 => AW.cond false (by simp [Int.natCast_inj]) (fun h => by cases h) (fun _ => ?_)
        refine AW.exit ?_
        simp
        refine k2 _ ?_
        rw [wayC_next g p f hlt, wayR_next g p nn hlt]
        refine AW.region [] Θ_ok ?_
        simp
        exact ⟨⟨f, nn, x + 1, 0⟩, ⟨N, hlt⟩, by simp only; omega, GStep.eq (by simp [inc]) (subH.refl _)⟩
    · obtain rfl : x = g.next.length := by omega
      refine AW.seq fun _ k2 => AW.cond false (by simp [Int.natCast_inj]) (fun h => by cases h) (fun _ => ?_)
      refine AW.exit ?_
      simp
      refine k1 _ ?_
      have hA : wayC g p f g.next.length 0 = ⟨tab g.next.length fun i => if i < g.next.length then .mu (f i) (waysS g p g.next.length 0 i).length else .ro false (ints (waysRow g p i)), 22, 1, true⟩ := by
        simp only [wayC]
        congr 1
        exact tab_congr fun i hi => by simp [hi]
      rw [hA]
      refine AW.ghost (GStep.rows N (R := wayR g p nn g.next.length 0) (fun _ _ => rfl) (fun i _ => by simp [wayR]) (fun i _ u hu => ?_) (fun i hi => ?_) g.next.length (Nat.le_refl _)) ?_
      · simp only [wayR, List.mem_map] at hu; obtain ⟨_, _, rfl⟩ := hu; rfl
      · simp only [wayR, waysS, if_pos hi]
      have ones : ∀ u ∈ (tab g.next.length fun i => AV.ro false (ints (waysRow g p i))), u.flat = [u] := by
        intro u hu; obtain ⟨i, _, rfl⟩ := mem_tab.1 hu; rfl
      refine AW.ghost (GStep.cell (p := q) (j := 1) (x := ⟨[.ro false (ints g.owner), .mu o g.next.length], 25, 2, true⟩) (v := .mu o g.next.length) (by dsimp only; rw [upd_ne _ _ hqo]; exact hqH) rfl
        (GV.freeze (k := true) (xs := tab g.next.length fun i => AV.ro false (ints (waysRow g p i))) (upd_same _ _ _) (fun _ => rfl) (by simp) (fun y hy => by rw [ones y hy]; rfl) (by rw [flat_ones ones]; simp [List.take_of_length_le])) (by rw [upd_upd, upd_ne _ _ hqo]; exact hqH) (by simp)) ?_
      simp only [upd_upd, upd_none_id hoH]
      have hrH : H0 r = some ⟨[.nils, .nils], 25, 2, true⟩ := by rw [hH0, upd_ne _ _ (Ne.symm hqr), upd_same]
      refine AW.seq fun _ kr => AW.region [] Θ_ok ?_
      simp [upd_at, hrH, Ne.symm hqr]
      refine kr _ (AW.ret ?_)
      simp [Try.f124, upd_at]
      refine ⟨_, h, GV.sub (fun z X hz => ?_), by simp [waysA, hm, waysL], rfl⟩
      have z1 : z ≠ q := by rintro rfl; rw [hq0] at hz; cases hz
      have z2 : z ≠ r := by rintro rfl; rw [hr] at hz; cases hz
      rw [upd_ne _ _ z2, upd_ne _ _ z1, hH0, upd_ne _ _ z1, upd_ne _ _ z2]
      exact hz
  · refine AW.seq fun _ k2 => AW.region [] Θ_ok ?_
    simp
    refine (graph_May g hf).use (by simp [G.av]) ?_
    try simp [hm]
    refine k2 _ ?_
    refine AW.cond true (by simp [Int.natCast_inj, hm]) (fun _ => ?_) (fun h => by cases h)
    refine AW.seq fun _ kr => AW.region [] Θ_ok ?_
    simp [upd_same]
    refine kr _ (AW.ret ?_)
    simp [Try.f124, upd_same]
    exact ⟨_, h, GV.sub (subH_upd hr), by simp [waysA, hm], rfl⟩
end Go.Par

set_option linter.unusedSimpArgs false
set_option maxRecDepth 8000
namespace Go.Par
open Go.Proofs

theorem waysA_shape (g : G) (p : Nat → Int → Bool) : ∃ a b, waysA g p = .agg [a, b] ∧ a.one = true ∧ b.one = true := by
  unfold waysA
  split
  · exact ⟨_, _, rfl, rfl, rfl⟩
  · exact ⟨_, _, rfl, rfl, rfl⟩

theorem graph_Only1 (in_ : List Bool) (v : Int) (h0 : 0 ≤ v) : Pure Try.prog 123 [.int .i64 v, .rop [.ro false (bools in_)]] (.bool (hasI in_ v)) := by
  intro h
  refine AC.body Θ_ok Try.func123 rfl rfl (Nat.le_of_ble_eq_true rfl) ?_
  refine AW.seq fun _ k1 => AW.region [] Θ_ok ?_
  simp
  refine k1 _ ?_
  by_cases hv : v < in_.length
  · have hn : v.toNat < in_.length := by omega
    refine AW.seq fun _ kr => AW.region [] Θ_ok ?_
    simp [hv, h0, hn]
    refine kr _ (AW.ret ?_)
    simp [Try.f123]
    exact Fin.refl ⟨by simp [hasI, hn], rfl⟩
  · have hn : in_.length ≤ v.toNat := by omega
    refine AW.seq fun _ kr => AW.region [] Θ_ok ?_
    simp [hv]
    refine kr _ (AW.ret ?_)
    simp [Try.f123]
    exact Fin.refl ⟨by simp [hasI, hn], rfl⟩

def onlyP (in_ : List Bool) (v : Nat) (w : Int) : Bool := hasN in_ v && hasI in_ w

theorem graph_Only2 (in_ : List Bool) (v : Nat) (w : Int) (h0 : 0 ≤ w) : Pure Try.prog 125 [.int .i64 v, .int .i64 w, .rop [.clo 123 [.rop [.ro false (bools in_)]]]] (.bool (onlyP in_ v w)) := by
  intro h
  refine AC.body Θ_ok Try.func125 rfl rfl (Nat.le_of_ble_eq_true rfl) ?_
  refine AW.seq fun _ k1 => AW.region [] Θ_ok ?_
  simp
  refine k1 _ ?_
  have s1 := graph_Only1 in_ v (by omega)
  rw [hasI_nat] at s1
  refine AW.seq fun _ kr => AW.regionAt 3 [] Θ_ok fun B hB => ?_
  simp
  refine s1.use (by simp) ?_
  cases e : hasN in_ v
  · refine hB _ ?_
    clear hB B
    simp
    refine kr _ (AW.ret ?_)
    simp [Try.f125]
    exact Fin.refl ⟨by simp [onlyP, e], rfl⟩
  · refine hB _ ?_
    clear hB B
    refine vcOps_split 4 fun B hB => ?_
    simp
    refine (graph_Only1 in_ w h0).use (by simp) ?_
    refine hB _ ?_
    clear hB B
    simp
    refine kr _ (AW.ret ?_)
    simp [Try.f125]
    exact Fin.refl ⟨by simp [onlyP, e], rfl⟩

theorem graph_Only (g : G) (hf : g.fits) (in_ : List Bool) : Pure Try.prog 121 [g.av, .ro false (bools in_)] (waysA g (onlyP in_)) := by
  intro h
  refine AC.body Θ_ok Try.func121 rfl rfl (Nat.le_of_ble_eq_true rfl) ?_
  refine AW.seq fun _ k1 => AW.region [4] Θ_ok ?_
  simp [newA]
  refine fun r hr => k1 _ ?_
  refine AW.seq fun _ k1 => AW.region [5] Θ_ok ?_
  simp [newA]
  refine fun c hc => k1 _ ?_
  obtain ⟨hcr, hc0⟩ := ne_of_none hc (by simp)
  refine AW.box 5 rfl (upd_same _ _ _) ?_
  simp only [upd_upd_none hc]
  have spec := graph_ways g hf 125 [.rop [.clo 123 [.rop [.ro false (bools in_)]]]] (onlyP in_) (fun hm v h w hv hw => graph_Only2 in_ v w ((may_row hm hv h).2 w hw).1)
  obtain ⟨a, b, eA, h1, h2⟩ := waysA_shape g (onlyP in_)
  rw [eA] at spec ⊢
  refine AW.seq fun _ kr => AW.regionAt 3 [] Θ_ok fun B hB => ?_
  simp
  refine spec.use (by simp [G.av]) ?_
  refine hB _ ?_
  clear hB B
  simp [upd_same, h1, h2]
  refine kr _ (AW.ret ?_)
  simp [Try.f121, upd_same]
  exact ⟨_, h, GV.sub (subH_upd hr), rfl, rfl⟩

def followP (g : G) (who : Int) (to_ : List Int) (v : Nat) (w : Int) : Bool := !decide (g.owner.getD v 0 = who) || (decide (v < to_.length) && decide (to_.getD v 0 = w))

end Go.Par

namespace Go.Par

theorem waysG_eq {g : G} (hm : mayE g = 0) (p : Nat → Int → Bool) : waysG g p = ⟨g.owner, waysL g p⟩ := if_pos hm

theorem waysG_row {g : G} (hm : mayE g = 0) (p : Nat → Int → Bool) {v : Nat} (hv : v < g.next.length) : (waysG g p).next.getD v [] = g.next[v].filter (p v) := by
  rw [waysG_eq hm, waysL, getD_tab, if_pos hv, waysRow, List.getD_eq_getElem?_getD, List.getElem?_eq_getElem hv, Option.getD_some]

theorem ways_reaches {g : G} (hm : mayE g = 0) (from_ : List Bool) (p : Nat → Int → Bool) {v : Nat} (h : Reaches (waysG g p) from_ v) : Reaches g from_ v := by
  have e1 : (waysG g p).owner = g.owner := by rw [waysG_eq hm]
  induction h with
  | start v hv hf => exact .start v (by rw [e1] at hv; exact hv) hf
  | step v w _ hw ih =>
    have hv := ih.lt hm
    have hv' : v < g.next.length := by have := (may_ok hm).2.1; omega
    rw [waysG_row hm p hv'] at hw
    exact .step v w ih (by rw [List.getD_eq_getElem?_getD, List.getElem?_eq_getElem hv', Option.getD_some]; exact (List.mem_filter.1 hw).1)

open Classical in
/-- Cut to what is reached the reach is the same. -/
theorem reach_cut {g : G} (hm : mayE g = 0) (from_ : List Bool) : reachL (waysG g (onlyP (reachL g from_))) from_ = reachL g from_ := by
  have e1 : (waysG g (onlyP (reachL g from_))).owner = g.owner := by rw [waysG_eq hm]
  generalize hG : waysG g (onlyP (reachL g from_)) = G' at e1
  have key : ∀ v, Reaches G' from_ v ↔ Reaches g from_ v := by
    subst hG
    intro v
    constructor
    · exact ways_reaches hm _ _
    · intro h
      induction h with
      | start v hv hf => exact .start v (by rw [e1]; exact hv) hf
      | step v w hr hw ih =>
        have hv := hr.lt hm
        have hv' : v < g.next.length := by have := (may_ok hm).2.1; omega
        have hw' := (Reaches.step v w hr hw)
        refine .step v w ih ?_
        rw [waysG_row hm _ hv', List.mem_filter]
        rw [List.getD_eq_getElem?_getD, List.getElem?_eq_getElem hv', Option.getD_some] at hw
        refine ⟨hw, ?_⟩
        rw [onlyP, hasI_nat, reachL_has.2 ⟨hv, hr⟩, reachL_has.2 ⟨hw'.lt hm, hw'⟩]
        rfl
  unfold reachL
  rw [e1]
  exact tab_congr fun v _ => by simp only [key]

theorem ways_twice {g : G} (hm : mayE g = 0) (p : Nat → Int → Bool) : waysG (waysG g p) p = waysG g p := by
  have hm' := waysG_may hm p
  have : waysL (waysG g p) p = (waysG g p).next := by
    rw [waysL]
    refine (tab_ext rfl fun i hi => ?_).symm
    have hi' : i < g.next.length := by rw [waysG_eq hm] at hi; simpa [waysL_len] using hi
    rw [waysRow, waysG_row hm p hi', List.filter_filter]
    have := List.getElem?_eq_getElem hi
    rw [this]
    congr 1
    have e := waysG_row hm p hi'
    rw [List.getD_eq_getElem?_getD, this, Option.getD_some] at e
    rw [e]
    congr 1
    funext w
    cases p i w <;> rfl
  rw [waysG_eq hm', this]
end Go.Par

set_option linter.unusedSimpArgs false
namespace Go.Par

def leS (n : Nat) (a b : List Bool) : Prop := ∀ v, v < n → hasN a v = true → hasN b v = true
theorem leS.refl {n : Nat} (a : List Bool) : leS n a a := fun _ _ h => h
theorem leS.trans {n : Nat} {a b c : List Bool} (h : leS n a b) (k : leS n b c) : leS n a c := fun v hv q => k v hv (h v hv q)
def cntS (a : List Bool) : Nat := a.count true

theorem cntS_le (a : List Bool) : cntS a ≤ a.length := List.count_le_length
theorem cnt_mono : ∀ {n : Nat} {a b : List Bool}, a.length = n → b.length = n → leS n a b → cntS a ≤ cntS b ∧ (a ≠ b → cntS a < cntS b)
  | 0, a, b, ha, hb, _ => by
    have h1 := List.eq_nil_of_length_eq_zero ha
    have h2 := List.eq_nil_of_length_eq_zero hb
    subst h1; subst h2
    exact ⟨Nat.le_refl _, fun h => absurd rfl h⟩
  | n + 1, [], _, ha, _, _ => by simp at ha
  | n + 1, _ :: _, [], _, hb, _ => by simp at hb
  | n + 1, x :: a, y :: b, ha, hb, h => by
    obtain ⟨h1, h2⟩ := cnt_mono (n := n) (a := a) (b := b) (by simpa using ha) (by simpa using hb) (fun v hv q => h (v + 1) (by omega) q)
    have h0 : x = true → y = true := fun e => h 0 (by omega) e
    simp only [cntS, List.count_cons] at h1 h2 ⊢
    cases x <;> cases y <;> simp at h0 ⊢
    · exact ⟨h1, fun e => h2 e⟩
    · omega
    · exact ⟨h1, fun e => h2 e⟩

theorem leS.antisymm {n : Nat} {a b : List Bool} (ha : a.length = n) (hb : b.length = n) (h : leS n a b) (k : leS n b a) : a = b := by
  by_cases e : a = b
  · exact e
  · have h1 := (cnt_mono ha hb h).2 e
    have h2 := (cnt_mono hb ha k).1
    omega

/-- Again and again, until nothing changes. -/
def fixG (F : List Bool → List Bool) : Nat → List Bool → List Bool
  | 0, x => x
  | f + 1, x => if F x = x then x else fixG F f (F x)

theorem fixG_at {F : List Bool → List Bool} {f : Nat} {x : List Bool} (h : F x = x) : fixG F f x = x := by
  cases f with
  | zero => rfl
  | succ f => simp [fixG, h]
theorem fixG_step {F : List Bool → List Bool} {f : Nat} {x : List Bool} (h : ¬ F x = x) : fixG F (f + 1) x = fixG F f (F x) := by simp [fixG, h]

structure Mon (n : Nat) (F : List Bool → List Bool) : Prop where
  len : ∀ x, (F x).length = n
  mono : ∀ x y, leS n x y → leS n (F x) (F y)

theorem fix_down {n : Nat} {F : List Bool → List Bool} (M : Mon n F) : ∀ (f : Nat) (x : List Bool), x.length = n → leS n (F x) x → cntS x < f →
    F (fixG F f x) = fixG F f x ∧ leS n (fixG F f x) x ∧ (fixG F f x).length = n ∧ ∀ y, leS n y (F y) → leS n y x → leS n y (fixG F f x)
  | 0, x, _, _, hc => by omega
  | f + 1, x, hl, hd, hc => by
    by_cases e : F x = x
    · rw [fixG_at e]
      exact ⟨e, leS.refl _, hl, fun y _ h => h⟩
    · rw [fixG_step e]
      have hc' := (cnt_mono (M.len x) hl hd).2 e
      obtain ⟨h1, h2, h3, h4⟩ := fix_down M f (F x) (M.len x) (M.mono _ _ hd) (by omega)
      exact ⟨h1, h2.trans hd, h3, fun y hy h => h4 y hy (hy.trans (M.mono _ _ h))⟩

theorem fix_up {n : Nat} {F : List Bool → List Bool} (M : Mon n F) : ∀ (f : Nat) (x : List Bool), x.length = n → leS n x (F x) → n < f + cntS x →
    F (fixG F f x) = fixG F f x ∧ leS n x (fixG F f x) ∧ (fixG F f x).length = n ∧ ∀ y, leS n (F y) y → leS n x y → leS n (fixG F f x) y
  | 0, x, hl, _, hc => by have := cntS_le x; omega
  | f + 1, x, hl, hd, hc => by
    by_cases e : F x = x
    · rw [fixG_at e]
      exact ⟨e, leS.refl _, hl, fun y _ h => h⟩
    · rw [fixG_step e]
      have hc' := (cnt_mono hl (M.len x) hd).2 (fun h => e h.symm)
      obtain ⟨h1, h2, h3, h4⟩ := fix_up M f (F x) (M.len x) (M.mono _ _ hd) (by omega)
      exact ⟨h1, hd.trans h2, h3, fun y hy h => h4 y hy ((M.mono _ _ h).trans hy)⟩

/-! ### Sets of a game -/
theorem has_not {g : G} {a : List Bool} {v : Nat} (h : v < g.owner.length) : hasN (notL g a) v = !hasN a v := by simp [notL, hasN, getElem?_tab, h]
theorem has_and {g : G} {a b : List Bool} {v : Nat} (h : v < g.owner.length) : hasN (andL g a b) v = (hasN a v && hasN b v) := by simp [andL, hasN, getElem?_tab, h]
theorem has_or {g : G} {a b : List Bool} {v : Nat} (h : v < g.owner.length) : hasN (orL g a b) v = (hasN a v || hasN b v) := by simp [orL, hasN, getElem?_tab, h]
theorem has_force {g : G} {who : Int} {a : List Bool} {v : Nat} (h : v < g.owner.length) : hasN (forceL g who a) v = forceP g who a v := by
  have : ∀ n (f : Nat → Bool), v < n → hasN (tab n f) v = f v := fun n f h => by simp [hasN, h]
  exact this _ _ h
theorem len_not (g : G) (a : List Bool) : (notL g a).length = g.owner.length := length_tab _ _
theorem len_and (g : G) (a b : List Bool) : (andL g a b).length = g.owner.length := length_tab _ _
theorem len_or (g : G) (a b : List Bool) : (orL g a b).length = g.owner.length := length_tab _ _
theorem len_force (g : G) (who : Int) (a : List Bool) : (forceL g who a).length = g.owner.length := length_tab _ _

theorem hasI_of {n : Nat} {a b : List Bool} (h : leS n a b) {w : Int} (h0 : 0 ≤ w) (hw : w < n) (q : hasI a w = true) : hasI b w = true := h w.toNat (by omega) q

theorem force_mono {g : G} (hm : mayE g = 0) {who : Int} {a b : List Bool} (h : leS g.owner.length a b) : leS g.owner.length (forceL g who a) (forceL g who b) := by
  intro v hv q
  rw [has_force hv] at q ⊢
  have hn := (may_ok hm).2.1
  have hv' : v < g.next.length := by omega
  obtain ⟨_, hr⟩ := may_row hm hv hv'
  simp only [forceP, List.getD_eq_getElem?_getD, List.getElem?_eq_getElem hv', Option.getD_some] at q ⊢
  split at q
  · rename_i ho
    rw [if_pos ho]
    obtain ⟨w, hw, hq⟩ := List.any_eq_true.1 q
    obtain ⟨q0, q1⟩ := hr w hw
    exact List.any_eq_true.2 ⟨w, hw, hasI_of h q0 q1 hq⟩
  · rename_i ho
    rw [if_neg ho]
    refine List.all_eq_true.2 fun w hw => ?_
    obtain ⟨q0, q1⟩ := hr w hw
    exact hasI_of h q0 q1 (List.all_eq_true.1 q w hw)

theorem or_mono {g : G} {a b c d : List Bool} (h : leS g.owner.length a c) (k : leS g.owner.length b d) : leS g.owner.length (orL g a b) (orL g c d) := by
  intro v hv q
  rw [has_or hv, Bool.or_eq_true] at q ⊢
  exact q.imp (h v hv) (k v hv)
theorem and_mono {g : G} {a b c d : List Bool} (h : leS g.owner.length a c) (k : leS g.owner.length b d) : leS g.owner.length (andL g a b) (andL g c d) := by
  intro v hv q
  rw [has_and hv, Bool.and_eq_true] at q ⊢
  exact ⟨h v hv q.1, k v hv q.2⟩

def topL (g : G) : List Bool := notL g []
def botL (g : G) : List Bool := andL g [] []
theorem le_top {g : G} (a : List Bool) : leS g.owner.length a (topL g) := by
  intro v hv _; rw [topL, has_not hv]; simp [hasN]
theorem bot_le {g : G} (a : List Bool) : leS g.owner.length (botL g) a := by
  intro v hv q; rw [botL, has_and hv] at q; simp [hasN] at q

/-- Of what is sure, or goes on outside a row of assume. -/
def stepL (g : G) (sure a x : List Bool) : List Bool := orL g sure (andL g (notL g a) (forceL g 1 x))
theorem step_mon {g : G} (hm : mayE g = 0) (sure a : List Bool) : Mon g.owner.length (stepL g sure a) :=
  ⟨fun _ => len_or _ _ _, fun _ _ h => or_mono (leS.refl _) (and_mono (leS.refl _) (force_mono hm h))⟩
def great (g : G) (F : List Bool → List Bool) : List Bool := fixG F (g.owner.length + 1) (topL g)
theorem great_spec {g : G} {F : List Bool → List Bool} (M : Mon g.owner.length F) : F (great g F) = great g F ∧ (great g F).length = g.owner.length ∧ ∀ y, leS g.owner.length y (F y) → leS g.owner.length y (great g F) := by
  have hc : cntS (topL g) < g.owner.length + 1 := by have := cntS_le (topL g); rw [topL, len_not] at this; rw [topL]; omega
  obtain ⟨h1, _, h3, h4⟩ := fix_down M (g.owner.length + 1) (topL g) (len_not _ _) (le_top _) hc
  exact ⟨h1, h3, fun y hy => h4 y hy (le_top y)⟩
theorem great_mono {g : G} {F F' : List Bool → List Bool} (M : Mon g.owner.length F) (M' : Mon g.owner.length F') (h : ∀ x, leS g.owner.length (F x) (F' x)) : leS g.owner.length (great g F) (great g F') := by
  refine (great_spec M').2.2 _ ?_
  have e := (great_spec M).1
  intro v hv q
  rw [← e] at q
  exact h _ v hv q

def sureL (g : G) (goal y : List Bool) : List Bool := orL g goal (forceL g 1 y)
/-- What the first rows of assume come to. -/
def levelK (g : G) (A : List (List Bool)) (sure : List Bool) : Nat → List Bool
  | 0 => []
  | k + 1 => orL g (levelK g A sure k) (great g (stepL g sure (A.getD k [])))
def levelL (g : G) (A : List (List Bool)) (goal y : List Bool) : List Bool := levelK g A (sureL g goal y) A.length

theorem levelK_mono {g : G} (hm : mayE g = 0) {A : List (List Bool)} {s t : List Bool} (h : leS g.owner.length s t) : ∀ k, leS g.owner.length (levelK g A s k) (levelK g A t k)
  | 0 => leS.refl _
  | k + 1 => or_mono (levelK_mono hm h k) (great_mono (step_mon hm _ _) (step_mon hm _ _) fun _ => or_mono h (leS.refl _))

theorem level_mon {g : G} (hm : mayE g = 0) {A : List (List Bool)} (hA : 0 < A.length) (goal : List Bool) : Mon g.owner.length (levelL g A goal) := by
  refine ⟨fun y => ?_, fun _ _ h => levelK_mono hm (or_mono (leS.refl _) (force_mono hm h)) _⟩
  obtain ⟨k, hk⟩ : ∃ k, A.length = k + 1 := ⟨A.length - 1, by omega⟩
  rw [levelL, hk]
  exact len_or _ _ _

def goalL (g : G) (row z : List Bool) : List Bool := andL g row (forceL g 1 z)
def leastL (g : G) (A : List (List Bool)) (row z : List Bool) : List Bool := fixG (levelL g A (goalL g row z)) (g.owner.length + 1) (botL g)
theorem least_spec {g : G} (hm : mayE g = 0) {A : List (List Bool)} (hA : 0 < A.length) (row z : List Bool) :
    levelL g A (goalL g row z) (leastL g A row z) = leastL g A row z ∧ (leastL g A row z).length = g.owner.length ∧ ∀ y, leS g.owner.length (levelL g A (goalL g row z) y) y → leS g.owner.length (leastL g A row z) y := by
  have M := level_mon hm hA (goalL g row z)
  obtain ⟨h1, _, h3, h4⟩ := fix_up M (g.owner.length + 1) (botL g) (len_and _ _ _) (bot_le _) (by omega)
  exact ⟨h1, h3, fun y hy => h4 y hy (bot_le y)⟩

/-- What is kept: it is of that form. -/
def Kept (g : G) (A : List (List Bool)) (z : List Bool) : Prop := z.length = g.owner.length ∧ ∃ goal, leS g.owner.length (levelL g A goal z) z ∧ True

theorem kept_top {g : G} (A : List (List Bool)) : Kept g A (topL g) := ⟨len_not _ _, [], le_top _, trivial⟩

theorem least_le {g : G} (hm : mayE g = 0) {A : List (List Bool)} (hA : 0 < A.length) {row z : List Bool} (h : Kept g A z) : leS g.owner.length (leastL g A row z) z ∧ Kept g A (leastL g A row z) := by
  obtain ⟨hl, goal, hg, _⟩ := h
  obtain ⟨h1, h2, h3⟩ := least_spec hm hA row z
  refine ⟨h3 z ?_, h2, goalL g row z, by rw [h1]; exact leS.refl _, trivial⟩
  refine leS.trans (levelK_mono hm ?_ _) hg
  intro v hv q
  rw [sureL, has_or hv, Bool.or_eq_true] at q ⊢
  rcases q with q | q
  · rw [goalL, has_and hv, Bool.and_eq_true] at q
    exact .inr q.2
  · exact .inr q

/-- One round. -/
def roundK (g : G) (A E : List (List Bool)) (z : List Bool) : Nat → List Bool
  | 0 => z
  | k + 1 => leastL g A (E.getD k []) (roundK g A E z k)
def roundL (g : G) (A E : List (List Bool)) (z : List Bool) : List Bool := roundK g A E z E.length

theorem round_kept {g : G} (hm : mayE g = 0) {A : List (List Bool)} (hA : 0 < A.length) (E : List (List Bool)) {z : List Bool} (h : Kept g A z) : ∀ k, leS g.owner.length (roundK g A E z k) z ∧ Kept g A (roundK g A E z k)
  | 0 => ⟨leS.refl _, h⟩
  | k + 1 => by
    obtain ⟨h1, h2⟩ := round_kept hm hA E h k
    obtain ⟨h3, h4⟩ := least_le hm hA (row := E.getD k []) h2
    exact ⟨h3.trans h1, h4⟩

/-- How it ends, and after how many rounds. -/
def solveG (g : G) (A E : List (List Bool)) : Nat → List Bool → Nat → List Bool × Nat
  | 0, z, k => (z, k)
  | f + 1, z, k => if z = roundL g A E z then (z, k) else solveG g A E f (roundL g A E z) (k + 1)
def rowsL (g : G) (l : List (List Bool)) : List (List Bool) := if l = [] then [topL g] else l
def solveL (g : G) (A E : List (List Bool)) : List Bool × Nat := solveG g (rowsL g A) (rowsL g E) (g.owner.length + 1) (topL g) 0
theorem rowsL_pos (g : G) (l : List (List Bool)) : 0 < (rowsL g l).length := by
  unfold rowsL
  split
  · simp
  · rename_i h; exact List.length_pos_iff.2 h
end Go.Par
