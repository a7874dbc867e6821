/- An owned slice is lent to a function that only reads it, and hands back what is new, or a plain value. -/
import Derived.Test.YtigipgahgkngcaaMgC
set_option linter.unusedVariables false
namespace Go.Par

def plainV : AV → Bool
  | .int _ _ | .bool _ => true
  | _ => false

theorem VR.plain {φ φ' : Names} {B B' : Nat → Prop} {w w' : World} {u : AV} {v : Value} (h : VR φ B w u v) (hp : plainV u = true) : VR φ' B' w' u v := by
  cases h <;> first | (simp [plainV] at hp; done) | exact .int _ _ | exact .bool _

/-- As it is handed over, and as it is read. -/
inductive Lend (h : Heap) : AV → AV → Prop where
  | same {u u' : AV} (hw : wk u u') : Lend h u u'
  | mu {o n : Nat} {x : Ob} {k : Bool} {xs : List AV} (hx : h o = some x) (hk : k = true → x.nn = true) (hn : xs.length = n) (hs : ∀ y ∈ xs, y.flat.length = x.sz) (hf : xs.flatMap AV.flat = x.cells.take (n * x.sz)) : Lend h (.mu o n) (.ro k xs)

inductive Lends (h : Heap) : List AV → List AV → Prop where
  | nil : Lends h [] []
  | cons {u u' : AV} {us us' : List AV} (a : Lend h u u') (b : Lends h us us') : Lends h (u :: us) (u' :: us')

theorem Lends.length {h : Heap} {us us' : List AV} (l : Lends h us us') : us.length = us'.length := by
  induction l with
  | nil => rfl
  | cons _ _ ih => simp [ih]

theorem Lends.at {h : Heap} {us us' : List AV} (l : Lends h us us') : ∀ (j : Nat) (u' : AV), us'[j]? = some u' → ∃ u, us[j]? = some u ∧ Lend h u u' := by
  induction l with
  | nil => intro j u' e; simp at e
  | cons a _ ih =>
    intro j u' e
    cases j with
    | zero => simp at e; subst e; exact ⟨_, by simp, a⟩
    | succ j => simp at e ⊢; exact ih j u' e

theorem Lends.vr {h : Heap} {us us' : List AV} (l : Lends h us us') {φ : Names} {w : World} {vs : Array Value} (H : HR φ w h) (V : VRs φ (own φ h) w us vs) : VRs φ (own φ fun _ => none) w us' vs := by
  refine ⟨by rw [← l.length]; exact V.1, fun j u' e => ?_⟩
  obtain ⟨u, e1, a⟩ := l.at j u' e
  have hv := V.2 j u e1
  have none : ∀ b, ¬ own φ (fun _ => none) b := fun b ⟨o, c, q, _⟩ => by cases q
  cases a with
  | same hw => exact (hv.wk hw).weaken fun b hb => absurd hb (none b)
  | mu hx hk hn hs hf => exact (freeze_mu H hx hv hk hn hs hf).weaken fun b hb => absurd hb (none b)

theorem HR.nothing {φ : Names} {w : World} {h : Heap} (H : HR φ w h) : HR φ w fun _ => none :=
  ⟨fun o x e => (by cases e), fun o o' b c c' e => (by cases e), H.free⟩

theorem Keeps.from_none {φ φ' : Names} {h h' : Heap} {w w' : World} (H : HR φ w h) (k : Keeps (own φ fun _ => none) w (own φ' h') w') : ∀ b, b < w.heap.size → ¬ own φ' h' b ∧ w'.heap[b]? = w.heap[b]? :=
  fun b hb => k.block b hb fun ⟨o, c, q, _⟩ => by cases q

theorem AC.lendPlain {P : Program} {f : FuncId} {us us' : List AV} {r : AV} {h : Heap} (l : Lends h us us') (H : Pure P f us' r) (hr : plainV r = true) : AC P f us h fun r' h' => r' = r ∧ h' = h := by
  have H0 := H fun _ => none
  refine ⟨H0.1, fun φ w vs hH V => ?_⟩
  refine (H0.2 φ w vs hH.nothing (l.vr hH V)).mono ?_
  rintro e w' ⟨φ', h', r', v, a, b, c, rfl, vr, rfl, rfl⟩
  have old := Keeps.from_none hH b
  have H' : HR φ w' h := hH.same b.size (fun b hb => (old b hb).2) b.os b.tape b.output
  refine ⟨φ, h, r', v, Ext.refl φ, ⟨b.os, b.tape, b.output, b.size, fun q hq hB => ⟨hB, (old q hq).2⟩⟩, H', rfl, vr.plain hr, rfl, rfl⟩

theorem AC.lendNew {P : Program} {f : FuncId} {us us' : List AV} {X : Ob} {n : Nat} {h : Heap} (l : Lends h us us')
    (H : ∀ h0, AC P f us' h0 fun r h' => ∃ o, h0 o = none ∧ r = .mu o n ∧ h' = upd h0 o (some X)) (hX : ∀ u ∈ X.cells, plainV u = true) (hnn : X.nn = true) :
    AC P f us h fun r h' => ∃ o, h o = none ∧ r = .mu o n ∧ h' = upd h o (some X) := by
  have H0 := H fun _ => none
  refine ⟨H0.1, fun φ w vs hH V => ?_⟩
  refine (H0.2 φ w vs hH.nothing (l.vr hH V)).mono ?_
  rintro e w' ⟨φ', h', r', v, ext, b, c, rfl, vr, o, ho0, rfl, rfl⟩
  have old := Keeps.from_none hH b
  obtain ⟨l', hl', hr'⟩ := c.ob o X (upd_same _ _ _)
  cases l' with
  | nil => exact absurd hnn (by rw [hr'.2]; simp)
  | res => exact hr'.elim
  | mp b =>
    exfalso
    cases vr with
    | muN _ q => rw [q] at hl'; cases hl'
    | mu _ _ _ _ q => rw [q] at hl'; cases hl'
  | blk bn cap =>
    have hown : own φ' (upd (fun _ => none) o (some X)) bn := ⟨o, cap, by rw [upd_same]; rfl, .inl hl'⟩
    have hnew : w.heap.size ≤ bn := by
      rcases Nat.lt_or_ge bn w.heap.size with q | q
      · exact absurd hown (old bn q).1
      · exact q
    have ho : h o = none := by
      cases q : h o with
      | none => rfl
      | some x =>
        obtain ⟨l2, hl2, hr2⟩ := hH.ob o x q
        have := ext o l2 hl2
        rw [hl'] at this
        cases this
        obtain ⟨cur, hcur, _⟩ := hr2
        have := (Array.getElem?_eq_some_iff.1 hcur).1
        omega
    have eq : ∀ o', (h o').isSome = true → φ' o' = φ o' := fun o' q => by
      obtain ⟨x, hx⟩ := Option.isSome_iff_exists.1 q
      obtain ⟨l2, hl2, _⟩ := hH.ob o' x hx
      rw [ext o' l2 hl2, hl2]
    have ownE : ∀ q, own φ' (upd h o (some X)) q ↔ own φ h q ∨ q = bn := by
      intro q
      constructor
      · rintro ⟨o', c', h1, h2⟩
        by_cases e : o' = o
        · subst e
          rcases h2 with h2 | h2
          · rw [hl'] at h2; cases h2; exact .inr rfl
          · rw [hl'] at h2; cases h2
        · rw [upd_ne _ _ e] at h1
          exact .inl ⟨o', c', h1, h2.congr (eq o' h1).symm⟩
      · rintro (⟨o', c', h1, h2⟩ | rfl)
        · have e : o' ≠ o := fun e => by rw [e, ho] at h1; cases h1
          exact ⟨o', c', by rw [upd_ne _ _ e]; exact h1, h2.mono ext.w⟩
        · exact ⟨o, cap, by rw [upd_same]; rfl, .inl hl'⟩
    have keeps : Keeps (own φ h) w (own φ' (upd h o (some X))) w' := ⟨b.os, b.tape, b.output, b.size, fun q hq hB => ⟨fun q2 => by
      rcases (ownE q).1 q2 with q3 | q3
      · exact hB q3
      · omega, (old q hq).2⟩⟩
    refine ⟨φ', upd h o (some X), .mu o n, v, ext, keeps, ⟨fun o' x hx => ?_, fun o1 o2 b1 c1 c2 h1 h2 q1 q2 => ?_, c.free⟩, rfl, ?_, o, ho, rfl, rfl⟩
    · by_cases e : o' = o
      · subst e
        rw [upd_same] at hx
        cases hx
        obtain ⟨cur, k1, k2, k3, k4, k5⟩ := hr'
        exact ⟨_, hl', cur, k1, k2, k3, k4, fun j u hu => (k5 j u hu).plain (hX u (List.mem_of_getElem? hu))⟩
      · rw [upd_ne _ _ e] at hx
        obtain ⟨l2, hl2, hr2⟩ := hH.ob o' x hx
        refine ⟨l2, ext o' l2 hl2, ?_⟩
        cases l2 with
        | nil => exact hr2
        | res => exact hr2.elim
        | blk b2 cap2 =>
          obtain ⟨cur, k1, k2, k3, k4, k5⟩ := hr2
          have hb2 := (Array.getElem?_eq_some_iff.1 k1).1
          exact ⟨cur, by rw [(old b2 hb2).2]; exact k1, k2, k3, k4, fun j u hu => (k5 j u hu).mono ext keeps⟩
        | mp b2 =>
          obtain ⟨k0, es, cl, k1, k2, k5⟩ := hr2
          have hb2 := (Array.getElem?_eq_some_iff.1 k1).1
          exact ⟨k0, es, cl, by rw [(old b2 hb2).2]; exact k1, k2, fun j u hu => (k5 j u hu).mono ext keeps⟩
    · have side : ∀ o', (upd h o (some X) o').isSome = true → o' ≠ o → (h o').isSome = true := fun o' q e => by rwa [upd_ne _ _ e] at q
      have lt : ∀ o' c', (h o').isSome = true → lies φ' o' b1 c' → b1 < w.heap.size := fun o' c' q1 q2 => hH.own_lt ⟨o', c', q1, q2.congr (eq o' q1).symm⟩
      by_cases e1 : o1 = o
      · by_cases e2 : o2 = o
        · rw [e1, e2]
        · have := lt o2 c2 (side o2 h2 e2) q2
          rw [e1] at q1
          rcases q1 with q1 | q1
          · rw [hl'] at q1; cases q1; omega
          · rw [hl'] at q1; cases q1
      · by_cases e2 : o2 = o
        · have := lt o1 c1 (side o1 h1 e1) q1
          rw [e2] at q2
          rcases q2 with q2 | q2
          · rw [hl'] at q2; cases q2; omega
          · rw [hl'] at q2; cases q2
        · exact hH.inj o1 o2 b1 c1 c2 (side o1 h1 e1) (side o2 h2 e2) (q1.congr (eq o1 (side o1 h1 e1)).symm) (q2.congr (eq o2 (side o2 h2 e2)).symm)
    · cases vr with
      | muN _ q => exact .muN o q
      | mu _ _ b2 cap2 q1 q2 => exact .mu o n b2 cap2 q1 q2
end Go.Par
