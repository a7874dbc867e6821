/- An owned object is lent to a function that only reads it. -/
import Derived.Test.YtihlpchiomkinaaMaLn
set_option linter.unusedVariables false
namespace Go.Par

inductive LendP (h : Heap) : AV → AV → Prop where
  | base {u u' : AV} (a : Lend h u u') : LendP h u u'
  | obj {o : Nat} {x : Ob} {cs : List AV} (us : Nat → AV) (hx : h o = some x) (hc : ∀ j u', cs[j]? = some u' → x.cells[j]? = some (us j)) (hl : ∀ j u', cs[j]? = some u' → u' = .any ∨ Lend h (us j) u') : LendP h (.ptr o 0) (.rop cs)

inductive LendPs (h : Heap) : List AV → List AV → Prop where
  | nil : LendPs h [] []
  | cons {u u' : AV} {us us' : List AV} (a : LendP h u u') (b : LendPs h us us') : LendPs h (u :: us) (u' :: us')

theorem LendPs.length {h : Heap} {us us' : List AV} (l : LendPs h us us') : us.length = us'.length := by
  induction l with
  | nil => rfl
  | cons _ _ ih => simp [ih]

theorem LendPs.at {h : Heap} {us us' : List AV} (l : LendPs h us us') : ∀ (j : Nat) (u' : AV), us'[j]? = some u' → ∃ u, us[j]? = some u ∧ LendP h u u' := by
  induction l with
  | nil => intro j u' e; simp at e
  | cons a _ ih =>
    intro j u' e
    cases j with
    | zero => simp at e; subst e; exact ⟨_, by simp, a⟩
    | succ j => simp at e ⊢; exact ih j u' e

theorem own_none (φ : Names) : ∀ b, ¬ own φ (fun _ => none) b := fun b ⟨o, c, q, _⟩ => by cases q

theorem Lend.vr {h : Heap} {u u' : AV} (a : Lend h u u') {φ : Names} {w : World} {v : Value} (H : HR φ w h) (V : VR φ (own φ h) w u v) : VR φ (own φ fun _ => none) w u' v := by
  cases a with
  | same hw => exact (V.wk hw).weaken fun b hb => absurd hb (own_none φ b)
  | mu hx hk hn hs hf => exact (freeze_mu H hx V hk hn hs hf).weaken fun b hb => absurd hb (own_none φ b)

theorem LendP.vr {h : Heap} {u u' : AV} (a : LendP h u u') {φ : Names} {w : World} {v : Value} (H : HR φ w h) (V : VR φ (own φ h) w u v) : VR φ (own φ fun _ => none) w u' v := by
  cases a with
  | base a => exact a.vr H V
  | obj us hx hc hl =>
    rename_i o x cs
    obtain ⟨l, hl', hr⟩ := H.ob o x hx
    cases V with
    | ptr _ _ b cap h1 =>
      rw [h1] at hl'
      cases hl'
      obtain ⟨cur, k1, k2, k3, k4, k5⟩ := hr
      refine .rop _ b 0 (fun j => cur.getD j undef) (own_none φ b) (Array.getElem?_eq_some_iff.1 k1).1 ?_ ?_
      · intro j u hu
        have hj : j < cur.size := Nat.lt_of_lt_of_le (List.getElem?_eq_some_iff.1 (hc j u hu)).1 k4
        rw [Nat.zero_add, cell_of_row w b j cur x.ty (0, 0) k1]
        simp [hj]
      · intro j u hu
        rcases hl j u hu with e | e
        · subst e; exact .any _
        · exact e.vr H (k5 j _ (hc j u hu))

theorem LendPs.vr {h : Heap} {us us' : List AV} (l : LendPs h us us') {φ : Names} {w : World} {vs : Array Value} (H : HR φ w h) (V : VRs φ (own φ h) w us vs) : VRs φ (own φ fun _ => none) w us' vs := by
  refine ⟨by rw [← l.length]; exact V.1, fun j u' e => ?_⟩
  obtain ⟨u, e1, a⟩ := l.at j u' e
  exact a.vr H (V.2 j u e1)

def plainW : AV → Bool
  | .agg cs => cs.all plainV
  | u => plainV u
theorem VR.plainW {φ φ' : Names} {B B' : Nat → Prop} {w w' : World} {u : AV} {v : Value} (h : VR φ B w u v) (hp : Par.plainW u = true) : VR φ' B' w' u v := by
  cases h with
  | agg cs vs hl h =>
    refine .agg cs vs hl fun j u hu => (h j u hu).plain ?_
    simp only [Par.plainW, List.all_eq_true] at hp
    exact hp u (List.mem_of_getElem? hu)
  | int k n => exact .int k n
  | bool b => exact .bool b
  | _ => simp [Par.plainW, plainV] at hp

theorem AC.lendObj {P : Program} {f : FuncId} {us us' : List AV} {r : AV} {h : Heap} (l : LendPs h us us') (H : Pure P f us' r) (hr : plainW r = true) : AC P f us h fun r' h' => r' = r ∧ h' = h := by
  have H0 := H fun _ => none
  refine ⟨H0.1, fun φ w vs hH V => ?_⟩
  refine (H0.2 φ w vs hH.nothing (l.vr hH V)).mono ?_
  rintro e w' ⟨φ', h', r', v, a, b, c, rfl, vr, rfl, rfl⟩
  have old := Keeps.from_none hH b
  have H' : HR φ w' h := hH.same b.size (fun b hb => (old b hb).2) b.os b.tape b.output
  refine ⟨φ, h, r', v, Ext.refl φ, ⟨b.os, b.tape, b.output, b.size, fun q hq hB => ⟨hB, (old q hq).2⟩⟩, H', rfl, vr.plainW hr, rfl, rfl⟩
end Go.Par
