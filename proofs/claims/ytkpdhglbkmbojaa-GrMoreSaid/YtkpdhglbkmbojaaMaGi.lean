/- An owned slice is given away with a call. -/
import Derived.Test.YtkpdhglbkmbojaaMaLn
import Derived.Test.YtkpdhglbkmbojaaMaPm
set_option linter.unusedVariables false
namespace Go.Par

inductive GiveA (h : Heap) (o : Nat) : AV → AV → Prop where
  | same {u u' : AV} (hw : wk u u') : GiveA h o u u'
  | mu {n : Nat} {x : Ob} {k : Bool} {xs : List AV} (hx : h o = some x) (hk : k = true → x.nn = true) (hn : xs.length = n) (hs : ∀ y ∈ xs, y.flat.length = x.sz) (hf : xs.flatMap AV.flat = x.cells.take (n * x.sz)) : GiveA h o (.mu o n) (.ro k xs)

inductive GiveAs (h : Heap) (o : Nat) : List AV → List AV → Prop where
  | nil : GiveAs h o [] []
  | cons {u u' : AV} {us us' : List AV} (a : GiveA h o u u') (b : GiveAs h o us us') : GiveAs h o (u :: us) (u' :: us')

theorem GiveAs.length {h : Heap} {o : Nat} {us us' : List AV} (l : GiveAs h o us us') : us.length = us'.length := by
  induction l with
  | nil => rfl
  | cons _ _ ih => simp [ih]
theorem GiveAs.at {h : Heap} {o : Nat} {us us' : List AV} (l : GiveAs h o us us') : ∀ (j : Nat) (u' : AV), us'[j]? = some u' → ∃ u, us[j]? = some u ∧ GiveA h o u u' := by
  induction l with
  | nil => intro j u' e; simp at e
  | cons a _ ih =>
    intro j u' e
    cases j with
    | zero => simp at e; subst e; exact ⟨_, by simp, a⟩
    | succ j => simp at e ⊢; exact ih j u' e
theorem GiveAs.vr {h : Heap} {o : Nat} {us us' : List AV} (l : GiveAs h o us us') {φ : Names} {w : World} {vs : Array Value} (H : HR φ w h) (V : VRs φ (own φ h) w us vs) : VRs φ (own φ (upd h o none)) w us' vs := by
  obtain ⟨_, ho⟩ := H.less (upd_none_sub h o)
  refine ⟨by rw [← l.length]; exact V.1, fun j u' e => ?_⟩
  obtain ⟨u, e1, a⟩ := l.at j u' e
  have hv := V.2 j u e1
  cases a with
  | same hw => exact (hv.wk hw).weaken ho
  | mu hx hk hn hs hf => exact freeze_mu H hx hv hk hn hs hf

theorem AC.giveUp {P : Program} {f : FuncId} {us us' : List AV} {r : AV} {h : Heap} {o : Nat} (l : GiveAs h o us us') (H : Pure P f us' r) : AC P f us h fun r' h' => r' = r ∧ h' = upd h o none := by
  refine ⟨(H h).1, fun φ w vs hH V => ?_⟩
  obtain ⟨H', ho⟩ := hH.less (upd_none_sub h o)
  refine ((H (upd h o none)).2 φ w vs H' (l.vr hH V)).mono ?_
  rintro e w' ⟨φ', h', r', v, a, b, c, rfl, vr, rfl, rfl⟩
  exact ⟨φ', _, _, v, a, ⟨b.os, b.tape, b.output, b.size, fun q hq hB => b.block q hq fun z => hB (ho q z)⟩, c, rfl, vr, rfl, rfl⟩
end Go.Par
