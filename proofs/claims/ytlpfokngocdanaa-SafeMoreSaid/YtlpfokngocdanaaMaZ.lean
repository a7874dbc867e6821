/- More words: an object told shorter; objects given up at a function's end. -/
import Derived.Test.YtlpfokngocdanaaMaY
namespace Go.Par

theorem own_put {φ : Names} {h : Heap} {o : Nat} {x y : Ob} (hx : h o = some x) (b : Nat) : own φ (upd h o (some y)) b ↔ own φ h b := by
  have f : ∀ o', (upd h o (some y) o').isSome = (h o').isSome := by
    intro o'
    by_cases e : o' = o
    · subst e; rw [upd_same, hx]; rfl
    · rw [upd_ne _ _ e]
  constructor
  · rintro ⟨o', c, h1, h2⟩; exact ⟨o', c, by rwa [f] at h1, h2⟩
  · rintro ⟨o', c, h1, h2⟩; exact ⟨o', c, by rwa [f], h2⟩

theorem HR.trunc {φ : Names} {w : World} {h : Heap} (H : HR φ w h) {o : Nat} {x : Ob} (hx : h o = some x) (n : Nat) : HR φ w (upd h o (some ⟨x.cells.take n, x.ty, x.sz, x.nn⟩)) := by
  have ho := own_put (φ := φ) (y := ⟨x.cells.take n, x.ty, x.sz, x.nn⟩) hx
  have f : ∀ o', (upd h o (some ⟨x.cells.take n, x.ty, x.sz, x.nn⟩) o').isSome = true → (h o').isSome = true := by
    intro o' q
    by_cases e : o' = o
    · subst e; simp [hx]
    · rwa [upd_ne _ _ e] at q
  refine ⟨fun o' y hy => ?_, fun o1 o2 b c c' h1 h2 => H.inj o1 o2 b c c' (f o1 h1) (f o2 h2), H.free⟩
  by_cases e : o' = o
  · subst e
    rw [upd_same] at hy
    cases hy
    obtain ⟨l, hl, hr⟩ := H.ob o' x hx
    refine ⟨l, hl, ?_⟩
    cases l with
    | nil => exact ⟨by simp [hr.1], hr.2⟩
    | res => exact hr.elim
    | blk b cap =>
      obtain ⟨cur, k1, k2, k3, k4, k5⟩ := hr
      refine ⟨cur, k1, k2, k3, by simp only [List.length_take]; omega, fun j u hu => ?_⟩
      simp only [List.getElem?_take] at hu
      split at hu
      · exact (k5 j u hu).weaken fun b hb => (ho b).1 hb
      · cases hu
  · rw [upd_ne _ _ e] at hy
    obtain ⟨l, hl, hr⟩ := H.ob o' y hy
    refine ⟨l, hl, ?_⟩
    cases l with
    | nil => exact hr
    | res => exact hr.elim
    | blk b cap =>
      obtain ⟨cur, k1, k2, k3, k4, k5⟩ := hr
      exact ⟨cur, k1, k2, k3, k4, fun j u hu => (k5 j u hu).weaken fun b hb => (ho b).1 hb⟩

theorem GV.trunc {v : AV} {h : Heap} {o : Nat} {x : Ob} (hx : h o = some x) (n : Nat) : GV v h v (upd h o (some ⟨x.cells.take n, x.ty, x.sz, x.nn⟩)) := fun φ _ _ H V =>
  ⟨φ, Ext.refl φ, H.trunc hx n, V.weaken fun b hb => (own_put hx b).1 hb, fun b hb => (own_put hx b).1 hb⟩

theorem Fin.gv {v v' : AV} {h h' : Heap} {Q : AV → Heap → Prop} (g : GV v h v' h') (f : Fin v' h' Q) : Fin v h Q :=
  let ⟨r, h'', g', q⟩ := f
  ⟨r, h'', g.trans g', q⟩

theorem GStep.trunc {S : St} {o : Nat} {x : Ob} (hx : S.h o = some x) (n : Nat) : GStep S ⟨S.n, S.tm, upd S.h o (some ⟨x.cells.take n, x.ty, x.sz, x.nn⟩)⟩ :=
  ⟨rfl, fun φ w _ H T => ⟨φ, Ext.refl φ, H.trunc hx n, T.mono (Ext.refl φ) (Keeps.less w fun b hb => (own_put hx b).1 hb), fun b hb => (own_put hx b).1 hb⟩⟩

/-- Two parts with what stands between them told. -/
theorem AW.seqTo {P : Program} {x y : Code} {Q : Exit → St → Prop} {S : St} (J : St) (hx : ∀ K : St → Prop, (∀ S', GStep S' J → K S') → AW P x (Then K Q) S) (hy : AW P y Q J) : AW P (.seq x y) Q S :=
  AW.seq fun K k => hx K fun S' g => k S' (AW.ghost g hy)

theorem AW.seqEx {P : Program} {x y : Code} {Q : Exit → St → Prop} {S : St} {X : Type} (I : X → Prop) (inv : X → St) (hx : ∀ K : St → Prop, (∀ S' x, I x → GStep S' (inv x) → K S') → AW P x (Then K Q) S) (hy : ∀ x, I x → AW P y Q (inv x)) : AW P (.seq x y) Q S :=
  AW.seq fun K k => hx K fun S' z hz g => k S' (AW.ghost g (hy z hz))

/-- The order in which objects are named makes no difference. -/
theorem HL.perm {h0 : Heap} {l l' : List (Nat × Ob)} (p : l.Perm l') (N : (nms l).Nodup) : HL h0 l = HL h0 l' := by
  induction p with
  | nil => rfl
  | cons a _ ih => rw [HL, HL, ih (List.nodup_cons.1 N).2]
  | swap a b l =>
    have hne : a.1 ≠ b.1 := by
      intro e
      have := (List.nodup_cons.1 N).1
      simp [e] at this
    simp only [HL]
    rw [upd_comm _ _ _ hne]
  | trans p1 p2 ih1 ih2 => rw [ih1 N, ih2 ((p1.map Prod.fst).nodup_iff.1 N)]

end Go.Par
