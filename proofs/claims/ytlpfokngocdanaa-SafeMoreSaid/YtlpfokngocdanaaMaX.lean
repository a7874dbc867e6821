/- More words: slots told otherwise. -/
import Derived.Test.YtlpfokngocdanaaMaW
import Derived.Test.YtlpfokngocdanaaMaV
namespace Go.Par

theorem flat_ones {l : List AV} (h : ∀ u ∈ l, u.flat = [u]) : l.flatMap AV.flat = l := by
  induction l with
  | nil => rfl
  | cons a l ih => rw [List.flatMap_cons, h a (by simp), ih fun u hu => h u (by simp [hu])]; rfl

/-- A slot's slice of single cells is told as a value that nobody writes any more. -/
theorem GStep.freeze {S : St} {t o n : Nat} {x : Ob} (k : Bool) (hv : get S.tm t = .mu o n) (hx : S.h o = some x) (hk : k = true → x.nn = true) (h1 : x.sz = 1) (hl : x.cells.length = n) (hf : ∀ u ∈ x.cells, u.flat = [u]) :
    GStep S ⟨S.n, (t, .ro k x.cells) :: S.tm, upd S.h o none⟩ :=
  GStep.slot hv (GV.freeze hx hk hl (fun y hy => by rw [hf y hy, h1]; rfl) (by rw [flat_ones hf, h1, Nat.mul_one, ← hl, List.take_length]))

theorem AW.freeze {P : Program} {c : Code} {Q : Exit → St → Prop} {S : St} (t : Nat) {o n : Nat} {x : Ob} (k : Bool) (hv : get S.tm t = .mu o n) (hx : S.h o = some x) (hk : k = true → x.nn = true) (h1 : x.sz = 1) (hl : x.cells.length = n) (hf : ∀ u ∈ x.cells, u.flat = [u])
    (h : AW P c Q ⟨S.n, (t, .ro k x.cells) :: S.tm, upd S.h o none⟩) : AW P c Q S := AW.ghost (GStep.freeze k hv hx hk h1 hl hf) h

theorem AW.box {P : Program} {c : Code} {Q : Exit → St → Prop} {S : St} (t : Nat) {o : Nat} {x : Ob} (hv : get S.tm t = .ptr o 0) (hx : S.h o = some x) (h : AW P c Q ⟨S.n, (t, .rop x.cells) :: S.tm, upd S.h o none⟩) : AW P c Q S := AW.ghost (GStep.box hv hx) h

theorem ones_bools (n : Nat) (f : Nat → Bool) : ∀ u ∈ tab n fun i => AV.bool (f i), u.flat = [u] := by
  intro u hu; obtain ⟨i, _, rfl⟩ := mem_tab.1 hu; rfl
theorem ones_ints (n : Nat) (f : Nat → Int) : ∀ u ∈ tab n fun i => AV.int .i64 (f i), u.flat = [u] := by
  intro u hu; obtain ⟨i, _, rfl⟩ := mem_tab.1 hu; rfl

theorem upd_at (h : Heap) (o : Nat) (x : Option Ob) (o' : Nat) : upd h o x o' = if o' = o then x else h o' := rfl
theorem upd_comm (h : Heap) {o o' : Nat} (x y : Option Ob) (hne : o ≠ o') : upd (upd h o x) o' y = upd (upd h o' y) o x := by
  funext z
  simp only [upd]
  by_cases e : z = o
  · subst e; simp [hne]
  · simp [e]

/-- A slice of which is not told whether it is nil: it is, or it is not. -/
theorem AC.nilCases {P : Program} {f : FuncId} {us1 us2 : List AV} {xs : List AV} {h : Heap} {Q : AV → Heap → Prop} (h1 : xs = [] → AC P f (us1 ++ .nils :: us2) h Q) (h2 : AC P f (us1 ++ .ro true xs :: us2) h Q) : AC P f (us1 ++ .ro false xs :: us2) h Q := by
  refine ⟨h2.1, fun φ w vs H V => ?_⟩
  have key : VR φ (own φ h) w (.ro true xs) (vs.getD us1.length undef) ∨ xs = [] ∧ VR φ (own φ h) w .nils (vs.getD us1.length undef) := by
    have hv := V.2 us1.length (.ro false xs) (by simp)
    generalize vs.getD us1.length undef = v at hv
    cases hv with
    | roNil _ a c ha hc =>
      cases a with
      | none => exact .inr ⟨rfl, by rw [hc rfl]; exact .nils⟩
      | some a => exact .inl (.roNil true (some a) c (fun _ => rfl) (fun e => by cases e))
    | ro _ xs n b off c s f hn hc hB hb hs hcell hval => exact .inl (.ro true xs n b off c s f hn hc hB hb hs hcell hval)
  have other : ∀ u, VR φ (own φ h) w u (vs.getD us1.length undef) → VRs φ (own φ h) w (us1 ++ u :: us2) vs := by
    intro u hu
    refine ⟨by simpa using V.1, fun j x hj => ?_⟩
    by_cases e : j = us1.length
    · subst e
      have : x = u := by simpa using hj.symm
      rw [this]; exact hu
    · refine V.2 j x ?_
      rcases Nat.lt_or_gt_of_ne e with l | l
      · rw [List.getElem?_append_left l] at hj ⊢; exact hj
      · rw [List.getElem?_append_right (by omega)] at hj ⊢
        obtain ⟨k, hk⟩ : ∃ k, j - us1.length = k + 1 := ⟨j - us1.length - 1, by omega⟩
        rw [hk] at hj ⊢
        exact hj
  rcases key with k | ⟨e, k⟩
  · exact h2.2 φ w vs H (other _ k)
  · exact (h1 e).2 φ w vs H (other _ k)

/-! ### A region in pieces -/
theorem vcOps_append {P : Program} {Θ : Types} {M : List Nat} {all : List Oper} {K : St → Prop} : ∀ (l1 l2 : List Oper) (S : St),
    vcOps P Θ M all (l1 ++ l2) K S = vcOps P Θ M all l1 (vcOps P Θ M all l2 K) S
  | [], l2, S => by simp only [List.nil_append, vcOps]
  | o :: l1, l2, S => by
    have ih := vcOps_append (P := P) (Θ := Θ) (M := M) (all := all) (K := K) l1 l2
    simp only [List.cons_append, vcOps, ih]

theorem vcOps_split {P : Program} {Θ : Types} {M : List Nat} {all l : List Oper} {K : St → Prop} {S : St} (q : Nat)
    (H : ∀ B : St → Prop, (∀ S', vcOps P Θ M all (l.drop q) K S' → B S') → vcOps P Θ M all (l.take q) B S) : vcOps P Θ M all l K S := by
  have h := H _ fun S' h => h
  rw [← vcOps_append, List.take_append_drop] at h
  exact h

theorem AW.regionAt {P : Program} {Θ : Types} (q : Nat) (M : List Nat) (hΘ : Θ.ok P) {ops : Array Oper} {id : Nat} {Q : Exit → St → Prop} {S : St}
    (H : ∀ B : St → Prop, (∀ S', vcOps P Θ M ops.toList (ops.toList.drop q) (Q .normal) S' → B S') → vcOps P Θ M ops.toList (ops.toList.take q) B S) : AW P (.region id ops false) Q S :=
  AW.region M hΘ (vcOps_split q H)

end Go.Par
