/- More words: slots told otherwise. -/
import Derived.Test.YtdicfaplohdopaaMaW
import Derived.Test.YtdicfaplohdopaaMaV
namespace Go.Par

theorem flat_ones {l : List AV} (h : ∀ u ∈ l, u.flat = [u]) : l.flatMap AV.flat = l := by
  induction l with
  | nil => rfl
  | cons a l ih => rw [List.flatMap_cons, h a (by simp), ih fun u hu => h u (by simp [hu])]; rfl

/-- A slot's slice of single cells is told as a value that nobody writes any more. -/
theorem GStep.freeze {S : St} {t o n : Nat} {x : Ob} (k : Bool) (hv : get S.tm t = .mu o n) (hx : S.h o = some x) (hk : k = true → x.nn = true) (h1 : x.sz = 1) (hl : x.cells.length = n) (hf : ∀ u ∈ x.cells, u.flat = [u]) :
    GStep S ⟨S.n, (t, .ro k x.cells) :: S.tm, upd S.h o none⟩ :=
  GStep.slot hv (GV.freeze hx hk hl (fun y hy => by rw [hf y hy, h1]; rfl) (by rw [flat_ones hf, h1, Nat.mul_one, ← hl, List.take_length]))

theorem AW.freeze {P : Program} {c : Code} {Q : Exit → St → Prop} {S : St} (t : Nat) {o n : Nat} {x : Ob} (k : Bool) (hv : get S.tm t = .mu o n) (hx : S.h o = some x) (hk : k = true → x.nn = true) (h1 : x.sz = 1) (hl : x.cells.length = n) (hf : ∀ u ∈ x.cells, u.flat = [u])
    (h : AW P c Q ⟨S.n, (t, .ro k x.cells) :: S.tm, upd S.h o none⟩) : AW P c Q S := AW.ghost (GStep.freeze k hv hx hk h1 hl hf) h

theorem AW.box {P : Program} {c : Code} {Q : Exit → St → Prop} {S : St} (t : Nat) {o : Nat} {x : Ob} (hv : get S.tm t = .ptr o 0) (hx : S.h o = some x) (h : AW P c Q ⟨S.n, (t, .rop x.cells) :: S.tm, upd S.h o none⟩) : AW P c Q S := AW.ghost (GStep.box hv hx) h

theorem ones_bools (n : Nat) (f : Nat → Bool) : ∀ u ∈ tab n fun i => AV.bool (f i), u.flat = [u] := by
  intro u hu; obtain ⟨i, _, rfl⟩ := mem_tab.1 hu; rfl
theorem ones_ints (n : Nat) (f : Nat → Int) : ∀ u ∈ tab n fun i => AV.int .i64 (f i), u.flat = [u] := by
  intro u hu; obtain ⟨i, _, rfl⟩ := mem_tab.1 hu; rfl

/-! ### A region in pieces -/
theorem vcOps_append {P : Program} {Θ : Types} {M : List Nat} {all : List Oper} {K : St → Prop} : ∀ (l1 l2 : List Oper) (S : St),
    vcOps P Θ M all (l1 ++ l2) K S = vcOps P Θ M all l1 (vcOps P Θ M all l2 K) S
  | [], l2, S => by simp only [List.nil_append, vcOps]
  | o :: l1, l2, S => by
    have ih := vcOps_append (P := P) (Θ := Θ) (M := M) (all := all) (K := K) l1 l2
    simp only [List.cons_append, vcOps, ih]

theorem vcOps_split {P : Program} {Θ : Types} {M : List Nat} {all l : List Oper} {K : St → Prop} {S : St} (q : Nat)
    (H : ∀ B : St → Prop, (∀ S', vcOps P Θ M all (l.drop q) K S' → B S') → vcOps P Θ M all (l.take q) B S) : vcOps P Θ M all l K S := by
  have h := H _ fun S' h => h
  rw [← vcOps_append, List.take_append_drop] at h
  exact h

theorem AW.regionAt {P : Program} {Θ : Types} (q : Nat) (M : List Nat) (hΘ : Θ.ok P) {ops : Array Oper} {id : Nat} {Q : Exit → St → Prop} {S : St}
    (H : ∀ B : St → Prop, (∀ S', vcOps P Θ M ops.toList (ops.toList.drop q) (Q .normal) S' → B S') → vcOps P Θ M ops.toList (ops.toList.take q) B S) : AW P (.region id ops false) Q S :=
  AW.region M hΘ (vcOps_split q H)

end Go.Par
