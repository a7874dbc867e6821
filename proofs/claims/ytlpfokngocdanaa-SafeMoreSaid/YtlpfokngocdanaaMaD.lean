/- Operations that leave all objects as they are: they run as told. -/
import Derived.Test.YtlpfokngocdanaaMaC
import Derived.Laws.Cover3
import Derived.Laws.Small
import Derived.Lib.LazyBuf
set_option linter.unusedSimpArgs false
namespace Go.Par

section types
variable {P : Program} {t : TypeId} {d : TD} {w : World}

theorem TD.ok.sizeOf (h : d.ok P t) : (sizeOf t).run P w = .ok d.size w := by
  obtain ⟨⟨i, hi, h1, _, _⟩, _⟩ := h
  simp [Go.sizeOf, typeInfo, hi, h1]

theorem TD.ok.zero (h : d.ok P t) : (zeroValue t).run P w = .ok d.zero w := by
  obtain ⟨⟨i, hi, _, _, h3⟩, _⟩ := h
  simp [Go.zeroValue, typeInfo, hi, h3]

theorem TD.ok.isAgg (h : d.ok P t) : (isAgg t).run P w = .ok d.sh.agg w := by
  obtain ⟨_, h⟩ := h
  cases hs : d.sh with
  | prim =>
    rw [hs] at h
    simp only [Sh.ok] at h
    cases hu : P.underlying t with
    | none => simp [hu] at h
    | some x =>
      simp only [hu, Option.any_some] at h
      unfold Go.isAgg
      simp only [Sem.run_bind, run_underlying hu, Result.andThen_ok, Sh.agg]
      cases x <;> simp at h ⊢
  | struct fs =>
    rw [hs] at h
    obtain ⟨l, hl, _⟩ := h
    simp [Go.isAgg, run_underlying hl, Sh.agg]
  | arr n e => rw [hs] at h; simp [Go.isAgg, run_underlying h, Sh.agg]
  | bool => rw [hs] at h; simp [Go.isAgg, run_underlying h, Sh.agg]
  | int k => rw [hs] at h; simp [Go.isAgg, run_underlying h, Sh.agg]
  | slice e => rw [hs] at h; simp [Go.isAgg, run_underlying h, Sh.agg]

theorem TD.ok.slice {e : TypeId} {s b : Nat} {z : Value} (h : (⟨.slice e, s, b, z⟩ : TD).ok P t) : P.underlying t = some (.slice e) := h.2
end types

theorem add_plain (b o j : Nat) : (⟨b, o, none⟩ : Addr).add j = ⟨b, o + j, none⟩ := by unfold Addr.add; split <;> simp_all

theorem loadVar_run {P : Program} {Θ : Types} (hΘ : Θ.ok P) {φ : Names} {B : Nat → Prop} {w : World} {t : TypeId} {cs : List AV} {v : AV} {b off : Nat} {f : Nat → Value}
    (hcell : ∀ j u, cs[j]? = some u → w.cell? ⟨b, off + j, none⟩ = some (f j)) (hval : ∀ j u, cs[j]? = some u → VR φ B w u (f j))
    (hp : loadA Θ t cs (fun u => u = v)) : ∃ x, (loadVar t ⟨b, off, none⟩).run P w = .ok x w ∧ VR φ B w v x := by
  unfold loadA at hp
  split at hp
  · exact hp.elim
  · rename_i d hd
    have ok := hΘ t d hd
    unfold loadVar
    simp only [Sem.run_bind, ok.isAgg, Result.andThen_ok, Sem.run_ite]
    split at hp
    · rename_i hagg
      obtain ⟨hle, rfl⟩ := hp
      have hl := run_loadCells_list (P := P) w ⟨b, off, none⟩ ((List.range d.size).map f) (fun j v hj => by
        simp only [List.getElem?_map, Option.map_eq_some_iff] at hj
        obtain ⟨i, hi, rfl⟩ := hj
        obtain ⟨h1, h2⟩ := List.getElem?_eq_some_iff.1 hi
        simp at h2 h1
        subst h2
        rw [add_plain]
        exact hcell _ _ (List.getElem?_eq_getElem (by omega)))
      simp only [List.length_map, List.length_range] at hl
      simp only [hagg, if_true, ok.sizeOf, Result.andThen_ok, Sem.run_bind, hl, Sem.run_pure]
      refine ⟨_, rfl, .agg _ _ (by simp; omega) ?_⟩
      intro j u hu
      have hj : j < d.size := by
        rw [List.getElem?_take] at hu
        split at hu
        · assumption
        · cases hu
      rw [List.getElem?_take, if_pos hj] at hu
      have : (((List.range d.size).map f).toArray).getD j undef = f j := by simp [hj]
      rw [this]
      exact hval j u hu
    · rename_i hagg
      cases cs with
      | nil => exact hp.elim
      | cons c cs =>
        simp only at hp
        subst hp
        have h0 := hcell 0 c rfl
        simp only [Bool.not_eq_true] at hagg
        simp only [hagg, Bool.false_eq_true, if_false]
        refine ⟨f 0, ?_, hval 0 c rfl⟩
        rw [Nat.add_zero] at h0
        simp [run_load, h0]

theorem load_ob {φ : Names} {B : Nat → Prop} {w : World} {x : Ob} {b cap : Nat} (h : ObR φ B w x (.blk b cap)) : ∃ f : Nat → Value,
    (∀ j u, x.cells[j]? = some u → w.cell? ⟨b, j, none⟩ = some (f j)) ∧ (∀ j u, x.cells[j]? = some u → VR φ B w u (f j)) := by
  obtain ⟨cur, h1, h2, h3, h4, h5⟩ := h
  refine ⟨fun j => cur.getD j undef, fun j u hu => ?_, h5⟩
  have hj : j < cur.size := Nat.lt_of_lt_of_le (List.getElem?_eq_some_iff.1 hu).1 h4
  rw [cell_of_row w b j cur x.ty (0, 0) h1]
  simp [hj]

section runs
variable {P : Program} {Θ : Types} {o : Oper} {φ : Names} {h : Heap} {w : World} {a : Act} {ρ : Operand → AV} {v : AV}

theorem run_load_ptr (hΘ : Θ.ok P) (H : HR φ w h) {t : TypeId} {x : Operand} (ho : o.op = .load t x) (hx : VR φ (own φ h) w (ρ x) (a.eval x)) (hp : pOp P Θ ρ h (.load t x) (fun u => u = v)) : OpRun P o φ h w a v := by
  simp only [pOp] at hp
  split at hp
  · rename_i cs e
    rw [e] at hx
    generalize hq : a.eval x = q at hx
    cases hx with
    | rop _ b off f hB hb hcell hval =>
      obtain ⟨y, h1, h2⟩ := loadVar_run hΘ hcell hval hp
      refine OpRun.same H ?_ h2
      simp [execOp, ho, hq, Instr.loadAt, Instr.sureAddr, h1]
  · rename_i ob off e
    rw [e] at hx
    generalize hq : a.eval x = q at hx
    split at hp
    · rename_i x' hx'
      cases hx with
      | ptr _ _ b cap hl =>
        obtain ⟨l, hl', hr⟩ := H.ob _ _ hx'
        rw [hl] at hl'
        cases hl'
        obtain ⟨f, hf1, hf2⟩ := load_ob hr
        obtain ⟨y, h1, h2⟩ := loadVar_run (b := b) (off := off) (f := fun j => f (off + j)) hΘ (fun j u hu => hf1 (off + j) u (by rw [List.getElem?_drop] at hu; exact hu)) (fun j u hu => hf2 (off + j) u (by rw [List.getElem?_drop] at hu; exact hu)) hp
        refine OpRun.same H ?_ h2
        simp [execOp, ho, hq, Instr.loadAt, Instr.sureAddr, h1]
    · exact hp.elim
  · exact hp.elim

theorem run_binA (hΘ : Θ.ok P) {op : BinOp} {t : TypeId} {x y : AV} {X Y : Value} {ox oy : Operand} (hx : VR φ (own φ h) w x X) (hy : VR φ (own φ h) w y Y) (hp : binA Θ op t x y (fun u => u = v)) :
    ∃ q, (do eqGuard op t ox oy X Y; binOp op t X Y : Sem Value).run P w = .ok q w ∧ VR φ (own φ h) w v q := by
  unfold binA at hp
  split at hp
  · cases hx
    cases hy
    obtain ⟨rfl, hp⟩ := hp
    split at hp
    all_goals first
      | exact hp.elim
      | (subst hp; refine ⟨_, ?_, VR.int _ _⟩; simp [go_sem, Op.intArith, Op.intDiv]; done)
      | (subst hp; refine ⟨_, ?_, VR.bool _⟩; simp [go_sem, Op.intArith, Op.intDiv]; done)
      | (obtain ⟨hne, rfl⟩ := hp; refine ⟨_, ?_, VR.int _ _⟩; simp [go_sem, Op.intArith, Op.intDiv, hne]; done)
  · cases hx
    cases hy
    split at hp
    · rename_i hd
      have hu : P.underlying t = some .bool := (hΘ t _ hd).2
      split at hp
      · subst hp
        refine ⟨_, ?_, VR.bool _⟩
        simp [go_sem, run_eql_bool _ _ _ _ hu]
      · subst hp
        refine ⟨_, ?_, VR.bool _⟩
        simp [go_sem, run_neq_bool _ _ _ _ hu]
        exact (by decide : ∀ p q : Bool, (p == q) = (!p != q)) _ _
      · exact hp.elim
    · exact hp.elim
  · cases hx
    cases hy
    split at hp
    · rename_i hd
      have hu : P.underlying t = some (.slice _) := (hΘ t _ hd).2
      split at hp
      · subst hp
        refine ⟨_, ?_, VR.bool _⟩
        simp [go_sem, run_eql_slice_nil _ _ _ _ _ _ hu]
      · subst hp
        refine ⟨_, ?_, VR.bool _⟩
        simp [go_sem, run_neq_slice_nil _ _ _ _ _ _ hu]
      · exact hp.elim
    · exact hp.elim
  · have : ∃ b n c, X = .slice (some b) n c := by
      cases hx with
      | roNil k a c ha _ =>
        obtain ⟨b, hb⟩ := Option.isSome_iff_exists.1 (ha rfl)
        exact ⟨b, 0, c, by rw [hb]⟩
      | ro k xs n b off c s f => exact ⟨_, _, _, rfl⟩
    obtain ⟨b, n, c, rfl⟩ := this
    cases hy
    split at hp
    · rename_i hd
      have hu : P.underlying t = some (.slice _) := (hΘ t _ hd).2
      split at hp
      · subst hp
        refine ⟨_, ?_, VR.bool _⟩
        simp [go_sem, run_eql_slice_nil _ _ _ _ _ _ hu]
      · subst hp
        refine ⟨_, ?_, VR.bool _⟩
        simp [go_sem, run_neq_slice_nil _ _ _ _ _ _ hu]
      · exact hp.elim
    · exact hp.elim
  · exact hp.elim
end runs

end Go.Par
