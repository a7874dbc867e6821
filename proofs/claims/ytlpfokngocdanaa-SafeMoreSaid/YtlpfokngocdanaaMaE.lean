/- Operations that leave all objects as they are: they run as told, all of them. -/
import Derived.Test.YtlpfokngocdanaaMaD
set_option linter.unusedSimpArgs false
namespace Go.Par

/-! Lists of cells. -/
theorem setAt_length (vs : List AV) : ∀ (cs : List AV) (off : Nat), (setAt cs off vs).length = cs.length := by
  induction vs with
  | nil => intros; rfl
  | cons v vs ih => intro cs off; simp [setAt, ih]

theorem setAt_get (vs : List AV) : ∀ (cs : List AV) (off j : Nat), off + vs.length ≤ cs.length → (setAt cs off vs)[j]? = if off ≤ j ∧ j < off + vs.length then vs[j - off]? else cs[j]? := by
  induction vs with
  | nil => intro cs off j _; simp [setAt]; omega
  | cons v vs ih =>
    intro cs off j hle
    simp only [List.length_cons] at hle
    rw [setAt, ih _ _ _ (by simp; omega)]
    by_cases h : off + 1 ≤ j ∧ j < off + 1 + vs.length
    · rw [if_pos h, if_pos (by simp; omega)]
      obtain ⟨k, rfl⟩ : ∃ k, j = off + 1 + k := ⟨j - (off + 1), by omega⟩
      rw [show off + 1 + k - off = k + 1 by omega, show off + 1 + k - (off + 1) = k by omega, List.getElem?_cons_succ]
    · rw [if_neg h]
      by_cases e : j = off
      · subst e
        rw [if_pos (by simp)]
        rw [Nat.sub_self, List.getElem?_cons_zero, List.getElem?_set_self (by omega)]
      · rw [if_neg (by simp only [List.length_cons]; omega)]
        rw [List.getElem?_set_ne (by omega)]

/-- Cells put into an array of values, one behind another. -/
def setAtV (cs : Array Value) (off : Nat) (vs : Array Value) : Array Value := vs.zipIdx.foldl (fun cs (c, j) => cs.setIfInBounds (off + j) c) cs

theorem setAtV_aux (off : Nat) : ∀ (l : List Value) (i : Nat) (cs : Array Value), ((l.zipIdx i).foldl (fun cs (c, j) => cs.setIfInBounds (off + j) c) cs).size = cs.size ∧
    ∀ j, ((l.zipIdx i).foldl (fun cs (c, j) => cs.setIfInBounds (off + j) c) cs).getD j undef = if off + i ≤ j ∧ j < off + i + l.length ∧ j < cs.size then l.getD (j - (off + i)) undef else cs.getD j undef := by
  intro l
  induction l with
  | nil => intro i cs; simp; intros; omega
  | cons v l ih =>
    intro i cs
    obtain ⟨h1, h2⟩ := ih (i + 1) (cs.setIfInBounds (off + i) v)
    simp only [List.zipIdx_cons, List.foldl_cons]
    refine ⟨by simpa using h1, fun j => ?_⟩
    rw [h2 j]
    simp only [List.length_cons, Array.size_setIfInBounds]
    by_cases h : off + (i + 1) ≤ j ∧ j < off + (i + 1) + l.length ∧ j < cs.size
    · rw [if_pos h, if_pos (by omega)]
      obtain ⟨k, rfl⟩ : ∃ k, j = off + (i + 1) + k := ⟨j - (off + (i + 1)), by omega⟩
      rw [show off + (i + 1) + k - (off + i) = k + 1 by omega, show off + (i + 1) + k - (off + (i + 1)) = k by omega]
      simp
    · rw [if_neg h]
      by_cases e : j = off + i
      · subst e
        by_cases hl : off + i < cs.size
        · rw [if_pos (by omega)]
          simp [hl]
        · rw [if_neg (by omega)]
          simp [Array.getElem?_eq_none (Nat.le_of_not_lt hl), hl]
      · rw [if_neg (by omega)]
        simp [Array.getElem?_setIfInBounds_ne (Ne.symm e)]

theorem setAtV_spec (cs : Array Value) (off : Nat) (vs : Array Value) : (setAtV cs off vs).size = cs.size ∧
    ∀ j, (setAtV cs off vs).getD j undef = if off ≤ j ∧ j < off + vs.size ∧ j < cs.size then vs.getD (j - off) undef else cs.getD j undef := by
  have h := setAtV_aux off vs.toList 0 cs
  have e : setAtV cs off vs = (vs.toList.zipIdx 0).foldl (fun cs (c, j) => cs.setIfInBounds (off + j) c) cs := by
    unfold setAtV
    rw [← Array.foldl_toList, Array.toList_zipIdx]
  rw [e]
  refine ⟨h.1, fun j => ?_⟩
  rw [h.2 j]
  simp

/-- 'cells' are told by 'cs'. -/
def CR (φ : Names) (B : Nat → Prop) (w : World) (cs : List AV) (vs : Array Value) : Prop := cs.length = vs.size ∧ ∀ j u, cs[j]? = some u → VR φ B w u (vs.getD j undef)

theorem CR.setAt {φ : Names} {B : Nat → Prop} {w : World} {cs us : List AV} {vs xs : Array Value} (h : CR φ B w cs vs) (hu : CR φ B w us xs) {off : Nat} (hle : off + us.length ≤ cs.length) : CR φ B w (setAt cs off us) (setAtV vs off xs) := by
  obtain ⟨h1, h2⟩ := setAtV_spec vs off xs
  refine ⟨by rw [setAt_length, h1, h.1], fun j u hj => ?_⟩
  have hlt := (List.getElem?_eq_some_iff.1 hj).1
  rw [setAt_length] at hlt
  rw [setAt_get _ _ _ _ hle] at hj
  rw [h2]
  have e1 := h.1
  have e2 := hu.1
  by_cases hc : off ≤ j ∧ j < off + us.length
  · rw [if_pos hc] at hj
    rw [if_pos (by omega)]
    exact hu.2 _ _ hj
  · rw [if_neg hc] at hj
    rw [if_neg (by omega)]
    exact h.2 _ _ hj

theorem fill_run {φ : Names} {B : Nat → Prop} {w : World} (place : Nat → Option (Nat × Nat)) : ∀ (us : List (Nat × AV)) (vs : List (Nat × Value)) (cs cs' : List AV) (xs : Array Value),
    us.map Prod.fst = vs.map Prod.fst → (∀ (j : Nat) (u : Nat × AV) (v : Nat × Value), us[j]? = some u → vs[j]? = some v → VR φ B w u.2 v.2) → CR φ B w cs xs → fillA place cs us = some cs' →
    ∃ xs', Instr.fill place xs vs = some xs' ∧ CR φ B w cs' xs' := by
  intro us
  induction us with
  | nil =>
    intro vs cs cs' xs he _ hc hf
    cases vs with
    | nil => simp only [fillA, Option.some.injEq] at hf; subst hf; exact ⟨xs, rfl, hc⟩
    | cons v vs => simp at he
  | cons u us ih =>
    intro vs cs cs' xs he hv hc hf
    cases vs with
    | nil => simp at he
    | cons v vs =>
      obtain ⟨i, u⟩ := u
      obtain ⟨i', v⟩ := v
      simp only [List.map_cons, List.cons.injEq] at he
      obtain ⟨rfl, he⟩ := he
      simp only [fillA] at hf
      cases hp : place i with
      | none => simp [hp] at hf
      | some q =>
        obtain ⟨off, size⟩ := q
        simp only [hp] at hf
        split at hf
        · rename_i hc3
          obtain ⟨k1, k2, k3⟩ := hc3
          have hfl := (hv 0 (i, u) (i, v) rfl rfl).flat k1
          have hle := hc.1
          have hin : off + u.flat.length ≤ cs.length := by omega
          obtain ⟨xs', h1, h2⟩ := ih vs (setAt cs off u.flat) cs' (setAtV xs off v.cells) he (fun j a b ha hb => hv (j + 1) a b (by simpa using ha) (by simpa using hb)) (hc.setAt (us := u.flat) (xs := v.cells) hfl hin) hf
          refine ⟨xs', ?_, h2⟩
          have hl : u.flat.length = v.cells.size := hfl.1
          show (match place i with | none => none | some (off, size) => if v.cells.size ≠ size || off + v.cells.size > xs.size then none else Instr.fill place (setAtV xs off v.cells) vs) = some xs'
          simp only [hp]
          rw [if_neg (by simp; omega)]
          exact h1
        · cases hf

theorem map_parts (ps : Array (Nat × Operand)) (f : Operand → Value) : (ps.map fun (i, x) => (i, f x)).toList = ps.toList.map fun p => (p.1, f p.2) := by
  simp

section runs
variable {P : Program} {Θ : Types} {o : Oper} {φ : Names} {h : Heap} {w : World} {a : Act} {ρ : Operand → AV} {v : AV}

theorem run_build (hΘ : Θ.ok P) (H : HR φ w h) {t : TypeId} {ps : Array (Nat × Operand)} (ho : o.op = .build t ps) (hx : ∀ x ∈ (Op.build t ps).operands, VR φ (own φ h) w (ρ x) (a.eval x))
    (hp : pOp P Θ ρ h (.build t ps) (fun u => u = v)) : OpRun P o φ h w a v := by
  simp only [pOp] at hp
  split at hp
  · rename_i fs s b z hd
    have ok := hΘ t _ hd
    obtain ⟨l, hl, hfs⟩ := ok.2
    split at hp
    · rename_i cs hf
      obtain ⟨hk, rfl⟩ := hp
      have hz : VR φ (own φ h) w (absV z) z := absV_VR _ _ _ _
      have hplaces : ∃ places : Array (Nat × Nat), (l.mapM fun (f : Field) => (do pure (f.offset, ← sizeOf f.type) : Sem (Nat × Nat))).run P w = .ok places w ∧ places.toList = fs.map fun p => (p.1, p.2.1) := by
        have aux : ∀ (l : List Field) (fs : List (Nat × Nat × TypeId)), l.map (fun f => (f.offset, (P.info? f.type).map (·.size), f.type)) = fs.map (fun f => (f.1, some f.2.1, f.2.2)) →
            (l.mapM fun (f : Field) => (Prod.mk f.offset <$> sizeOf f.type : Sem (Nat × Nat))).run P w = .ok (fs.map fun p => (p.1, p.2.1)) w := by
          intro l
          induction l with
          | nil => intro fs h; cases fs with | nil => rfl | cons a b => simp at h
          | cons f l ih =>
            intro fs h
            cases fs with
            | nil => simp at h
            | cons q fs =>
              simp only [List.map_cons, List.cons.injEq, Prod.mk.injEq] at h
              obtain ⟨⟨h1, h2, _⟩, h3⟩ := h
              cases hi : P.info? f.type with
              | none => simp [hi] at h2
              | some i =>
                simp only [hi, Option.map_some, Option.some.injEq] at h2
                have hsz : (sizeOf f.type).run P w = .ok i.size w := by simp [sizeOf, typeInfo, hi]
                simp only [List.mapM_cons, Sem.run_bind, Sem.run_map, hsz, Result.andThen_ok, ih fs h3, Sem.run_pure, h1, h2, List.map_cons]
        refine ⟨(fs.map fun p => (p.1, p.2.1)).toArray, ?_, by simp⟩
        rw [Array.mapM_eq_mapM_toList]
        simp only [bind_pure_comp, Sem.run_map, aux l.toList fs hfs, Result.andThen_ok]
      obtain ⟨places, hpl, hpl2⟩ := hplaces
      have hfl := hz.flat hk
      obtain ⟨xs', h1, h2⟩ := fill_run (φ := φ) (B := own φ h) (w := w) (fun i => (fs[i]?).map fun p => (p.1, p.2.1)) (ps.toList.map fun p => (p.1, ρ p.2)) (ps.toList.map fun p => (p.1, a.eval p.2)) (absV z).flat cs z.cells (by simp) (by
        intro j u v hu hv
        simp only [List.getElem?_map, Option.map_eq_some_iff] at hu hv
        obtain ⟨p, hp, rfl⟩ := hu
        obtain ⟨p', hp', rfl⟩ := hv
        rw [hp] at hp'
        cases hp'
        exact hx _ (by
          simp only [Op.operands, List.mem_toArray, List.mem_map]
          exact ⟨p, List.mem_of_getElem? hp, rfl⟩)) hfl hf
      refine OpRun.same (x := .agg xs') H ?_ (.agg cs xs' h2.1 h2.2)
      have hzero := ok.zero (w := w)
      have hpl3 : ∀ i : Nat, places[i]? = (fs[i]?).map fun p => (p.1, p.2.1) := by intro i; rw [← List.getElem?_map, ← hpl2]; simp
      simp only [execOp, ho, Instr.build, Sem.run_bind, hzero, Result.andThen_ok, run_underlying hl, hpl, Sem.run_pure]
      rw [map_parts]
      simp only [hpl3, h1, Sem.run_bind, Sem.run_pure, Result.andThen_ok]
    · exact hp.elim
  · rename_i m e s b z hd
    have ok := hΘ t _ hd
    have hu : P.underlying t = some (.array m e) := ok.2
    split at hp
    · rename_i d hde
      split at hp
      · rename_i cs hf
        obtain ⟨hk, rfl⟩ := hp
        have hz : VR φ (own φ h) w (absV z) z := absV_VR _ _ _ _
        have hfl := hz.flat hk
        obtain ⟨xs', h1, h2⟩ := fill_run (φ := φ) (B := own φ h) (w := w) (fun i => some (i * d.size, d.size)) (ps.toList.map fun p => (p.1, ρ p.2)) (ps.toList.map fun p => (p.1, a.eval p.2)) (absV z).flat cs z.cells (by simp) (by
          intro j u v hu hv
          simp only [List.getElem?_map, Option.map_eq_some_iff] at hu hv
          obtain ⟨p, hp, rfl⟩ := hu
          obtain ⟨p', hp', rfl⟩ := hv
          rw [hp] at hp'
          cases hp'
          exact hx _ (by
            simp only [Op.operands, List.mem_toArray, List.mem_map]
            exact ⟨p, List.mem_of_getElem? hp, rfl⟩)) hfl hf
        refine OpRun.same (x := .agg xs') H ?_ (.agg cs xs' h2.1 h2.2)
        have hzero := ok.zero (w := w)
        have hsz := (hΘ e d hde).sizeOf (w := w)
        simp only [execOp, ho, Instr.build, Sem.run_bind, hzero, Result.andThen_ok, run_underlying hu, hsz, Sem.run_pure]
        rw [map_parts]
        simp only [h1, Sem.run_bind, Sem.run_pure, Result.andThen_ok]
      · exact hp.elim
    · exact hp.elim
  · exact hp.elim
end runs

end Go.Par
