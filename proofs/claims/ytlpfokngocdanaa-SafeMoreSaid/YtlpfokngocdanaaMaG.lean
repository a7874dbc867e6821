/- Operations that leave all objects as they are: they run as told, all of them. -/
import Derived.Test.YtlpfokngocdanaaMaF
set_option linter.unusedSimpArgs false
namespace Go.Par

theorem fillA_seq (s : Nat) : ∀ (us : List (Nat × AV)) (i0 : Nat) (cs : List AV), us.map Prod.fst = List.range' i0 us.length → (∀ u ∈ us, u.2.known = true ∧ u.2.flat.length = s) → (i0 + us.length) * s ≤ cs.length →
    ∃ cs', fillA (fun i => some (i * s, s)) cs us = some cs' ∧ cs'.length = cs.length ∧ ∀ j : Nat, cs'[j]? = if i0 * s ≤ j ∧ j < (i0 + us.length) * s then ((us.map Prod.snd).flatMap AV.flat)[j - i0 * s]? else cs[j]? := by
  intro us
  induction us with
  | nil => intro i0 cs _ _ _; exact ⟨cs, rfl, rfl, fun j => by rw [if_neg (by simp)]⟩
  | cons u us ih =>
    intro i0 cs hi hk hle
    obtain ⟨i, u⟩ := u
    simp only [List.map_cons, List.length_cons, List.range'_succ, List.cons.injEq] at hi
    obtain ⟨rfl, hi⟩ := hi
    obtain ⟨k1, k2⟩ := hk (i, u) (by simp)
    simp only at k1 k2
    simp only [List.length_cons] at hle
    have e1 : (i + 1) * s = i * s + s := Nat.succ_mul i s
    have e2 : (i + (us.length + 1)) * s = (i + 1 + us.length) * s := by congr 1; omega
    have e3 : (i + 1) * s ≤ (i + 1 + us.length) * s := Nat.mul_le_mul_right _ (by omega)
    obtain ⟨cs', h1, h2, h3⟩ := ih (i + 1) (setAt cs (i * s) u.flat) hi (fun u hu => hk u (by simp [hu])) (by rw [setAt_length, ← e2]; exact hle)
    refine ⟨cs', ?_, by rw [h2, setAt_length], fun j => ?_⟩
    · simp only [fillA]
      rw [if_pos ⟨k1, k2, by omega⟩]
      exact h1
    · rw [h3 j, setAt_get _ _ _ _ (by omega)]
      simp only [List.length_cons, List.map_cons, List.flatMap_cons]
      rw [e2]
      by_cases c1 : (i + 1) * s ≤ j ∧ j < (i + 1 + us.length) * s
      · rw [if_pos c1, if_pos (by omega), List.getElem?_append_right (by omega)]
        congr 1
        omega
      · rw [if_neg c1]
        by_cases c2 : i * s ≤ j ∧ j < i * s + u.flat.length
        · rw [if_pos c2, if_pos (by omega), List.getElem?_append_left (by omega)]
        · rw [if_neg c2, if_neg (by omega)]

section runs
variable {P : Program} {Θ : Types} {o : Oper} {φ : Names} {h : Heap} {w : World} {a : Act} {ρ : Operand → AV} {v : AV}

theorem buildSlice_core (hΘ : Θ.ok P) {t : TypeId} {n : Nat} {ps : Array (Nat × Operand)} (hx : ∀ x ∈ (Op.buildSlice t n ps).operands, VR φ (own φ h) w (ρ x) (a.eval x))
    {e : TypeId} {sz bt : Nat} {z : Value} {d : TD} (hd : Θ t = some ⟨.slice e, sz, bt, z⟩) (hde : Θ e = some d) (hr : ps.toList.map Prod.fst = List.range n) (hle : n * d.size ≤ 16777216) (hk : ∀ p ∈ ps.toList, (ρ p.2).known = true ∧ (ρ p.2).flat.length = d.size) :
    ∃ xs' : Array Value, (Instr.buildSlice t n (ps.map fun (i, x) => (i, a.eval x))).run P w = .ok (.slice (some ⟨w.heap.size, 0, none⟩) n n) (w.alloc (.cells xs' e)) ∧ ps.toList.length = n ∧
      ((ps.toList.map fun p => ρ p.2).flatMap AV.flat).length = xs'.size ∧ xs'.size = n * d.size ∧ ∀ j u, ((ps.toList.map fun p => ρ p.2).flatMap AV.flat)[j]? = some u → VR φ (own φ h) w u (xs'.getD j undef) := by
  have hu := (hΘ t _ hd).slice
  have ok := hΘ e d hde
  have hlen : ps.toList.length = n := by
    have := congrArg List.length hr
    simpa using this
  have hfst : ((ps.toList.map fun p => (p.1, ρ p.2)).map Prod.fst) = List.range' 0 (ps.toList.map fun p => (p.1, ρ p.2)).length := by
    rw [List.map_map, List.length_map, hlen, ← List.range_eq_range', ← hr]
    rfl
  obtain ⟨cs', f1, f2, f3⟩ := fillA_seq d.size (ps.toList.map fun p => (p.1, ρ p.2)) 0 (List.replicate (n * d.size) .any) hfst (by
    intro u hu
    obtain ⟨p, hp, rfl⟩ := List.mem_map.1 hu
    exact hk p hp) (by rw [List.length_map, hlen]; simp)
  have hzc : ∃ zc : Array Value, zc.size = n * d.size ∧ ∀ cells, Instr.fill (fun i => some (i * d.size, d.size)) zc (ps.toList.map fun p => (p.1, a.eval p.2)) = some cells →
      (Instr.buildSlice t n (ps.map fun (i, x) => (i, a.eval x))).run P w = .ok (.slice (some ⟨w.heap.size, 0, none⟩) n n) (w.alloc (.cells cells e)) := by
    by_cases hz0 : n * d.size = 0
    · refine ⟨(Array.range (n * d.size)).map fun i => (#[] : Array Value)[i % (#[] : Array Value).size]!, by simp, fun cells hc => ?_⟩
      simp only [Instr.buildSlice, Sem.run_bind, run_underlying hu, Result.andThen_ok, ok.sizeOf]
      rw [if_neg (by omega), if_pos hz0]
      simp only [Sem.run_pure, Result.andThen_ok, map_parts, Sem.run_bind, hc]
      simp [newRow]
    · refine ⟨(Array.range (n * d.size)).map fun i => d.zero.cells[i % d.zero.cells.size]!, by simp, fun cells hc => ?_⟩
      simp only [Instr.buildSlice, Sem.run_bind, run_underlying hu, Result.andThen_ok, ok.sizeOf]
      rw [if_neg (by omega), if_neg hz0]
      simp only [Sem.run_pure, Result.andThen_ok, map_parts, Sem.run_bind, ok.zero, hc]
      simp [newRow]
  obtain ⟨zc, hzs, hrun⟩ := hzc
  obtain ⟨xs', g1, g2⟩ := fill_run (φ := φ) (B := own φ h) (w := w) (fun i => some (i * d.size, d.size)) (ps.toList.map fun p => (p.1, ρ p.2)) (ps.toList.map fun p => (p.1, a.eval p.2)) (List.replicate (n * d.size) .any) cs' zc (by simp) (by
    intro j u v hu hv
    simp only [List.getElem?_map, Option.map_eq_some_iff] at hu hv
    obtain ⟨p, hp, rfl⟩ := hu
    obtain ⟨p', hp', rfl⟩ := hv
    rw [hp] at hp'
    cases hp'
    exact hx _ (by
      simp only [Op.operands, List.mem_toArray, List.mem_map]
      exact ⟨p, List.mem_of_getElem? hp, rfl⟩)) ⟨by simp [hzs], fun j u hu => by
        have := List.mem_of_getElem? hu
        rw [(List.mem_replicate.1 this).2]
        exact .any _⟩ f1
  have hrun := hrun _ g1
  have hflat : cs' = (ps.toList.map fun p => ρ p.2).flatMap AV.flat := by
    apply List.ext_getElem?
    intro j
    rw [f3 j]
    simp only [Nat.zero_mul, List.length_map, hlen, Nat.zero_add, Nat.sub_zero, List.map_map]
    have hL : ((ps.toList.map fun p => ρ p.2).flatMap AV.flat).length = n * d.size := by
      have : ∀ (l : List (Nat × Operand)), (∀ p ∈ l, (ρ p.2).flat.length = d.size) → ((l.map fun p => ρ p.2).flatMap AV.flat).length = l.length * d.size := by
        intro l
        induction l with
        | nil => intro _; simp
        | cons p l ih => intro hl; rw [List.map_cons, List.flatMap_cons, List.length_append, ih (fun p hp => hl p (by simp [hp])), hl p (by simp), List.length_cons, Nat.succ_mul]; omega
      rw [this _ (fun p hp => (hk p hp).2), hlen]
    by_cases hj : j < n * d.size
    · rw [if_pos ⟨Nat.zero_le _, hj⟩]; rfl
    · rw [if_neg (by omega), List.getElem?_eq_none (by simp; omega), List.getElem?_eq_none (by omega)]
  subst hflat
  have hL : ((ps.toList.map fun p => ρ p.2).flatMap AV.flat).length = n * d.size := by
    have : ∀ (l : List (Nat × Operand)), (∀ p ∈ l, (ρ p.2).flat.length = d.size) → ((l.map fun p => ρ p.2).flatMap AV.flat).length = l.length * d.size := by
      intro l
      induction l with
      | nil => intro _; simp
      | cons p l ih => intro hl; rw [List.map_cons, List.flatMap_cons, List.length_append, ih (fun p hp => hl p (by simp [hp])), hl p (by simp), List.length_cons, Nat.succ_mul]; omega
    rw [this _ (fun p hp => (hk p hp).2), hlen]
  exact ⟨xs', hrun, hlen, g2.1, by rw [← g2.1, hL], g2.2⟩

theorem run_buildSlice (hΘ : Θ.ok P) (H : HR φ w h) {t : TypeId} {n : Nat} {ps : Array (Nat × Operand)} (ho : o.op = .buildSlice t n ps) (hx : ∀ x ∈ (Op.buildSlice t n ps).operands, VR φ (own φ h) w (ρ x) (a.eval x))
    (hp : pOp P Θ ρ h (.buildSlice t n ps) (fun u => u = v)) : OpRun P o φ h w a v := by
  simp only [pOp] at hp
  split at hp
  · rename_i e _ _ _ hd
    split at hp
    · rename_i d hde
      obtain ⟨hr, hle, hk, rfl⟩ := hp
      obtain ⟨xs', hrun, hlen, g1, g3, g2⟩ := buildSlice_core (h := h) hΘ hx hd hde hr hle hk
      have hnew := VR.new_ro (φ := φ) (h := h) (w := w) H e true (ps.toList.map fun p => ρ p.2) xs' d.size n (by simp [← hlen]) (by
        intro x hx
        obtain ⟨p, hp, rfl⟩ := List.mem_map.1 hx
        exact (hk p hp).2) g1 g2 n (Nat.le_refl _)
      refine OpRun.alloc H ?_ hnew
      simp [execOp, ho, hrun]
    · exact hp.elim
  · exact hp.elim

theorem run_makeSliceOp (hΘ : Θ.ok P) (H : HR φ w h) {t : TypeId} {l c : Operand} (ho : o.op = .makeSlice t l c) (hx : ∀ x ∈ (Op.makeSlice t l c).operands, VR φ (own φ h) w (ρ x) (a.eval x))
    (hp : pOp P Θ ρ h (.makeSlice t l c) (fun u => u = v)) : OpRun P o φ h w a v := by
  simp only [pOp] at hp
  split at hp
  · rename_i e _ _ _ k1 n k2 m hd e1 e2
    have hu := (hΘ t _ hd).slice
    split at hp
    · rename_i d hde
      have ok := hΘ e d hde
      obtain ⟨i, hi, i1, i2, i3⟩ := ok.1
      obtain ⟨rfl, h0, hb, hm, hk, hfl, rfl⟩ := hp
      have v1 := hx l (by simp [Op.operands])
      have v2 := hx c (by simp [Op.operands])
      rw [e1] at v1
      rw [e2] at v2
      have hz : VR φ (own φ h) w (absV d.zero) d.zero := absV_VR _ _ _ _
      have hzf := hz.flat hk
      have hr := run_make (P := P) w t e i d.zero hu hi i3 k1 k2 n n h0 (Int.le_refl _) (by rw [i2]; omega) (by omega)
      have hnew := VR.new_ro (φ := φ) (h := h) (w := w) H e true (List.replicate n.toNat (absV d.zero)) (madeCells d.zero.cells (n.toNat * i.size)) d.size n.toNat (by simp) (by
        intro x hx
        rw [(List.mem_replicate.1 hx).2, hfl]) (by
          have : ∀ m : Nat, ((List.replicate m (absV d.zero)).flatMap AV.flat).length = m * d.size := by
            intro m
            induction m with
            | zero => simp
            | succ m ih => rw [List.replicate_succ, List.flatMap_cons, List.length_append, ih, hfl, Nat.succ_mul]; omega
          rw [this, size_madeCells, i1]) (by
          intro j u hu
          rw [replicate_flat, hfl] at hu
          split at hu
          · rename_i hj
            have h2 := hzf.2 _ _ hu
            have e : (madeCells d.zero.cells (n.toNat * i.size)).getD j undef = d.zero.cells.getD (j % d.size) undef := by
              have hlt : j % d.size < d.zero.cells.size := by rw [← hzf.1, hfl]; exact Nat.mod_lt _ (by rcases Nat.eq_zero_or_pos d.size with h | h; (rw [h] at hj; omega); exact h)
              have hs : d.zero.cells.size = d.size := by rw [← hzf.1, hfl]
              simp [madeCells, i1, hj, hs, getElem!_def, Array.getElem?_eq_getElem hlt]
            rw [e]
            exact h2
          · cases hu) n.toNat (Nat.le_refl _)
      refine OpRun.alloc H ?_ hnew
      simp [execOp, ho, v1.int_inv, v2.int_inv, hr]
    · exact hp.elim
  · exact hp.elim

theorem run_fieldAddr (hΘ : Θ.ok P) (H : HR φ w h) {t : TypeId} {x : Operand} {f : Nat} (ho : o.op = .fieldAddr t x f) (hx : ∀ y ∈ (Op.fieldAddr t x f).operands, VR φ (own φ h) w (ρ y) (a.eval y))
    (hp : pOp P Θ ρ h (.fieldAddr t x f) (fun u => u = v)) : OpRun P o φ h w a v := by
  simp only [pOp] at hp
  split at hp
  · rename_i fs _ _ _ hd
    obtain ⟨l, hl, hfs⟩ := (hΘ t _ hd).2
    split at hp
    · rename_i off size ft hf
      obtain ⟨hne, hp⟩ := hp
      have hf' : ∃ F : Field, l[f]? = some F ∧ F.offset = off ∧ (sizeOf F.type).run P w = .ok size w := by
        have := congrArg (·[f]?) hfs
        simp only [List.getElem?_map, hf, Option.map_some, Option.map_eq_some_iff] at this
        obtain ⟨F, hF, he⟩ := this
        simp only [Prod.mk.injEq, Option.map_eq_some_iff] at he
        obtain ⟨e1, ⟨i, hi, e2⟩, _⟩ := he
        exact ⟨F, by simpa using hF, e1, by simp [sizeOf, typeInfo, hi, e2]⟩
      obtain ⟨F, hF, e1, e2⟩ := hf'
      have vx := hx x (by simp [Op.operands])
      have run : ∀ b q, (Instr.fieldAt t (.pointer (some ⟨b, q, none⟩)) f).run P w = .ok (.pointer (some ⟨b, q + off, none⟩)) w := by
        intro b q
        simp [Instr.fieldAt, run_underlying hl, hF, Instr.sureAddr, fieldPlace, e2, hne, e1, add_plain]
      split at hp
      · rename_i cs e3
        subst hp
        rw [e3] at vx
        generalize hq : a.eval x = V at vx
        cases vx with
        | rop _ b q g hB hb hcell hval =>
          refine OpRun.same H (x := .pointer (some ⟨b, q + off, none⟩)) ?_ ?_
          · simp [execOp, ho, hq, run]
          · refine .rop _ b (q + off) (fun j => g (off + j)) hB hb ?_ ?_
            · intro j u hu
              rw [List.getElem?_drop] at hu
              rw [Nat.add_assoc]
              exact hcell _ u hu
            · intro j u hu
              rw [List.getElem?_drop] at hu
              exact hval _ u hu
      · rename_i ob q e3
        subst hp
        rw [e3] at vx
        generalize hq : a.eval x = V at vx
        cases vx with
        | ptr _ _ b cap hl' =>
          refine OpRun.same H (x := .pointer (some ⟨b, q + off, none⟩)) ?_ (.ptr _ _ b cap hl')
          simp [execOp, ho, hq, run]
      · exact hp.elim
    · exact hp.elim
  · exact hp.elim

theorem run_indexAddr (hΘ : Θ.ok P) (H : HR φ w h) {t : TypeId} {x i : Operand} (ho : o.op = .indexAddr t x i) (hx : ∀ y ∈ (Op.indexAddr t x i).operands, VR φ (own φ h) w (ρ y) (a.eval y))
    (hp : pOp P Θ ρ h (.indexAddr t x i) (fun u => u = v)) : OpRun P o φ h w a v := by
  simp only [pOp] at hp
  have vx := hx x (by simp [Op.operands])
  have vi := hx i (by simp [Op.operands])
  split at hp
  · rename_i e _ _ _ q xs k n hd e1 e2
    have hu := (hΘ t _ hd).slice
    rw [e1] at vx
    rw [e2] at vi
    split at hp
    · rename_i d hde
      have ok := hΘ e d hde
      obtain ⟨⟨h0, h1⟩, hs, rfl⟩ := hp
      obtain ⟨A, c, eV, hc, hA, _, hX⟩ := vx.ro_inv
      rcases hX with rfl | ⟨b, off, s, f, rfl, hB, hb, hss, hcell, hval⟩
      · simp at h1; omega
      · have hlt : n.toNat < xs.length := by omega
        have hxs : xs.getD n.toNat .any = xs[n.toNat] := by simp [hlt]
        have hsd : s = d.size := by rw [← hs, hxs]; exact (hss _ (List.getElem_mem hlt)).symm
        subst hsd
        refine OpRun.same H (x := .pointer (some ⟨b, off + n.toNat * d.size, none⟩)) ?_ ?_
        · simp [execOp, ho, eV, vi.int_inv, Instr.indexAt, asIntOf, run_underlying hu, h0, h1, ok.sizeOf, add_plain]
        · have hget : ∀ (j : Nat) u, (xs.getD n.toNat .any).flat[j]? = some u → (xs.flatMap AV.flat)[n.toNat * d.size + j]? = some u := by
            intro j u hu
            have hj : j < d.size := by rw [← hs]; exact (List.getElem?_eq_some_iff.1 hu).1
            rw [flatMap_getElem hss _ _ hj, List.getElem?_eq_getElem hlt]
            rw [hxs] at hu
            exact hu
          refine .rop _ b _ (fun j => f (n.toNat * d.size + j)) hB hb ?_ ?_
          · intro j u hu
            rw [Nat.add_assoc]
            exact hcell _ u (hget j u hu)
          · intro j u hu
            exact hval _ u (hget j u hu)
    · exact hp.elim
  · rename_i e _ _ _ ob m k n hd e1 e2
    have hu := (hΘ t _ hd).slice
    rw [e1] at vx
    rw [e2] at vi
    split at hp
    · rename_i d hde
      have ok := hΘ e d hde
      obtain ⟨⟨h0, h1⟩, rfl⟩ := hp
      generalize hq : a.eval x = V at vx
      cases vx with
      | muN o hl => simp at h1; omega
      | mu _ _ b cap hl hn =>
        refine OpRun.same H (x := .pointer (some ⟨b, n.toNat * d.size, none⟩)) ?_ (.ptr _ _ b cap hl)
        simp [execOp, ho, hq, vi.int_inv, Instr.indexAt, asIntOf, run_underlying hu, h0, h1, ok.sizeOf, add_plain]
    · exact hp.elim
  · rename_i m e _ _ _ ob q k n hd e1 e2
    have hu : P.underlying t = some (.array m e) := (hΘ t _ hd).2
    rw [e1] at vx
    rw [e2] at vi
    split at hp
    · rename_i d hde
      have ok := hΘ e d hde
      obtain ⟨⟨h0, h1⟩, rfl⟩ := hp
      generalize hq : a.eval x = V at vx
      cases vx with
      | ptr _ _ b cap hl =>
        refine OpRun.same H (x := .pointer (some ⟨b, q + n.toNat * d.size, none⟩)) ?_ (.ptr _ _ b cap hl)
        simp [execOp, ho, hq, vi.int_inv, Instr.indexAt, asIntOf, run_underlying hu, Instr.sureAddr, h0, h1, ok.sizeOf, add_plain]
    · exact hp.elim
  · rename_i m e _ _ _ cs k n hd e1 e2
    have hu : P.underlying t = some (.array m e) := (hΘ t _ hd).2
    rw [e1] at vx
    rw [e2] at vi
    split at hp
    · rename_i d hde
      have ok := hΘ e d hde
      obtain ⟨⟨h0, h1⟩, rfl⟩ := hp
      generalize hq : a.eval x = V at vx
      cases vx with
      | rop _ b off f hB hb hcell hval =>
        refine OpRun.same H (x := .pointer (some ⟨b, off + n.toNat * d.size, none⟩)) ?_ ?_
        · simp [execOp, ho, hq, vi.int_inv, Instr.indexAt, asIntOf, run_underlying hu, Instr.sureAddr, h0, h1, ok.sizeOf, add_plain]
        · refine .rop _ b _ (fun j => f (n.toNat * d.size + j)) hB hb ?_ ?_
          · intro j u hu
            rw [List.getElem?_drop] at hu
            rw [Nat.add_assoc]
            exact hcell _ u hu
          · intro j u hu
            rw [List.getElem?_drop] at hu
            exact hval _ u hu
    · exact hp.elim
  · exact hp.elim
end runs
end Go.Par
