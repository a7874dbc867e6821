/- A region that draws its order: each order that its edges allow comes to the same. -/
import Derived.Test.YtlpfokngocdanaaMaN
set_option linter.unusedSimpArgs false
namespace Go.Par

theorem HR.newAt {φ : Names} {w : World} {h : Heap} (H : HR φ w h) {n : Nat} (hφ : FreeN φ n) (hn : h n = none) {t : TypeId} {x : AV} {X : Value} (hX : VR φ (own φ h) w x X) (hk : x.known = true) :
    HR (bind1 φ n (.blk w.heap.size 1)) (w.alloc (.cells X.cells t)) (upd h n (some ⟨x.flat, t, x.flat.length, true⟩)) ∧
      Keeps (own φ h) w (own (bind1 φ n (.blk w.heap.size 1)) (upd h n (some ⟨x.flat, t, x.flat.length, true⟩))) (w.alloc (.cells X.cells t)) := by
  have hf := hX.flat hk
  exact H.newW (w' := w.alloc (.cells X.cells t)) hφ hn ⟨x.flat, t, x.flat.length, true⟩ X.cells 1 ⟨w.drawn, rfl⟩ (by simp [hf.1]) (by simp [maxLen]) (by simp [hf.1]) hf.2

/-- What makes a new thing runs, and makes it. -/
theorem mk_run {P : Program} {Θ : Types} {M : List Nat} {ρ : Operand → AV} {φ : Names} {h : Heap} {w : World} {a : Act} {o : Oper} (hΘ : Θ.ok P) (H : HR φ w h) (ha : isAlloc M o = true) (hok : mkOK Θ ρ o)
    (hx : ∀ y ∈ o.op.operands, VR φ (own φ h) w (ρ y) (a.eval y)) : ∃ w' x l, (execOp a.eval o).run P w = .ok (.value x) w' ∧ ∀ n, FreeN φ n → h n = none →
      HR (bind1 φ n l) w' (upd h n (some (obA Θ ρ o))) ∧ Keeps (own φ h) w (own (bind1 φ n l) (upd h n (some (obA Θ ρ o)))) w' ∧ VR (bind1 φ n l) (own (bind1 φ n l) (upd h n (some (obA Θ ρ o)))) w' (valA ρ o n) x := by
  cases hop : o.op with
  | alloc t =>
    rw [mkOK, hop] at hok
    simp only at hok
    split at hok
    · rename_i d hdt
      refine ⟨w.alloc (.cells d.zero.cells t), .pointer (some ⟨w.heap.size, 0, none⟩), .blk w.heap.size 1, by simp [execOp, hop, Instr.alloc, (hΘ t d hdt).zero, newVar, newRow], fun n hφ hn => ?_⟩
      have hob : obA Θ ρ o = ⟨(absV d.zero).flat, t, (absV d.zero).flat.length, true⟩ := by simp [obA, hop, hdt]
      have hva : valA ρ o n = .ptr n 0 := by simp [valA, hop]
      obtain ⟨H', hkeep⟩ := HR.newAt (t := t) H hφ hn (absV_VR φ (own φ h) w d.zero) hok.1
      rw [hob, hva]
      exact ⟨H', hkeep, .ptr n 0 w.heap.size 1 (bind1_same _ _ _)⟩
    · exact hok.elim
  | makeSlice t l c =>
    rw [mkOK, hop] at hok
    simp only at hok
    split at hok
    · rename_i e sz bt z k1 n k2 m hd hl hc
      split at hok
      · rename_i d hde
        obtain ⟨rfl, h0, hb, hm, hk, hfl⟩ := hok
        have hu := (hΘ t _ hd).slice
        have ok := hΘ e d hde
        obtain ⟨i, hi, i1, i2, i3⟩ := ok.1
        have hz : VR φ (own φ h) w (absV d.zero) d.zero := absV_VR _ _ _ _
        have hzf := hz.flat hk
        have v1 := hx l (by rw [hop]; simp [Op.operands])
        have v2 := hx c (by rw [hop]; simp [Op.operands])
        rw [hl] at v1
        rw [hc] at v2
        have hr := run_make (P := P) w t e i d.zero hu hi i3 k1 k2 n n h0 (Int.le_refl _) (by rw [i2]; omega) (by omega)
        refine ⟨w.alloc (.cells (madeCells d.zero.cells (n.toNat * i.size)) e), .slice (some ⟨w.heap.size, 0, none⟩) n.toNat n.toNat, .blk w.heap.size n.toNat, by simp [execOp, hop, v1.int_inv, v2.int_inv, hr], fun b hφ hbn => ?_⟩
        have hob : obA Θ ρ o = ⟨(List.replicate n.toNat (absV d.zero)).flatMap AV.flat, e, d.size, true⟩ := by simp [obA, hop, hd, hl, hde]
        have hva : valA ρ o b = .mu b n.toNat := by simp [valA, hop, hl]
        have hlen : ((List.replicate n.toNat (absV d.zero)).flatMap AV.flat).length = n.toNat * d.size := by
          rw [flat_len (s := d.size) (fun y hy => by rw [(List.mem_replicate.1 hy).2, hfl]), List.length_replicate]
        obtain ⟨H', hkeep⟩ := H.newW (w' := w.alloc (.cells (madeCells d.zero.cells (n.toNat * i.size)) e)) hφ hbn ⟨(List.replicate n.toNat (absV d.zero)).flatMap AV.flat, e, d.size, true⟩ (madeCells d.zero.cells (n.toNat * i.size)) n.toNat ⟨w.drawn, rfl⟩
          (by rw [size_madeCells, i1]) (by simp [maxLen]; omega) (by rw [hlen, size_madeCells, i1]; exact Nat.le_refl _) (by
            intro j u hu
            simp only at hu
            rw [replicate_flat, hfl] at hu
            split at hu
            · rename_i hj
              have h2 := hzf.2 _ _ hu
              have e : (madeCells d.zero.cells (n.toNat * i.size)).getD j undef = d.zero.cells.getD (j % d.size) undef := by
                have hlt : j % d.size < d.zero.cells.size := by rw [← hzf.1, hfl]; exact Nat.mod_lt _ (by rcases Nat.eq_zero_or_pos d.size with h | h; (rw [h] at hj; omega); exact h)
                have hs : d.zero.cells.size = d.size := by rw [← hzf.1, hfl]
                simp [madeCells, i1, hj, hs, getElem!_def, Array.getElem?_eq_getElem hlt]
              rw [e]
              exact h2
            · cases hu)
        rw [hob, hva]
        exact ⟨H', hkeep, .mu b _ w.heap.size _ (bind1_same _ _ _) (Nat.le_refl _)⟩
      · exact hok.elim
    · exact hok.elim
  | _ => unfold isAlloc at ha; rw [hop] at ha; cases ha

section sim
variable (P : Program) (Θ : Types) (M : List Nat) (all : List Oper) (m N : Nat) (h0 : Heap) (tm0 : Tm) (ob : List Nat) (pend : Pend) (K : St → Prop) (nm : Nat → Nat) (obs : Nat → Ob)

def Hc (q : Nat) (ls : Nat → Bool) (hq : Heap) : Heap := if q = 0 then hpA M all nm obs h0 ls m else hq

structure Sim (q : Nat) (ls : Nat → Bool) (vs : Nat → AV) (hq : Heap) (φ : Names) (w : World) (a : Act) : Prop where
  qle : m + q ≤ all.length
  tl : ∀ i, m ≤ i → i < all.length → (ls i = true ↔ i < m + q)
  closed : ∀ (j : Nat) (o : Oper), all[j]? = some o → ls j = true → ∀ e ∈ o.after, Region.binds .any e = true → ls e.on = true
  allocs : q ≠ 0 → ∀ i, i < m → alAt M all i = true → ls i = true
  kept : ∀ i, i < m → alAt M all i = true → ls i = false → φ (nm i) = some .res
  facts : ∀ (i : Nat) (o : Oper), i < m → all[i]? = some o → ls i = false → Fact P Θ M all N nm obs i (Hc M all m h0 nm obs q ls hq) (txt all tm0 vs i) o (vs i)
  hr : HR φ w (Hc M all m h0 nm obs q ls hq)
  tr : TR φ (own φ (Hc M all m h0 nm obs q ls hq)) w N (cur all tm0 ls vs all.length) a
  tail0 : q = 0 → vcTail P Θ M (all.drop m) pend K ⟨N, txt all tm0 vs m, hpA M all nm obs h0 (fun _ => true) m⟩
  tail : q ≠ 0 → ∃ tq, (∀ t, get tq t = get (txt all tm0 vs (m + q)) t) ∧ vcTail P Θ M (all.drop (m + q)) pend K ⟨N, tq, hq⟩
  pendf : ∀ h, obl h pend → ∀ (j : Nat) (o : Oper), j < m → all[j]? = some o → ob.contains j = true → isLoad o.op = true → Fact P Θ M all N nm obs j h (txt all tm0 vs j) o (vs j)
end sim

section steps
variable {P : Program} {Θ : Types} {M : List Nat} {all : List Oper} {m N : Nat} {h0 : Heap} {tm0 : Tm} {ob : List Nat} {pend : Pend} {K : St → Prop} {nm : Nat → Nat} {obs : Nat → Ob}
variable {q : Nat} {ls : Nat → Bool} {vs : Nat → AV} {hq : Heap} {φ : Names} {w : World} {a : Act}

/-- What an operation looks at is as in the order of the text. -/
theorem Sim.look (D : Drawn all m M) (s : Sim P Θ M all m N h0 tm0 ob pend K nm obs q ls vs hq φ w a) {i : Nat} {o : Oper} (hi : all[i]? = some o) (hl : ls i = false)
    (hr : ∀ e ∈ o.after, Region.binds .any e = true → ls e.on = true) {t : Nat} (ht : t ∈ looks all o) : get (cur all tm0 ls vs all.length) t = get (txt all tm0 vs i) t := by
  have hil : i < all.length := (List.getElem?_eq_some_iff.1 hi).1
  rw [← cur_below (k := i) (vs := vs) all.length (by omega)]
  refine cur_agree _ fun j hj hd => ⟨?_, fun _ => rfl⟩
  have hjo : all[j]? = some all[j] := List.getElem?_eq_getElem hj
  have hd' : all[j].dst = some t := by simpa [dstOf, hjo] using hd
  by_cases hlt : j < i
  · have := D.look j i all[j] o t hlt hjo hi hd' ht
    rw [show decide (j < i) = true by simpa using hlt]
    simp only [aft, List.any_eq_true] at this
    obtain ⟨e, he, he2⟩ := this
    simp only [Bool.and_eq_true, beq_iff_eq] at he2
    have := hr e (by simpa using he) he2.2
    rwa [he2.1] at this
  · rw [show decide (j < i) = false by simpa using hlt]
    by_cases e : j = i
    · rw [e]; exact hl
    · have := D.look' i j o all[j] t (by omega) hi hjo hd' ht
      cases hlj : ls j with
      | false => rfl
      | true =>
        simp only [aft, List.any_eq_true] at this
        obtain ⟨e, he, he2⟩ := this
        simp only [Bool.and_eq_true, beq_iff_eq] at he2
        have := s.closed j _ hjo hlj e (by simpa using he) he2.2
        rw [he2.1, hl] at this
        cases this

theorem Sim.ev (D : Drawn all m M) (s : Sim P Θ M all m N h0 tm0 ob pend K nm obs q ls vs hq φ w a) {i : Nat} {o : Oper} (hi : all[i]? = some o) (hl : ls i = false)
    (hr : ∀ e ∈ o.after, Region.binds .any e = true → ls e.on = true) : ∀ y ∈ o.op.operands, VR φ (own φ (Hc M all m h0 nm obs q ls hq)) w (ev (txt all tm0 vs i) y) (a.eval y) := by
  intro y hy
  cases y with
  | tmp t =>
    have := s.look D hi hl hr (t := t) (List.mem_append_left _ (List.mem_filterMap.2 ⟨.tmp t, by simpa using hy, rfl⟩))
    have hv := s.tr.val t
    rw [this] at hv
    exact hv
  | const v => exact absV_VR _ _ _ v
  | func f => exact .clo f [] #[] rfl (by simp)
  | global g => exact .any _

/-- The slots when one operation more has run. -/
theorem cur_add (D : Drawn all m M) {ls : Nat → Bool} {vs vs' : Nat → AV} {i : Nat} {o : Oper} (hi : all[i]? = some o) (hl : ls i = false)
    (hclosed : ∀ (j : Nat) (o : Oper), all[j]? = some o → ls j = true → ∀ e ∈ o.after, Region.binds .any e = true → ls e.on = true)
    (hvs : ∀ j, j ≠ i → vs' j = vs j) (t : Nat) :
    get (cur all tm0 (fun j => ls j || j == i) vs' all.length) t = get (putA (cur all tm0 ls vs all.length) o.dst (vs' i)) t := by
  have hil : i < all.length := (List.getElem?_eq_some_iff.1 hi).1
  rw [get_putA]
  split
  · rename_i hd
    have e1 : get (cur all tm0 (fun j => ls j || j == i) vs' all.length) t = get (cur all tm0 (fun j => (ls j || j == i) && decide (j < i + 1)) vs' all.length) t := by
      refine cur_agree _ fun j hj hdj => ⟨?_, fun _ => rfl⟩
      by_cases hlt : j < i + 1
      · simp [hlt]
      · have hjo : all[j]? = some all[j] := List.getElem?_eq_getElem hj
        have hd' : all[j].dst = some t := by simpa [dstOf, hjo] using hdj
        have hb := D.both i j o all[j] t (by omega) hi hjo hd hd'
        have hlj : ls j = false := by
          cases hlj : ls j with
          | false => rfl
          | true =>
            simp only [aft, List.any_eq_true] at hb
            obtain ⟨e, he, he2⟩ := hb
            simp only [Bool.and_eq_true, beq_iff_eq] at he2
            have := hclosed j _ hjo hlj e (by simpa using he) he2.2
            rw [he2.1, hl] at this
            cases this
        have : (j == i) = false := by simp; omega
        simp [hlj, this]
    rw [e1]
    have below : ∀ k, i + 1 ≤ k → get (cur all tm0 (fun j => (ls j || j == i) && decide (j < i + 1)) vs' k) t = vs' i := by
      intro k
      induction k with
      | zero => intro h; omega
      | succ k ih =>
        intro h
        by_cases e : k = i
        · subst e
          simp only [cur]
          rw [if_pos (by simp), get_putA, if_pos (by simpa [dstOf, hi] using hd)]
        · simp only [cur]
          rw [if_neg (by simp; omega)]
          exact ih (by omega)
    exact below _ hil
  · rename_i hd
    refine cur_agree _ fun j hj hdj => ?_
    by_cases e : j = i
    · subst e
      exact absurd (by simpa [dstOf, hi] using hdj) hd
    · have : (j == i) = false := by simpa using e
      simp [this, hvs j e]

theorem tl_add {i : Nat} (him : i < m) (tl : ∀ i, m ≤ i → i < all.length → (ls i = true ↔ i < m + q)) : ∀ j, m ≤ j → j < all.length → ((ls j || j == i) = true ↔ j < m + q) := by
  intro j hj hjl
  have : (j == i) = false := by simp; omega
  rw [this, Bool.or_false]
  exact tl j hj hjl

theorem closed_add {i : Nat} {o : Oper} (hi : all[i]? = some o) (hr : ∀ e ∈ o.after, Region.binds .any e = true → ls e.on = true)
    (hc : ∀ (j : Nat) (o : Oper), all[j]? = some o → ls j = true → ∀ e ∈ o.after, Region.binds .any e = true → ls e.on = true) :
    ∀ (j : Nat) (o : Oper), all[j]? = some o → (ls j || j == i) = true → ∀ e ∈ o.after, Region.binds .any e = true → (ls e.on || e.on == i) = true := by
  intro j o' hj hl e he hb
  rw [Bool.or_eq_true] at hl ⊢
  left
  rcases hl with hl | hl
  · exact hc j o' hj hl e he hb
  · have : j = i := by simpa using hl
    subst this
    rw [hi] at hj
    cases hj
    exact hr e he hb

/-- One operation ahead of the tail has run. -/
theorem Sim.pre (D : Drawn all m M) (s : Sim P Θ M all m N h0 tm0 ob pend K nm obs q ls vs hq φ w a) {i : Nat} {o : Oper} (hi : all[i]? = some o) (him : i < m) (hl : ls i = false)
    (hr : ∀ e ∈ o.after, Region.binds .any e = true → ls e.on = true) (hd : o.dst.all (· < N) = true) (ha : isAlloc M o = false) {φ' : Names} {w' : World} {x : Value} (e1 : Ext φ φ')
    (e2 : Keeps (own φ (Hc M all m h0 nm obs q ls hq)) w (own φ' (Hc M all m h0 nm obs q ls hq)) w') (e3 : HR φ' w' (Hc M all m h0 nm obs q ls hq)) (e4 : VR φ' (own φ' (Hc M all m h0 nm obs q ls hq)) w' (vs i) x) :
    Sim P Θ M all m N h0 tm0 ob pend K nm obs q (fun j => ls j || j == i) vs hq φ' w' (a.put o.dst x) ∧ Hc M all m h0 nm obs q (fun j => ls j || j == i) hq = Hc M all m h0 nm obs q ls hq := by
  have hai : alAt M all i = false := by simp [alAt, hi, ha]
  have hH : Hc M all m h0 nm obs q (fun j => ls j || j == i) hq = Hc M all m h0 nm obs q ls hq := by
    unfold Hc
    split
    · refine hpA_congr m fun j hj ha' => ?_
      have : j ≠ i := by rintro rfl; rw [hai] at ha'; cases ha'
      simp [this]
    · rfl
  refine ⟨⟨s.qle, tl_add him s.tl, closed_add hi hr s.closed, ?_, ?_, ?_, by rw [hH]; exact e3, ?_, s.tail0, s.tail, s.pendf⟩, hH⟩
  · intro hq j hj ha'
    rw [s.allocs hq j hj ha', Bool.true_or]
  · intro j hj h1 h2
    rw [Bool.or_eq_false_iff] at h2
    exact e1 _ _ (s.kept j hj h1 h2.1)
  · intro j o' hj ho' hl'
    rw [Bool.or_eq_false_iff] at hl'
    rw [hH]
    exact s.facts j o' hj ho' hl'.1
  · rw [hH]
    have T := ((s.tr.mono e1 e2).putA hd e4)
    exact ⟨T.defers, T.size, fun t => by rw [cur_add D hi hl s.closed (fun _ _ => rfl) t]; exact T.val t⟩

/-- A new object ahead of the tail. -/
theorem Sim.alloc (D : Drawn all m M) (hn0 : ∀ i, i < m → alAt M all i = true → h0 (nm i) = none) (hinj : ∀ i j, i < m → j < m → nm i = nm j → i = j)
    (s : Sim P Θ M all m N h0 tm0 ob pend K nm obs q ls vs hq φ w a) {i : Nat} {o : Oper} (hi : all[i]? = some o) (him : i < m) (hl : ls i = false)
    (hr : ∀ e ∈ o.after, Region.binds .any e = true → ls e.on = true) (hd : o.dst.all (· < N) = true) (ha : isAlloc M o = true) {w' : World} {X : Value} {l : Loc}
    (hnew : FreeN φ (nm i) → Hc M all m h0 nm obs q ls hq (nm i) = none → HR (bind1 φ (nm i) l) w' (upd (Hc M all m h0 nm obs q ls hq) (nm i) (some (obs i))) ∧ Keeps (own φ (Hc M all m h0 nm obs q ls hq)) w (own (bind1 φ (nm i) l) (upd (Hc M all m h0 nm obs q ls hq) (nm i) (some (obs i)))) w' ∧ VR (bind1 φ (nm i) l) (own (bind1 φ (nm i) l) (upd (Hc M all m h0 nm obs q ls hq) (nm i) (some (obs i)))) w' (vs i) X) :
    Sim P Θ M all m N h0 tm0 ob pend K nm obs q (fun j => ls j || j == i) vs hq (bind1 φ (nm i) l) w' (a.put o.dst X) ∧
      Keeps (own φ (Hc M all m h0 nm obs q ls hq)) w (own (bind1 φ (nm i) l) (Hc M all m h0 nm obs q (fun j => ls j || j == i) hq)) w' := by
  have hai : alAt M all i = true := by simp [alAt, hi, ha]
  have hq0 : q = 0 := by
    rcases Nat.eq_zero_or_pos q with h | h
    · exact h
    · have := s.allocs (by omega) i him hai
      rw [hl] at this
      cases this
  subst hq0
  have hHc : Hc M all m h0 nm obs 0 ls hq = hpA M all nm obs h0 ls m := rfl
  have hne : ∀ j, j < m → alAt M all j = true → ls j = true → nm j ≠ nm i := by
    intro j hj _ hlj e
    have := hinj j i hj him e
    subst this
    rw [hl] at hlj
    cases hlj
  have hfree : FreeN φ (nm i) := .inr (s.kept i him hai hl)
  have hnone : Hc M all m h0 nm obs 0 ls hq (nm i) = none := by
    rw [hHc]
    exact hpA_none (hn0 i him hai) m hne
  obtain ⟨H', hkeep, hval⟩ := hnew hfree hnone
  have hH2 : Hc M all m h0 nm obs 0 (fun j => ls j || j == i) hq = upd (Hc M all m h0 nm obs 0 ls hq) (nm i) (some (obs i)) := by
    rw [hHc]
    exact hpA_add hai hl m him hne
  have hext := ExtW.bind1 hfree l
  refine ⟨⟨s.qle, tl_add him s.tl, closed_add hi hr s.closed, fun h => absurd rfl h, ?_, ?_, by rw [hH2]; exact H', ?_, s.tail0, fun h => absurd rfl h, s.pendf⟩, by rw [hH2]; exact hkeep⟩
  · intro j hj h1 h2
    rw [Bool.or_eq_false_iff] at h2
    have hji : nm j ≠ nm i := by
      intro e
      have := hinj j i hj him e
      subst this
      simp at h2
    rw [bind1_ne _ _ hji]
    exact s.kept j hj h1 h2.1
  · intro j o' hj ho' hl'
    rw [Bool.or_eq_false_iff] at hl'
    rw [hH2]
    refine (s.facts j o' hj ho' hl'.1).sub ?_
    intro o2 x hx
    have : o2 ≠ nm i := by rintro rfl; rw [hnone] at hx; cases hx
    rw [upd_ne _ _ this]
    exact hx
  · rw [hH2]
    have T := ((s.tr.monoW hext hkeep).putA hd hval)
    exact ⟨T.defers, T.size, fun t => by rw [cur_add D hi hl s.closed (fun _ _ => rfl) t]; exact T.val t⟩

end steps
end Go.Par
