/- A region that draws its order: each order that its edges allow comes to the same. -/
import Derived.Test.YtdicfaplohdopaaMaN
set_option linter.unusedSimpArgs false
namespace Go.Par

theorem HR.newAt {φ : Names} {w : World} {h : Heap} (H : HR φ w h) {n : Nat} (hφ : φ n = none) (hn : h n = none) {t : TypeId} {x : AV} {X : Value} (hX : VR φ (own φ h) w x X) (hk : x.known = true) :
    HR (bind1 φ n (.blk w.heap.size 1)) (w.alloc (.cells X.cells t)) (upd h n (some ⟨x.flat, t, x.flat.length, true⟩)) ∧
      Keeps (own φ h) w (own (bind1 φ n (.blk w.heap.size 1)) (upd h n (some ⟨x.flat, t, x.flat.length, true⟩))) (w.alloc (.cells X.cells t)) := by
  have hf := hX.flat hk
  exact H.new (w' := w.alloc (.cells X.cells t)) hφ hn ⟨x.flat, t, x.flat.length, true⟩ X.cells 1 ⟨w.drawn, rfl⟩ (by simp [hf.1]) (by simp [maxLen]) (by simp [hf.1]) hf.2

section sim
variable (P : Program) (Θ : Types) (M : List Nat) (all : List Oper) (m N : Nat) (h0 : Heap) (tm0 : Tm) (ob : List Nat) (pend : Pend) (K : St → Prop)

def Hc (nm : Nat → Nat) (q : Nat) (ls : Nat → Bool) (hq : Heap) : Heap := if q = 0 then hpA Θ M all nm h0 ls m else hq

structure Sim (nm : Nat → Nat) (q : Nat) (ls : Nat → Bool) (vs : Nat → AV) (hq : Heap) (φ : Names) (w : World) (a : Act) : Prop where
  qle : m + q ≤ all.length
  tl : ∀ i, m ≤ i → i < all.length → (ls i = true ↔ i < m + q)
  closed : ∀ (j : Nat) (o : Oper), all[j]? = some o → ls j = true → ∀ e ∈ o.after, Region.binds .any e = true → ls e.on = true
  allocs : q ≠ 0 → ∀ (i : Nat) (o : Oper), i < m → all[i]? = some o → isAlloc M o = true → ls i = true
  names : ∀ i, i < m → alAt M all i = true → ls i = true → h0 (nm i) = none ∧ vs i = .ptr (nm i) 0
  apart : ∀ i j, i < m → j < m → alAt M all i = true → alAt M all j = true → ls i = true → ls j = true → nm i = nm j → i = j
  facts : ∀ (i : Nat) (o : Oper), i < m → all[i]? = some o → ls i = false → Fact P Θ M all N (Hc Θ M all m h0 nm q ls hq) (pre M all tm0 vs i) o (vs i)
  hr : HR φ w (Hc Θ M all m h0 nm q ls hq)
  tr : TR φ (own φ (Hc Θ M all m h0 nm q ls hq)) w N (cur all tm0 ls vs all.length) a
  tail0 : q = 0 → vcAllocs Θ M (all.take m) (fun tm h => vcTail P Θ M (all.drop m) pend K ⟨N, tm, h⟩) (pre M all tm0 vs m) h0
  tail : q ≠ 0 → ∃ tq, (∀ t, get tq t = get (txt all tm0 vs (m + q)) t) ∧ vcTail P Θ M (all.drop (m + q)) pend K ⟨N, tq, hq⟩
  pendf : ∀ h, obl h pend → ∀ (j : Nat) (o : Oper), j < m → all[j]? = some o → ob.contains j = true → isLoad o.op = true → Fact P Θ M all N h (pre M all tm0 vs j) o (vs j)
end sim

section steps
variable {P : Program} {Θ : Types} {M : List Nat} {all : List Oper} {m N : Nat} {nm : Nat → Nat} {h0 : Heap} {tm0 : Tm} {ob : List Nat} {pend : Pend} {K : St → Prop}
variable {q : Nat} {ls : Nat → Bool} {vs : Nat → AV} {hq : Heap} {φ : Names} {w : World} {a : Act}

/-- What an operation looks at is as in the order of the text. -/
theorem Sim.look (D : Drawn all m M) (s : Sim P Θ M all m N h0 tm0 ob pend K nm q ls vs hq φ w a) {i : Nat} {o : Oper} (hi : all[i]? = some o) (hl : ls i = false)
    (hr : ∀ e ∈ o.after, Region.binds .any e = true → ls e.on = true) {t : Nat} (ht : t ∈ looks all o) : get (cur all tm0 ls vs all.length) t = get (txt all tm0 vs i) t := by
  have hil : i < all.length := (List.getElem?_eq_some_iff.1 hi).1
  rw [← cur_below (k := i) (vs := vs) all.length (by omega)]
  refine cur_agree _ fun j hj hd => ⟨?_, fun _ => rfl⟩
  have hjo : all[j]? = some all[j] := List.getElem?_eq_getElem hj
  have hd' : all[j].dst = some t := by simpa [dstOf, hjo] using hd
  by_cases hlt : j < i
  · have := D.look j i all[j] o t hlt hjo hi hd' ht
    rw [show decide (j < i) = true by simpa using hlt]
    simp only [aft, List.any_eq_true] at this
    obtain ⟨e, he, he2⟩ := this
    simp only [Bool.and_eq_true, beq_iff_eq] at he2
    have := hr e (by simpa using he) he2.2
    rwa [he2.1] at this
  · rw [show decide (j < i) = false by simpa using hlt]
    by_cases e : j = i
    · rw [e]; exact hl
    · have := D.look' i j o all[j] t (by omega) hi hjo hd' ht
      cases hlj : ls j with
      | false => rfl
      | true =>
        simp only [aft, List.any_eq_true] at this
        obtain ⟨e, he, he2⟩ := this
        simp only [Bool.and_eq_true, beq_iff_eq] at he2
        have := s.closed j _ hjo hlj e (by simpa using he) he2.2
        rw [he2.1, hl] at this
        cases this

/-- Ahead of the tail what an operation looks at has nothing to do with what new objects are called. -/
theorem look_pre (D : Drawn all m M) {i : Nat} {o : Oper} (hi : all[i]? = some o) (him : i < m) {t : Nat} (ht : t ∈ looks all o) (vs : Nat → AV) : get (txt all tm0 vs i) t = get (pre M all tm0 vs i) t := by
  refine cur_agree _ fun j hj hd => ⟨?_, fun _ => rfl⟩
  have hjl : j < all.length := Nat.lt_of_lt_of_le (Nat.lt_trans hj him) D.le
  have hjo : all[j]? = some all[j] := List.getElem?_eq_getElem hjl
  have hd' : all[j].dst = some t := by simpa [dstOf, hjo] using hd
  cases ha : isAlloc M all[j] with
  | false => simp [alAt, hjo, ha]
  | true => exact absurd ht (D.hid j i all[j] o t (by omega) (by omega) him hjo hi ha hd').1

theorem ev_pre (D : Drawn all m M) {i : Nat} {o : Oper} (hi : all[i]? = some o) (him : i < m) (vs : Nat → AV) : ∀ y ∈ o.op.operands, ev (pre M all tm0 vs i) y = ev (txt all tm0 vs i) y := by
  intro y hy
  cases y with
  | tmp t => exact (look_pre D hi him (t := t) (List.mem_append_left _ (List.mem_filterMap.2 ⟨.tmp t, by simpa using hy, rfl⟩)) vs).symm
  | _ => rfl

theorem Sim.ev (D : Drawn all m M) (s : Sim P Θ M all m N h0 tm0 ob pend K nm q ls vs hq φ w a) {i : Nat} {o : Oper} (hi : all[i]? = some o) (hl : ls i = false)
    (hr : ∀ e ∈ o.after, Region.binds .any e = true → ls e.on = true) : ∀ y ∈ o.op.operands, VR φ (own φ (Hc Θ M all m h0 nm q ls hq)) w (ev (txt all tm0 vs i) y) (a.eval y) := by
  intro y hy
  cases y with
  | tmp t =>
    have := s.look D hi hl hr (t := t) (List.mem_append_left _ (List.mem_filterMap.2 ⟨.tmp t, by simpa using hy, rfl⟩))
    have hv := s.tr.val t
    rw [this] at hv
    exact hv
  | const v => exact absV_VR _ _ _ v
  | func f => exact .clo f [] #[] rfl (by simp)
  | global g => exact .any _

/-- The slots when one operation more has run. -/
theorem cur_add (D : Drawn all m M) {ls : Nat → Bool} {vs vs' : Nat → AV} {i : Nat} {o : Oper} (hi : all[i]? = some o) (hl : ls i = false)
    (hclosed : ∀ (j : Nat) (o : Oper), all[j]? = some o → ls j = true → ∀ e ∈ o.after, Region.binds .any e = true → ls e.on = true)
    (hvs : ∀ j, j ≠ i → vs' j = vs j) (t : Nat) :
    get (cur all tm0 (fun j => ls j || j == i) vs' all.length) t = get (putA (cur all tm0 ls vs all.length) o.dst (vs' i)) t := by
  have hil : i < all.length := (List.getElem?_eq_some_iff.1 hi).1
  rw [get_putA]
  split
  · rename_i hd
    have e1 : get (cur all tm0 (fun j => ls j || j == i) vs' all.length) t = get (cur all tm0 (fun j => (ls j || j == i) && decide (j < i + 1)) vs' all.length) t := by
      refine cur_agree _ fun j hj hdj => ⟨?_, fun _ => rfl⟩
      by_cases hlt : j < i + 1
      · simp [hlt]
      · have hjo : all[j]? = some all[j] := List.getElem?_eq_getElem hj
        have hd' : all[j].dst = some t := by simpa [dstOf, hjo] using hdj
        have hb := D.both i j o all[j] t (by omega) hi hjo hd hd'
        have hlj : ls j = false := by
          cases hlj : ls j with
          | false => rfl
          | true =>
            simp only [aft, List.any_eq_true] at hb
            obtain ⟨e, he, he2⟩ := hb
            simp only [Bool.and_eq_true, beq_iff_eq] at he2
            have := hclosed j _ hjo hlj e (by simpa using he) he2.2
            rw [he2.1, hl] at this
            cases this
        have : (j == i) = false := by simp; omega
        simp [hlj, this]
    rw [e1]
    have below : ∀ k, i + 1 ≤ k → get (cur all tm0 (fun j => (ls j || j == i) && decide (j < i + 1)) vs' k) t = vs' i := by
      intro k
      induction k with
      | zero => intro h; omega
      | succ k ih =>
        intro h
        by_cases e : k = i
        · subst e
          simp only [cur]
          rw [if_pos (by simp), get_putA, if_pos (by simpa [dstOf, hi] using hd)]
        · simp only [cur]
          rw [if_neg (by simp; omega)]
          exact ih (by omega)
    exact below _ hil
  · rename_i hd
    refine cur_agree _ fun j hj hdj => ?_
    by_cases e : j = i
    · subst e
      exact absurd (by simpa [dstOf, hi] using hdj) hd
    · have : (j == i) = false := by simpa using e
      simp [this, hvs j e]

theorem tl_add {i : Nat} (him : i < m) (tl : ∀ i, m ≤ i → i < all.length → (ls i = true ↔ i < m + q)) : ∀ j, m ≤ j → j < all.length → ((ls j || j == i) = true ↔ j < m + q) := by
  intro j hj hjl
  have : (j == i) = false := by simp; omega
  rw [this, Bool.or_false]
  exact tl j hj hjl

theorem closed_add {i : Nat} {o : Oper} (hi : all[i]? = some o) (hr : ∀ e ∈ o.after, Region.binds .any e = true → ls e.on = true)
    (hc : ∀ (j : Nat) (o : Oper), all[j]? = some o → ls j = true → ∀ e ∈ o.after, Region.binds .any e = true → ls e.on = true) :
    ∀ (j : Nat) (o : Oper), all[j]? = some o → (ls j || j == i) = true → ∀ e ∈ o.after, Region.binds .any e = true → (ls e.on || e.on == i) = true := by
  intro j o' hj hl e he hb
  rw [Bool.or_eq_true] at hl ⊢
  left
  rcases hl with hl | hl
  · exact hc j o' hj hl e he hb
  · have : j = i := by simpa using hl
    subst this
    rw [hi] at hj
    cases hj
    exact hr e he hb

/-- One operation ahead of the tail has run. -/
theorem Sim.pre (D : Drawn all m M) (s : Sim P Θ M all m N h0 tm0 ob pend K nm q ls vs hq φ w a) {i : Nat} {o : Oper} (hi : all[i]? = some o) (him : i < m) (hl : ls i = false)
    (hr : ∀ e ∈ o.after, Region.binds .any e = true → ls e.on = true) (hd : o.dst.all (· < N) = true) (ha : isAlloc M o = false) {φ' : Names} {w' : World} {x : Value} (e1 : Ext φ φ')
    (e2 : Keeps (own φ (Hc Θ M all m h0 nm q ls hq)) w (own φ' (Hc Θ M all m h0 nm q ls hq)) w') (e3 : HR φ' w' (Hc Θ M all m h0 nm q ls hq)) (e4 : VR φ' (own φ' (Hc Θ M all m h0 nm q ls hq)) w' (vs i) x) :
    Sim P Θ M all m N h0 tm0 ob pend K nm q (fun j => ls j || j == i) vs hq φ' w' (a.put o.dst x) ∧ Hc Θ M all m h0 nm q (fun j => ls j || j == i) hq = Hc Θ M all m h0 nm q ls hq := by
  have hnot : ∀ j, alAt M all j = true → (ls j || j == i) = true → ls j = true := by
    intro j hj h
    rw [Bool.or_eq_true] at h
    rcases h with h | h
    · exact h
    · have : j = i := by simpa using h
      subst this
      simp [alAt, hi, ha] at hj
  have hH : Hc Θ M all m h0 nm q (fun j => ls j || j == i) hq = Hc Θ M all m h0 nm q ls hq := by
    unfold Hc
    split
    · refine hpA_congr m fun j hj o' ho' ha' => ?_
      have : j ≠ i := by rintro rfl; rw [hi] at ho'; cases ho'; rw [ha] at ha'; cases ha'
      simp [this]
    · rfl
  refine ⟨⟨s.qle, tl_add him s.tl, closed_add hi hr s.closed, ?_, ?_, ?_, ?_, by rw [hH]; exact e3, ?_, s.tail0, s.tail, s.pendf⟩, hH⟩
  · intro hq j o' hj ho' ha'
    rw [s.allocs hq j o' hj ho' ha', Bool.true_or]
  · intro j hj h1 h2
    exact s.names j hj h1 (hnot j h1 h2)
  · intro j k hj hk h1 h2 h3 h4
    exact s.apart j k hj hk h1 h2 (hnot j h1 h3) (hnot k h2 h4)
  · intro j o' hj ho' hl'
    rw [Bool.or_eq_false_iff] at hl'
    rw [hH]
    exact s.facts j o' hj ho' hl'.1
  · rw [hH]
    have T := ((s.tr.mono e1 e2).putA hd e4)
    exact ⟨T.defers, T.size, fun t => by rw [cur_add D hi hl s.closed (fun _ _ => rfl) t]; exact T.val t⟩

/-- A new object ahead of the tail. -/
theorem Sim.alloc (D : Drawn all m M) (s : Sim P Θ M all m N h0 tm0 ob pend K nm q ls vs hq φ w a) {i : Nat} {o : Oper} (hi : all[i]? = some o) (him : i < m) (hl : ls i = false)
    (hr : ∀ e ∈ o.after, Region.binds .any e = true → ls e.on = true) (hd : o.dst.all (· < N) = true) (ha : isAlloc M o = true) {t : TypeId} {d : TD} (ho : o.op = .alloc t) (hdt : Θ t = some d) (hk : (absV d.zero).known = true) :
    ∃ n φ', Ext φ φ' ∧ Sim P Θ M all m N h0 tm0 ob pend K (fun j => if j = i then n else nm j) q (fun j => ls j || j == i) (fun j => if j = i then .ptr n 0 else vs j) hq φ' (w.alloc (.cells d.zero.cells t)) (a.put o.dst (.pointer (some ⟨w.heap.size, 0, none⟩))) ∧
      Keeps (own φ (Hc Θ M all m h0 nm q ls hq)) w (own φ' (Hc Θ M all m h0 (fun j => if j = i then n else nm j) q (fun j => ls j || j == i) hq)) (w.alloc (.cells d.zero.cells t)) := by
  have hq0 : q = 0 := by
    rcases Nat.eq_zero_or_pos q with h | h
    · exact h
    · have := s.allocs (by omega) i o him hi ha
      rw [hl] at this
      cases this
  subst hq0
  have hHc : Hc Θ M all m h0 nm 0 ls hq = hpA Θ M all nm h0 ls m := rfl
  have hsub : subH h0 (hpA Θ M all nm h0 ls m) := by
    have hm : hpA Θ M all nm h0 ls m = hpA Θ M all nm h0 (fun j => ls j && decide (j < m)) m := by
      refine hpA_congr m fun j hj _ _ _ => ?_
      simp [hj]
    rw [hm]
    refine hpA_sub (fun j o' ho' ha' hlj => ?_) m
    rw [Bool.and_eq_true, decide_eq_true_eq] at hlj
    exact (s.names j hlj.2 (by simp [alAt, ho', ha']) hlj.1).1
  obtain ⟨n, hφ, hn⟩ := s.hr.fresh
  have hn0 : h0 n = none := by
    cases hx : h0 n with
    | none => rfl
    | some x => rw [hHc, hsub n x hx] at hn; cases hn
  have hne : ∀ (j : Nat) (o' : Oper), j < m → all[j]? = some o' → isAlloc M o' = true → ls j = true → nm j ≠ n := by
    intro j o' hj ho' ha' hlj e
    have hin : (hpA Θ M all nm h0 ls m (nm j)).isSome = true := by
      have aux : ∀ k, j < k → k ≤ m → (hpA Θ M all nm h0 ls k (nm j)).isSome = true := by
        intro k
        induction k with
        | zero => intro h; omega
        | succ k ih =>
          intro h1 h2
          by_cases ejk : j = k
          · subst ejk
            simp [hpA, ho', ha', hlj, upd_same]
          · have := ih (by omega) (by omega)
            cases hok : all[k]? with
            | none => simpa [hpA, hok] using this
            | some ok =>
              simp only [hpA, hok]
              split
              · by_cases ee : nm j = nm k
                · rw [ee]; simp [upd_same]
                · rw [upd_ne _ _ ee]; exact this
              · exact this
      exact aux m hj (Nat.le_refl _)
    rw [e] at hin
    rw [hHc] at hn
    rw [hn] at hin
    cases hin
  have hadd : hpA Θ M all (fun j => if j = i then n else nm j) h0 (fun j => ls j || j == i) m = upd (hpA Θ M all nm h0 ls m) n (some (obA Θ o)) := by
    have e1 : hpA Θ M all nm h0 ls m = hpA Θ M all nm h0 (fun j => ls j && decide (j < m)) m := hpA_congr m fun j hj _ _ _ => by simp [hj]
    have e2 : hpA Θ M all (fun j => if j = i then n else nm j) h0 (fun j => ls j || j == i) m = hpA Θ M all (fun j => if j = i then n else nm j) h0 (fun j => (ls j && decide (j < m)) || j == i) m := hpA_congr m fun j hj _ _ _ => by simp [hj]
    rw [e1, e2]
    have := hpA_add (Θ := Θ) (M := M) (all := all) (nm := nm) (nm' := fun j => if j = i then n else nm j) (h0 := h0) (ls := fun j => ls j && decide (j < m)) (i := i) (o := o) hi ha (by simp [hl]) (fun j hj => if_neg hj) (fun j o' ho' ha' hlj => by
      rw [Bool.and_eq_true, decide_eq_true_eq] at hlj
      rw [if_pos rfl]
      exact hne j o' hlj.2 ho' ha' hlj.1) m him
    rw [if_pos rfl] at this
    exact this
  have hob : obA Θ o = ⟨(absV d.zero).flat, t, (absV d.zero).flat.length, true⟩ := by simp [obA, ho, hdt]
  obtain ⟨H', hkeep⟩ := HR.newAt (t := t) s.hr hφ hn (absV_VR φ (own φ (Hc Θ M all m h0 nm 0 ls hq)) w d.zero) hk
  rw [← hob] at H' hkeep
  rw [hHc] at hkeep
  have hH2 : Hc Θ M all m h0 (fun j => if j = i then n else nm j) 0 (fun j => ls j || j == i) hq = upd (hpA Θ M all nm h0 ls m) n (some (obA Θ o)) := hadd
  refine ⟨n, _, Ext.bind1 hφ _, ?_, by rw [hH2, hHc]; exact hkeep⟩
  have hpre : ∀ k, Par.pre M all tm0 (fun j => if j = i then .ptr n 0 else vs j) k = Par.pre M all tm0 vs k := fun k => pre_congr k fun j _ hj => if_neg (by rintro rfl; simp [alAt, hi, ha] at hj)
  have hcase : ∀ j, (ls j || j == i) = true → j ≠ i → ls j = true := by
    intro j h hji
    rw [Bool.or_eq_true] at h
    rcases h with h | h
    · exact h
    · exact absurd (by simpa using h) hji
  refine ⟨s.qle, tl_add him s.tl, closed_add hi hr s.closed, fun h => absurd rfl h, ?_, ?_, ?_, by rw [hH2]; exact H', ?_, ?_, fun h => absurd rfl h, ?_⟩
  · intro j hj h1 h2
    by_cases e : j = i
    · simp only [if_pos e]; exact ⟨hn0, trivial⟩
    · simp only [if_neg e]; exact s.names j hj h1 (hcase j h2 e)
  · intro j k hj hk' h1 h2 h3 h4 he
    by_cases e : j = i
    · by_cases e' : k = i
      · rw [e, e']
      · simp only [if_pos e, if_neg e'] at he
        have hkl : k < all.length := Nat.lt_of_lt_of_le hk' D.le
        have hko : all[k]? = some all[k] := List.getElem?_eq_getElem hkl
        exact absurd he.symm (hne k all[k] hk' hko (by simpa [alAt, hko] using h2) (hcase k h4 e'))
    · by_cases e' : k = i
      · simp only [if_neg e, if_pos e'] at he
        have hjl : j < all.length := Nat.lt_of_lt_of_le hj D.le
        have hjo : all[j]? = some all[j] := List.getElem?_eq_getElem hjl
        exact absurd he (hne j all[j] hj hjo (by simpa [alAt, hjo] using h1) (hcase j h3 e))
      · simp only [if_neg e, if_neg e'] at he
        exact s.apart j k hj hk' h1 h2 (hcase j h3 e) (hcase k h4 e') he
  · intro j o' hj ho' hl'
    rw [Bool.or_eq_false_iff] at hl'
    have hji : j ≠ i := by rintro rfl; simp at hl'
    rw [hpre, if_neg hji, hH2]
    have := s.facts j o' hj ho' hl'.1
    rw [hHc] at this
    refine this.sub ?_
    intro o2 x hx
    have : o2 ≠ n := by rintro rfl; rw [hHc] at hn; rw [hn] at hx; cases hx
    rw [upd_ne _ _ this]
    exact hx
  · rw [hH2]
    have T := ((s.tr.mono (Ext.bind1 hφ _) (by rw [hHc]; exact hkeep)).putA hd (VR.ptr (φ := bind1 φ n (.blk w.heap.size 1)) (B := own (bind1 φ n (.blk w.heap.size 1)) (upd (hpA Θ M all nm h0 ls m) n (some (obA Θ o)))) (w := w.alloc (.cells d.zero.cells t)) n 0 w.heap.size 1 (bind1_same _ _ _)))
    refine ⟨T.defers, T.size, fun t => ?_⟩
    rw [cur_add D hi hl s.closed (vs' := fun j => if j = i then .ptr n 0 else vs j) (fun j hj => if_neg hj) t, if_pos rfl]
    exact T.val t
  · intro _
    rw [hpre]
    exact s.tail0 rfl
  · intro h hob' j o' hj ho' hc hld
    rw [hpre]
    have hji : j ≠ i := by rintro rfl; rw [hi] at ho'; cases ho'; rw [ho] at hld; cases hld
    rw [if_neg hji]
    exact s.pendf h hob' j o' hj ho' hc hld

end steps
end Go.Par
