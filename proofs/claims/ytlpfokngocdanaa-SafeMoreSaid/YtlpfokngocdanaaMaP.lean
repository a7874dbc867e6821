/- A region that draws its order: the rule. -/
import Derived.Test.YtlpfokngocdanaaMaO
set_option linter.unusedSimpArgs false
namespace Go.Par

section steps
variable {P : Program} {Θ : Types} {M : List Nat} {all : List Oper} {m N : Nat} {h0 : Heap} {tm0 : Tm} {ob : List Nat} {pend : Pend} {K : St → Prop} {nm : Nat → Nat} {obs : Nat → Ob}
variable {q : Nat} {ls : Nat → Bool} {vs : Nat → AV} {hq : Heap} {φ : Names} {w : World} {a : Act}

theorem Sim.atTail (s : Sim P Θ M all m N h0 tm0 ob pend K nm obs q ls vs hq φ w a) (hall : ∀ i, i < m → alAt M all i = true → ls i = true) :
    ∃ tq, (∀ t, get tq t = get (txt all tm0 vs (m + q)) t) ∧ vcTail P Θ M (all.drop (m + q)) pend K ⟨N, tq, Hc M all m h0 nm obs q ls hq⟩ := by
  by_cases hq0 : q = 0
  · subst hq0
    have h1 : hpA M all nm obs h0 ls m = hpA M all nm obs h0 (fun _ => true) m := hpA_congr m fun j hj ha => by
      simp [hall j hj ha]
    refine ⟨_, fun t => rfl, ?_⟩
    simp only [Hc, if_true, h1]
    exact s.tail0 rfl
  · obtain ⟨tq, h1, h2⟩ := s.tail hq0
    refine ⟨tq, h1, ?_⟩
    simp only [Hc, if_neg hq0]
    exact h2

theorem vcOp_quiet {ρ : Operand → AV} {h : Heap} {o : Oper} {k : AV → Heap → Prop} (he : effOp M o = false) (hp : vcOp P Θ M ρ h o.dst o.op k) : pOp P Θ ρ h o.op fun v => k v h := by
  unfold effOp at he
  generalize o.op = op at he hp
  cases op with
  | box t x => simp only at he; simp only [vcOp, he, Bool.false_eq_true, if_false] at hp; exact hp
  | alloc t => simp only at he; simp only [vcOp, he, Bool.false_eq_true, if_false] at hp; exact hp
  | makeSlice t l c => simp only at he; simp only [vcOp, he, Bool.false_eq_true, if_false] at hp; exact hp
  | buildSlice t n ps => simp only at he; simp only [vcOp, he, Bool.false_eq_true, if_false] at hp; exact hp
  | store t x y => cases he
  | call c =>
    simp only at he
    simp only [vcOp] at hp
    split at hp
    · rename_i f hc; rw [hc] at he; cases he
    · rename_i r name hc; rw [hc] at he; cases he
    · rename_i hc; rw [hc] at he; cases he
    · exact hp
  | makeFunc f x c => cases f <;> exact hp
  | _ => exact hp

theorem Sim.tailStep (hΘ : Θ.ok P) (D : Drawn all m M) (hlo : loadsOK all m M ob 0 all = true) (s : Sim P Θ M all m N h0 tm0 ob pend K nm obs q ls vs hq φ w a) {o : Oper} (hi : all[m + q]? = some o) (hl : ls (m + q) = false)
    (hr : ∀ e ∈ o.after, Region.binds .any e = true → ls e.on = true) (next : Act → World → Prop) (Q : Exit → Act → World → Prop)
    (hn : ∀ φ' w' x hq' vs', Ext φ φ' → Keeps (own φ (Hc M all m h0 nm obs q ls hq)) w (own φ' hq') w' → Sim P Θ M all m N h0 tm0 ob pend K nm obs (q + 1) (fun j => ls j || j == m + q) vs' hq' φ' w' (a.put o.dst x) → next (a.put o.dst x) w') :
    o.guard = none ∧ o.wp P a w next Q := by
  have hil : m + q < all.length := (List.getElem?_eq_some_iff.1 hi).1
  have hall : ∀ i, i < m → alAt M all i = true → ls i = true := by
    intro i him hal
    by_cases hq0 : q = 0
    case neg => exact s.allocs hq0 i him hal
    have hilt : i < all.length := by omega
    have hio : all[i]? = some all[i] := List.getElem?_eq_getElem hilt
    have := D.alloc i (m + q) all[i] o (by omega) hio hi (by simpa [alAt, hio] using hal) (by omega)
    simp only [aft, List.any_eq_true] at this
    obtain ⟨e, he, he2⟩ := this
    simp only [Bool.and_eq_true, beq_iff_eq] at he2
    have := hr e (by simpa using he) he2.2
    rwa [he2.1] at this
  obtain ⟨tq, ht, hv⟩ := s.atTail hall
  have hdrop : all.drop (m + q) = o :: all.drop (m + q + 1) := by
    rw [List.drop_eq_getElem_cons hil]
    congr 1
    simpa [List.getElem?_eq_getElem hil] using hi
  rw [hdrop] at hv
  obtain ⟨hd, hg, hv⟩ := hv
  refine ⟨hg, ?_⟩
  have hev : ∀ y ∈ o.op.operands, VR φ (own φ (Hc M all m h0 nm obs q ls hq)) w (Par.ev tq y) (a.eval y) := by
    intro y hy
    have := s.ev D hi hl hr y hy
    cases y with
    | tmp t => simp only [Par.ev] at this ⊢; rw [ht t]; exact this
    | _ => exact this
  refine vcOp_run (M := M) (ρ := Par.ev tq) hΘ s.hr hev hv next Q ?_
  intro φ' h' w' x v e1 e2 e3 e4 hk
  obtain ⟨hobl, hk⟩ := hk
  have hpre : ∀ k, k ≤ m → txt all tm0 (fun j => if j = m + q then v else vs j) k = txt all tm0 vs k := fun k hk => txt_congr k fun j hj => if_neg (by omega)
  refine hn φ' w' x h' (fun j => if j = m + q then v else vs j) e1 e2 ?_
  have hH : Hc M all m h0 nm obs (q + 1) (fun j => ls j || j == m + q) h' = h' := by simp [Hc]
  refine ⟨by omega, ?_, closed_add hi hr s.closed, ?_, ?_, ?_, by rw [hH]; exact e3, ?_, fun h => by omega, ?_, ?_⟩
  · intro j hj hjl
    by_cases e : j = m + q
    · subst e; simp
    · have : (j == m + q) = false := by simpa using e
      rw [this, Bool.or_false, s.tl j hj hjl]
      omega
  · intro _ j hj ha'
    rw [hall j hj ha', Bool.true_or]
  · intro j hj h1 h2
    rw [hall j hj h1] at h2
    cases h2
  · intro j o' hj ho' hl'
    rw [Bool.or_eq_false_iff] at hl'
    rw [hH, hpre j (by omega)]
    rw [if_neg (by omega)]
    have hf := s.facts j o' hj ho' hl'.1
    cases hf with
    | skip hd ha j' want hg t ht htn hb hv => exact .skip hd ha j' want hg t ht htn hb hv
    | alloc hd ha hg hok hv hob => exact .alloc hd ha hg hok hv hob
    | pure hd' ha' hg' hp' =>
      cases hld : isLoad o'.op with
      | false => exact .pure hd' ha' hg' (pOp_noload hld hp')
      | true =>
        cases heff : effOp M o with
        | false =>
          rw [heff] at hobl
          simp only [Bool.false_eq_true, if_false] at hobl
          rw [hobl]
          exact .pure hd' ha' hg' hp'
        | true =>
          rw [heff] at hobl
          simp only [if_true] at hobl
          cases hob : ob.contains j with
          | true => exact s.pendf h' hobl j o' hj ho' hob hld
          | false =>
            have := loadsOK_spec all 0 hlo j o' ho' (by omega) hld (by rw [Nat.zero_add]; exact hob) o (by
              rw [List.mem_iff_getElem?]
              exact ⟨q, by rw [List.getElem?_drop]; exact hi⟩) heff
            rw [Nat.zero_add] at this
            simp only [aft, List.any_eq_true] at this
            obtain ⟨e, he, he2⟩ := this
            simp only [Bool.and_eq_true, beq_iff_eq] at he2
            have := hr e (by simpa using he) he2.2
            rw [he2.1, hl'.1] at this
            cases this
  · rw [hH]
    have T := ((s.tr.mono e1 e2).putA hd e4)
    refine ⟨T.defers, T.size, fun t => ?_⟩
    rw [cur_add D hi hl s.closed (vs' := fun j => if j = m + q then v else vs j) (fun j hj => if_neg hj) t, if_pos rfl]
    exact T.val t
  · intro _
    refine ⟨putA tq o.dst v, fun t => ?_, hk⟩
    have e5 : txt all tm0 (fun j => if j = m + q then v else vs j) (m + q) = txt all tm0 vs (m + q) := txt_congr _ fun j hj => if_neg (by omega)
    have e6 : txt all tm0 (fun j => if j = m + q then v else vs j) (m + (q + 1)) = putA (txt all tm0 vs (m + q)) o.dst v := by
      rw [← Nat.add_assoc]
      simp only [txt, cur, if_true] at e5 ⊢
      rw [e5]
      simp [dstOf, hi]
    rw [e6, get_putA, get_putA, ht t]
  · intro h hob' j o' hj ho' hc hld
    rw [hpre j (by omega)]
    rw [if_neg (by omega)]
    exact s.pendf h hob' j o' hj ho' hc hld
end steps

/-- How many have not run yet. -/
def todo (n : Nat) (ls : Nat → Bool) : Nat := ((List.range n).filter fun i => !ls i).length

theorem todo_add {n : Nat} {ls : Nat → Bool} {i : Nat} (hi : i < n) (hl : ls i = false) : todo n (fun j => ls j || j == i) < todo n ls := by
  have hsub : ((List.range n).filter fun j => !(ls j || j == i)) = ((List.range n).filter fun j => !ls j).filter fun j => !(j == i) := by
    rw [List.filter_filter]
    congr 1
    funext j
    cases ls j <;> cases (j == i) <;> rfl
  unfold todo
  rw [hsub]
  refine List.length_filter_lt_length_iff_exists.2 ⟨i, ?_, by simp⟩
  rw [List.mem_filter]
  exact ⟨List.mem_range.2 hi, by simp [hl]⟩

theorem todo_zero {n : Nat} {ls : Nat → Bool} (h : todo n ls = 0) : ∀ i, i < n → ls i = true := by
  intro i hi
  cases hl : ls i with
  | true => rfl
  | false =>
    have := List.eq_nil_of_length_eq_zero h
    have h2 : i ∈ ((List.range n).filter fun i => !ls i) := List.mem_filter.2 ⟨List.mem_range.2 hi, by simp [hl]⟩
    rw [this] at h2
    cases h2

theorem draw_any {P : Program} {Θ : Types} {M : List Nat} (hΘ : Θ.ok P) {ops : Array Oper} {m N : Nat} {ob : List Nat} {pend : Pend} {K : St → Prop} {Q : Exit → St → Prop} (hK : ∀ S, K S → Q .normal S) (D : Drawn ops.toList m M) (hlo : loadsOK ops.toList m M ob 0 ops.toList = true)
    {h0 : Heap} {tm0 : Tm} {φ0 : Names} {w0 : World} {nm : Nat → Nat} {obs : Nat → Ob} (hn0 : ∀ i, i < m → alAt M ops.toList i = true → h0 (nm i) = none) (hinj : ∀ i j, i < m → j < m → nm i = nm j → i = j) (hφ0 : ∀ i, i < m → φ0 (nm i) = none) : ∀ (fuel : Nat) (listed : Array Bool) (q : Nat) (ls : Nat → Bool) (vs : Nat → AV) (hq : Heap) (φ : Names) (w : World) (a : Act),
      Sim P Θ M ops.toList m N h0 tm0 ob pend K nm obs q ls vs hq φ w a → listed.size = ops.size → (∀ i, i < ops.size → listed.getD i false = ls i) → (∀ i, ops.size ≤ i → ls i = false) → todo ops.size ls ≤ fuel →
      Ext φ0 φ → Keeps (own φ0 h0) w0 (own φ (Hc M ops.toList m h0 nm obs q ls hq)) w → wpAny P .any ops (Lift φ0 h0 w0 N Q) fuel listed a w := by
  have hlen : ops.toList.length = ops.size := by simp
  -- when nothing is ready, all has run
  have fin : ∀ (listed : Array Bool) (q : Nat) (ls : Nat → Bool) (vs : Nat → AV) (hq : Heap) (φ : Names) (w : World) (a : Act),
      Sim P Θ M ops.toList m N h0 tm0 ob pend K nm obs q ls vs hq φ w a → (∀ i, i < ops.size → ls i = true) →
      Ext φ0 φ → Keeps (own φ0 h0) w0 (own φ (Hc M ops.toList m h0 nm obs q ls hq)) w → Lift φ0 h0 w0 N Q .normal a w := by
    intro listed q ls vs hq φ w a s hall e1 e2
    obtain ⟨tq, ht, hv⟩ := s.atTail (fun i hi _ => hall i (by have := D.le; omega))
    have hqe : m + q = ops.toList.length := by
      rcases Nat.lt_or_ge (m + q) ops.toList.length with h | h
      · have := (s.tl (m + q) (by omega) h).1 (hall _ (by omega))
        omega
      · have := s.qle; omega
    rw [hqe, List.drop_length] at hv
    refine ⟨φ, ⟨N, tq, _⟩, e1, e2, s.hr, rfl, ⟨s.tr.defers, s.tr.size, fun t => ?_⟩, hK _ hv⟩
    have := s.tr.val t
    have e3 : get (cur ops.toList tm0 ls vs ops.toList.length) t = get tq t := by
      rw [ht t, hqe]
      exact cur_agree _ fun j hj _ => ⟨hall j (by omega), fun _ => rfl⟩
    rw [e3] at this
    exact this
  intro fuel
  induction fuel with
  | zero =>
    intro listed q ls vs hq φ w a s hsz hls hout htodo e1 e2
    have hall := todo_zero (Nat.le_zero.1 htodo)
    refine ⟨?_, fin listed q ls vs hq φ w a s hall e1 e2⟩
    unfold Region.ready
    rw [List.filter_eq_nil_iff]
    intro i hi
    have hi' : i < ops.size := List.mem_range.1 hi
    have h1 := hls i hi'
    rw [hall i hi'] at h1
    have : listed.getD i true = true := by
      have hl : i < listed.size := by omega
      simp [hl] at h1 ⊢
      exact h1
    simp [this]
  | succ fuel ih =>
    intro listed q ls vs hq φ w a s hsz hls hout htodo e1 e2
    have hready : ∀ i, i ∈ Region.ready .any ops listed ↔ i < ops.size ∧ ls i = false ∧ ∃ o, ops[i]? = some o ∧ ∀ e ∈ o.after, Region.binds .any e = true → ls e.on = true := by
      intro i
      rw [mem_ready]
      have conv : ∀ j, listed.getD j false = true ↔ ls j = true := by
        intro j
        rcases Nat.lt_or_ge j ops.size with h | h
        · rw [hls j h]
        · rw [hout j h]
          simp [Array.getElem?_eq_none (show listed.size ≤ j by omega)]
      constructor
      · rintro ⟨h1, o, ho, h2⟩
        have hil : i < ops.size := (Array.getElem?_eq_some_iff.1 ho).1
        refine ⟨hil, ?_, o, ho, fun e he hb => (conv e.on).1 (h2 e he hb)⟩
        have hl : i < listed.size := by omega
        rw [← hls i hil]
        simp [hl] at h1 ⊢
        exact h1
      · rintro ⟨hil, h1, o, ho, h2⟩
        refine ⟨?_, o, ho, fun e he hb => (conv e.on).2 (h2 e he hb)⟩
        have hl : i < listed.size := by omega
        rw [← hls i hil] at h1
        simp [hl] at h1 ⊢
        exact h1
    refine ⟨fun hnil => ?_, fun i hi => ?_⟩
    · refine fin listed q ls vs hq φ w a s ?_ e1 e2
      -- the first that has not run would be ready
      intro i
      induction i using Nat.strongRecOn with
      | _ i ihi =>
        intro hil
        cases hl : ls i with
        | true => rfl
        | false =>
          have : i ∈ Region.ready .any ops listed := by
            rw [hready]
            have hio : ops[i]? = some ops[i] := Array.getElem?_eq_getElem hil
            refine ⟨hil, hl, ops[i], hio, fun e he hb => ?_⟩
            have := D.edge i ops[i] (by simp) e he hb
            exact ihi e.on this (by omega)
          rw [hnil] at this
          cases this
    · rw [hready] at hi
      obtain ⟨hil, hl, o, ho, hr⟩ := hi
      have ho' : ops.toList[i]? = some o := by simpa using ho
      have hlist : ∀ j, j < ops.size → (listed.setIfInBounds i true).getD j false = (ls j || j == i) := by
        intro j hj
        by_cases e : j = i
        · subst e
          have hl2 : j < listed.size := by omega
          simp [hl2]
        · rw [getD_set_ne false (Ne.symm e), hls j hj]
          have : (j == i) = false := by simpa using e
          rw [this, Bool.or_false]
      have hout' : ∀ j, ops.size ≤ j → (ls j || j == i) = false := by
        intro j hj
        rw [hout j hj]
        simp
        omega
      have htodo' : todo ops.size (fun j => ls j || j == i) ≤ fuel := by
        have := todo_add hil hl
        omega
      unfold wpOp
      simp only [ho]
      by_cases him : i < m
      · have hf := s.facts i o him ho' hl
        cases hf with
        | pure hd ha hg hp =>
          have hwant : Region.wanted o (yielded ops a.tmps) = true := by
            cases hgd : o.guard with
            | none => simp [Region.wanted, hgd]
            | some jw =>
              obtain ⟨j, want⟩ := jw
              obtain ⟨t, ht, htn, hb⟩ := hg j want hgd
              have hlk : t ∈ looks ops.toList o := by
                unfold looks
                rw [hgd]
                exact List.mem_append_right _ (by simp [ht])
              have h1 := s.look D ho' hl hr hlk
              rw [hb] at h1
              have := yielded_of (ops := ops) s.tr ht h1 htn
              simp [Region.wanted, hgd, this]
          rw [if_pos hwant]
          left
          have hev : ∀ y ∈ o.op.operands, VR φ (own φ (Hc M ops.toList m h0 nm obs q ls hq)) w (ev (txt ops.toList tm0 vs i) y) (a.eval y) := s.ev D ho' hl hr
          refine pOp_run hΘ s.hr hev hp _ _ ?_
          intro φ' w' x f1 f2 f3 f4
          obtain ⟨s', hH⟩ := s.pre D ho' him hl hr hd ha f1 f2 f3 f4
          exact ih _ q _ vs hq φ' w' _ s' (by simp [hsz]) hlist hout' htodo' (e1.trans f1) (by rw [hH]; exact e2.trans f2)
        | skip hd ha j want hgd t ht htn hb hv =>
          have hlk : t ∈ looks ops.toList o := by
            unfold looks
            rw [hgd]
            exact List.mem_append_right _ (by simp [ht])
          have h1 := s.look D ho' hl hr hlk
          have hwant : Region.wanted o (yielded ops a.tmps) = false := by
            rcases hb with hb | ⟨cs, hb⟩
            · rw [hb] at h1
              have hy := yielded_of (ops := ops) s.tr ht h1 htn
              simp [Region.wanted, hgd, hy]
            · rw [hb] at h1
              have hy := yielded_none (ops := ops) s.tr ht h1 htn
              simp [Region.wanted, hgd, hy]
          rw [if_neg (by simp [hwant])]
          obtain ⟨s', hH⟩ := s.pre D ho' him hl hr hd ha (Ext.refl φ) (Keeps.refl _ w) s.hr (x := undef) (by rw [hv]; exact VR.und _ _ _)
          exact ih _ q _ vs hq φ w _ s' (by simp [hsz]) hlist hout' htodo' e1 (by rw [hH]; exact e2)
        | alloc hd ha hg hok hv hob =>
          rw [if_pos (by simp [Region.wanted, hg])]
          left
          obtain ⟨w', X, l, hrun, hnew⟩ := mk_run hΘ s.hr ha hok (s.ev D ho' hl hr)
          rw [← hob] at hnew
          obtain ⟨s', f2⟩ := s.alloc D hn0 hinj ho' him hl hr hd ha (w' := w') (X := X) (l := l) (fun h1 h2 => by rw [hv]; exact hnew (nm i) h1 h2)
          unfold Oper.wp
          rw [hrun]
          exact ih _ q _ vs hq _ _ _ s' (by simp [hsz]) hlist hout' htodo' (fun o' l' h => by
            have hne : o' ≠ nm i := by rintro rfl; rw [hφ0 i him] at h; cases h
            rw [bind1_ne _ _ hne]
            exact e1 o' l' h) (e2.trans f2)
      · have hiq : i = m + q := by
          rcases Nat.lt_trichotomy i (m + q) with h | h | h
          · have := (s.tl i (by omega) (by omega)).2 h
            rw [hl] at this
            cases this
          · exact h
          · have hlt : m + q < ops.toList.length := by omega
            have hqo : ops.toList[m + q]? = some ops.toList[m + q] := List.getElem?_eq_getElem hlt
            have := D.tail (m + q) i ops.toList[m + q] o h hqo ho' (by omega)
            simp only [aft, List.any_eq_true] at this
            obtain ⟨e, he, he2⟩ := this
            simp only [Bool.and_eq_true, beq_iff_eq] at he2
            have := hr e (by simpa using he) he2.2
            rw [he2.1] at this
            have := (s.tl (m + q) (by omega) hlt).1 this
            omega
        subst hiq
        have step := fun next Q hn => s.tailStep hΘ D hlo ho' hl hr next Q hn
        obtain ⟨hg, hwp⟩ := step (wpAny P .any ops (Lift φ0 h0 w0 N Q) fuel (listed.setIfInBounds (m + q) true)) (Lift φ0 h0 w0 N Q) (by
          intro φ' w' x hq' vs' f1 f2 s'
          refine ih _ (q + 1) _ vs' hq' φ' w' _ s' (by simp [hsz]) hlist hout' htodo' (e1.trans f1) ?_
          have : Hc M ops.toList m h0 nm obs (q + 1) (fun j => ls j || j == m + q) hq' = hq' := by simp [Hc]
          rw [this]
          exact e2.trans f2)
        rw [if_pos (by simp [Region.wanted, hg])]
        exact .inl hwp

/-- Names kept for objects to come. -/
def keep (φ : Names) (F m : Nat) : Names := fun o => if F ≤ o ∧ o < F + m then some .res else φ o

theorem AW.draw {P : Program} {Θ : Types} (M : List Nat) (m : Nat) (ob : List Nat) (hΘ : Θ.ok P) {ops : Array Oper} {id : Nat} {Q : Exit → St → Prop} {S : St} (hm : P.follows .mixedOrders = true)
    (hok : drawOK ops.toList m M = true) (hlo : loadsOK ops.toList m M ob 0 ops.toList = true) (h : vcDraw P Θ M ops.toList m ob (Q .normal) S) : AW P (.region id ops true) Q S := by
  intro φ w a H T
  have D := drawOK_spec hok
  obtain ⟨F, hF⟩ := H.free
  have hFh : ∀ o, F ≤ o → S.h o = none := by
    intro o ho
    cases hx : S.h o with
    | none => rfl
    | some x =>
      obtain ⟨l, hl, _⟩ := H.ob o x hx
      rw [hF o ho] at hl
      cases hl
  obtain ⟨vs, obs, pend, f1, f2, f3⟩ := vcPre_resolve (nm := fun i => F + i) (fun i _ _ => hFh _ (by omega)) (fun i j _ _ e => by omega) (ops.toList.take m) 0 (fun _ => .any) (fun _ => ⟨[], 0, 0, false⟩) [] rfl (by simp; have := D.le; simp at this; omega) D.le (fun j _ hj => by omega) (fun _ _ j _ hj => by omega) h
  refine wp_region_any hm ?_
  have hkept : ∀ o x, S.h o = some x → keep φ F m o = φ o := by
    intro o x hx
    unfold keep
    rw [if_neg]
    rintro ⟨h1, _⟩
    rw [hFh o h1] at hx
    cases hx
  have hext : Ext φ (keep φ F m) := by
    intro o l ho
    unfold keep
    rw [if_neg]
    · exact ho
    · rintro ⟨h1, _⟩
      rw [hF o h1] at ho
      cases ho
  have hown : ∀ b, own (keep φ F m) S.h b ↔ own φ S.h b := by
    intro b
    constructor
    · rintro ⟨o, c, h1, h2⟩
      obtain ⟨x, hx⟩ := Option.isSome_iff_exists.1 h1
      rw [hkept o x hx] at h2
      exact ⟨o, c, h1, h2⟩
    · rintro ⟨o, c, h1, h2⟩
      exact ⟨o, c, h1, hext _ _ h2⟩
  have hkp0 : Keeps (own φ S.h) w (own (keep φ F m) S.h) w := Keeps.less w fun b hb => (hown b).1 hb
  have H0 : HR (keep φ F m) w S.h := by
    refine ⟨fun o x hx => ?_, fun o o' b c c' h1 h2 e1 e2 => ?_, ⟨F + m, fun o ho => ?_⟩⟩
    · obtain ⟨l, hl, hr⟩ := H.ob o x hx
      refine ⟨l, hext _ _ hl, ?_⟩
      cases l with
      | nil => exact hr
      | res => exact hr.elim
      | blk b cap =>
        obtain ⟨cur, k1, k2, k3, k4, k5⟩ := hr
        exact ⟨cur, k1, k2, k3, k4, fun j u hu => (k5 j u hu).mono hext hkp0⟩
    · obtain ⟨x, hx⟩ := Option.isSome_iff_exists.1 h1
      obtain ⟨x', hx'⟩ := Option.isSome_iff_exists.1 h2
      rw [hkept o x hx] at e1
      rw [hkept o' x' hx'] at e2
      exact H.inj o o' b c c' h1 h2 e1 e2
    · unfold keep
      rw [if_neg (by omega)]
      exact hF o (by omega)
  have T0 : TR (keep φ F m) (own (keep φ F m) S.h) w S.n S.tm a := T.mono hext hkp0
  have hdr : HR (keep φ F m) { w with drawn := w.drawn + 1 } S.h := H0.same (Nat.le_refl _) (fun _ _ => rfl) rfl rfl rfl
  have hkp : Keeps (own (keep φ F m) S.h) w (own (keep φ F m) S.h) { w with drawn := w.drawn + 1 } := ⟨rfl, rfl, rfl, Nat.le_refl _, fun _ _ hB => ⟨hB, rfl⟩⟩
  have hH : Hc M ops.toList m S.h (fun i => F + i) obs 0 (fun _ => false) S.h = S.h := by
    simp only [Hc, if_true]
    have : ∀ k, hpA M ops.toList (fun i => F + i) obs S.h (fun _ => false) k = S.h := by
      intro k
      induction k with
      | zero => rfl
      | succ k ih => simp only [hpA, ih, Bool.false_and, Bool.false_eq_true, if_false]
    exact this m
  have hcur : ∀ k, cur ops.toList S.tm (fun _ => false) vs k = S.tm := by
    intro k
    induction k with
    | zero => rfl
    | succ k ih => simp [cur, ih]
  refine draw_any (m := m) (ob := ob) (pend := pend) (K := Q .normal) hΘ (fun _ q => q) D hlo (nm := fun i => F + i) (obs := obs) (h0 := S.h) (φ0 := φ) (fun i _ _ => hFh _ (by omega)) (fun i j _ _ e => by omega) (fun i _ => hF _ (by omega)) ops.size (Array.replicate ops.size false) 0 (fun _ => false) vs S.h (keep φ F m) _ a
    ⟨by have := D.le; omega, fun i hi _ => by simp; omega, fun _ _ _ h => (by cases h), fun h => absurd rfl h, fun i hi _ _ => ?_, ?_, by rw [hH]; exact hdr, ?_, fun _ => f3, fun h => absurd rfl h, f2⟩ (by simp) (fun i hi => by simp [hi]) (fun _ _ => rfl) ?_ hext (by rw [hH]; exact hkp0.trans hkp)
  · unfold keep; rw [if_pos (by omega)]
  · intro i o hi ho _
    rw [hH]
    exact f1 i o hi ho
  · rw [hH, hcur]
    exact T0.mono (Ext.refl _) hkp
  · unfold todo
    have := List.length_filter_le (fun i => !(fun _ : Nat => false) i) (List.range ops.size)
    rw [List.length_range] at this
    exact this

end Go.Par
