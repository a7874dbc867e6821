/- What append does, and each operation. -/
import Derived.Test.YtlpfokngocdanaaMaJ
set_option linter.unusedSimpArgs false
namespace Go.Par

theorem flat_len {ys : List AV} {s : Nat} (hs : ∀ y ∈ ys, y.flat.length = s) : (ys.flatMap AV.flat).length = ys.length * s := by
  induction ys with
  | nil => simp
  | cons y ys ih => rw [List.flatMap_cons, List.length_append, ih (fun z hz => hs z (by simp [hz])), hs y (by simp), List.length_cons, Nat.succ_mul]; omega

/-- What an appended slice holds. -/
theorem news_of {φ : Names} {B : Nat → Prop} {w : World} {y : AV} {Y : Value} {ys : List AV} {s : Nat} (hY : VR φ B w y Y) (hl : listA y = some ys) (hs : ∀ y ∈ ys, y.flat.length = s ∧ allOne y.flat) :
    ∃ A c, Y = .slice A ys.length c ∧ (ys = [] ∨ ∃ (ad : Addr) (news : List Value), A = some ad ∧ news.length = ys.length * s ∧ (∀ (j : Nat) u, news[j]? = some u → w.cell? (ad.add j) = some u) ∧ (∀ u ∈ news, u.oneCell' = true) ∧
      (∀ (j : Nat) u, (ys.flatMap AV.flat)[j]? = some u → VR φ B w u (news.getD j undef))) := by
  unfold listA at hl
  split at hl
  · cases hl
    cases hY
    exact ⟨none, 0, rfl, .inl rfl⟩
  · cases hl
    obtain ⟨A, c, e, hc, hA, _, hX⟩ := hY.ro_inv
    refine ⟨A, c, e, ?_⟩
    rcases hX with rfl | ⟨b, off, s', f, rfl, hB, hb, hs', hcell, hval⟩
    · exact .inl rfl
    · right
      have hlen : (ys.flatMap AV.flat).length = ys.length * s := flat_len fun y hy => (hs y hy).1
      refine ⟨⟨b, off, none⟩, (List.range (ys.length * s)).map f, rfl, by simp, ?_, ?_, ?_⟩
      · intro j u hu
        simp only [List.getElem?_map, Option.map_eq_some_iff] at hu
        obtain ⟨i, hi, rfl⟩ := hu
        obtain ⟨h1, h2⟩ := List.getElem?_eq_some_iff.1 hi
        simp at h1 h2
        subst h2
        rw [add_plain]
        exact hcell _ _ (List.getElem?_eq_getElem (by omega))
      · intro u hu
        obtain ⟨i, hi, rfl⟩ := List.mem_map.1 hu
        rw [List.mem_range] at hi
        have hi' : i < (ys.flatMap AV.flat).length := by omega
        refine (hval i _ (List.getElem?_eq_getElem hi')).oneCell ?_
        obtain ⟨z, hz, hz2⟩ := List.mem_flatMap.1 (List.getElem_mem hi')
        exact (hs z hz).2 _ hz2
      · intro j u hu
        have hj : j < ys.length * s := by rw [← hlen]; exact (List.getElem?_eq_some_iff.1 hu).1
        have : ((List.range (ys.length * s)).map f).getD j undef = f j := by simp [hj]
        rw [this]
        exact hval j u hu
  · cases hl

section runs
variable {P : Program} {Θ : Types} {M : List Nat} {o : Oper} {φ : Names} {h : Heap} {w : World} {a : Act} {ρ : Operand → AV} {K : AV → Heap → Prop}

/-- An object goes on under another name. -/
theorem HR.rename (H : HR φ w h) {o : Nat} {x : Ob} (hx : h o = some x) {l : Loc} (hl : φ o = some l) (hr : ObR φ (own φ h) w x l) {n : Nat} (hφ : φ n = none) (hn : h n = none) (x' : Ob)
    (hx' : ∀ B, (∀ b, B b ↔ own φ h b) → ObR φ B w x' l) :
    HR (bind1 φ n l) w (upd (upd h o none) n (some x')) ∧ Keeps (own φ h) w (own (bind1 φ n l) (upd (upd h o none) n (some x'))) w := by
  have hne : n ≠ o := by rintro rfl; rw [hn] at hx; cases hx
  have hn' : upd h o none n = none := by rw [upd_ne _ _ hne]; exact hn
  obtain ⟨H1, hless⟩ := H.less (h' := upd h o none) (by
    intro o' y hy
    by_cases e : o' = o
    · subst e; rw [upd_same] at hy; cases hy
    · rwa [upd_ne _ _ e] at hy)
  have hown : ∀ b, own (bind1 φ n l) (upd (upd h o none) n (some x')) b ↔ own φ h b := by
    intro b
    rw [own_name hn']
    constructor
    · rintro (hb | ⟨c, rfl⟩)
      · exact hless b hb
      · exact ⟨o, c, by simp [hx], hl⟩
    · rintro ⟨o', c, h1, h2⟩
      by_cases e : o' = o
      · subst e
        rw [hl] at h2
        cases h2
        exact .inr ⟨c, rfl⟩
      · exact .inl ⟨o', c, by rwa [upd_ne _ _ e], h2⟩
  have hk : ∀ B, (∀ b, own (bind1 φ n l) (upd (upd h o none) n (some x')) b → B b) → Keeps B w (own (bind1 φ n l) (upd (upd h o none) n (some x'))) w := fun B hB => Keeps.less w hB
  have hnot : ∀ b c, l = .blk b c → ¬ own φ (upd h o none) b := by
    rintro b c rfl ⟨o', c', h1, h2⟩
    by_cases e : o' = o
    · subst e; simp [upd_same] at h1
    · rw [upd_ne _ _ e] at h1
      exact e (H.inj o' o b c' c h1 (by simp [hx]) h2 hl)
  refine ⟨?_, hk _ fun b hb => (hown b).1 hb⟩
  refine ⟨fun o' y hy => ?_, fun o1 o2 b c c' h1 h2 e1 e2 => ?_, ?_⟩
  · by_cases e : o' = n
    · subst e
      rw [upd_same] at hy
      cases hy
      refine ⟨l, bind1_same _ _ _, ?_⟩
      have := hx' _ hown
      cases l with
      | nil => exact this
      | res => exact this.elim
      | blk b cap =>
        obtain ⟨cur, k1, k2, k3, k4, k5⟩ := this
        exact ⟨cur, k1, k2, k3, k4, fun j u hu => (k5 j u hu).mono (Ext.bind1 hφ _) (Keeps.refl _ _)⟩
    · rw [upd_ne _ _ e] at hy
      obtain ⟨l', h1, h2⟩ := H1.ob o' y hy
      refine ⟨l', by rw [bind1_ne _ _ e]; exact h1, ?_⟩
      cases l' with
      | nil => exact h2
      | res => exact h2.elim
      | blk b cap =>
        obtain ⟨l2, g1, g2⟩ := H.ob o' y (by
          by_cases e' : o' = o
          · subst e'; rw [upd_same] at hy; cases hy
          · rwa [upd_ne _ _ e'] at hy)
        rw [h1] at g1
        cases g1
        obtain ⟨cur, k1, k2, k3, k4, k5⟩ := g2
        exact ⟨cur, k1, k2, k3, k4, fun j u hu => (k5 j u hu).mono (Ext.bind1 hφ _) (hk _ fun b hb => (hown b).1 hb)⟩
  · by_cases e : o1 = n
    · by_cases e' : o2 = n
      · rw [e, e']
      · subst e
        rw [bind1_same] at e1
        cases e1
        rw [bind1_ne _ _ e'] at e2
        rw [upd_ne _ _ e'] at h2
        exact absurd ⟨o2, c', h2, e2⟩ (hnot b c rfl)
    · by_cases e' : o2 = n
      · subst e'
        rw [bind1_same] at e2
        cases e2
        rw [bind1_ne _ _ e] at e1
        rw [upd_ne _ _ e] at h1
        exact absurd ⟨o1, c, h1, e1⟩ (hnot b c' rfl)
      · rw [bind1_ne _ _ e] at e1
        rw [bind1_ne _ _ e'] at e2
        rw [upd_ne _ _ e] at h1
        rw [upd_ne _ _ e'] at h2
        exact H1.inj o1 o2 b c c' h1 h2 e1 e2
  · obtain ⟨N, hN⟩ := H.free
    refine ⟨max N (n + 1), fun o ho => ?_⟩
    rw [bind1_ne _ _ (by omega)]
    exact hN o (by omega)

theorem VcRun.append (hΘ : Θ.ok P) (H : HR φ w h) {c : Call} {s y : Operand} {t e : TypeId} {d : TD} {ys : List AV} {sz bt : Nat} {z : Value} (ho : o.op = .call c) (hc : c.callee = .builtin .append) (hca : c.args = #[s, y]) (hct : c.argTypes = #[t, t])
    (hd : Θ t = some ⟨.slice e, sz, bt, z⟩) (hde : Θ e = some d) (hs : VR φ (own φ h) w (ρ s) (a.eval s)) (hy : VR φ (own φ h) w (ρ y) (a.eval y)) (hl : listA (ρ y) = some ys)
    (hp : appendA e d h (ρ s) ys K) : VcRun P o φ h w a K := by
  obtain ⟨⟨hsz, hz, hys⟩, hp⟩ := hp
  have hu := (hΘ t _ hd).slice
  have ok := hΘ e d hde
  obtain ⟨i, hi, i1, i2, i3⟩ := ok.1
  obtain ⟨A, C, eY, hnews⟩ := news_of hy hl hys
  have hflen : (ys.flatMap AV.flat).length = ys.length * d.size := flat_len fun y hy => (hys y hy).1
  have exec : ∀ v w', (Builtin.append_ #[t, t] o.type #[a.eval s, a.eval y]).run P w = .ok v w' → (execOp a.eval o).run P w = .ok (.value v) w' := by
    intro v w' hr
    simp [execOp, ho, resolve, hc, hca, hct, invoke, builtin, hr]
  intro next Q hnx
  unfold Oper.wp
  split at hp
  · rename_i es
    rw [es] at hs
    generalize hq : a.eval s = S at hs
    cases hs
    split at hp
    · have hr : (Builtin.append_ #[t, t] o.type #[a.eval s, a.eval y]).run P w = .ok (.slice none 0 0) w := by
        rw [hq, eY]
        cases A <;> simp [Builtin.append_, run_underlying hu, sizeOf, typeInfo, hi, Builtin.lenOf, Builtin.firstCells, loadCells, loadCellsFrom]
      rw [exec _ _ hr]
      exact hnx φ h w _ .nils (Ext.refl φ) (Keeps.refl _ w) H .nils hp
    · rename_i y0 ys
      obtain ⟨⟨hb, hm⟩, hp⟩ := hp
      rcases hnews with h0 | ⟨ad, news, rfl, n1, n2, n3, n4⟩
      · cases h0
      · obtain ⟨n, hφ, hn⟩ := H.fresh
        have hr := run_append_nil (P := P) w t o.type e i d.zero hu hi i3 ad (y0 :: ys).length C news (by rw [n1, i1]) n2 (by simp) (by simp; omega) (by rw [i2]; simp; omega)
        rw [exec _ _ (by rw [hq, eY]; exact hr)]
        have hge := grownCap_ge w (y0 :: ys).length 0 e
        obtain ⟨H', hk⟩ := H.new (w' := w.drew.alloc (.cells (news.toArray ++ Builtin.zeroCells d.zero.cells (grownCap w (y0 :: ys).length 0 e - (y0 :: ys).length)) e)) hφ hn ⟨(y0 :: ys).flatMap AV.flat, e, d.size, true⟩ _ (grownCap w (y0 :: ys).length 0 e) ⟨w.drawn + 1, rfl⟩ (by
          simp only [Array.size_append, List.size_toArray, size_zeroCells, hz, n1, ← Nat.add_mul]
          congr 1
          omega) (grownCap_le_maxLen _ _ _ _ (by simp [maxLen]; omega)) (by rw [hflen]; simp [n1]) (by
          intro j u hu'
          have hj : j < news.length := by rw [n1, ← hflen]; exact (List.getElem?_eq_some_iff.1 hu').1
          have e3 : (news.toArray ++ Builtin.zeroCells d.zero.cells (grownCap w (y0 :: ys).length 0 e - (y0 :: ys).length)).getD j undef = news.getD j undef := by
            simp [Array.getElem?_append, hj]
          rw [e3]
          exact n4 j u hu')
        exact hnx _ _ _ _ _ (Ext.bind1 hφ _) hk H' (.mu n _ w.heap.size _ (bind1_same _ _ _) hge) (hp n hn)
  · rename_i ob n es
    rw [es] at hs
    split at hp
    · rename_i x hob
      obtain ⟨⟨t1, t2, hle, hb, hm⟩, hp⟩ := hp
      subst t1
      obtain ⟨l, hl', hr'⟩ := H.ob _ _ hob
      obtain ⟨n', hφ, hn⟩ := H.fresh
      generalize hq : a.eval s = S at hs
      by_cases hy0 : ys = []
      · -- nothing is appended
        subst hy0
        have hr : (Builtin.append_ #[t, t] o.type #[a.eval s, a.eval y]).run P w = .ok S w := by
          rw [hq, eY]
          cases hs <;> cases A <;> simp [Builtin.append_, run_underlying hu, sizeOf, typeInfo, hi, Builtin.lenOf, Builtin.firstCells, loadCells, loadCellsFrom, storeCells, *]
        rw [exec _ _ hr]
        obtain ⟨H', hk⟩ := H.rename hob hl' hr' hφ hn ⟨x.cells.take (n * d.size) ++ ([] : List AV).flatMap AV.flat, x.ty, d.size, x.nn || !([] : List AV).isEmpty⟩ (by
          intro B hB
          cases l with
          | nil => simp only [ObR] at hr' ⊢; simp [hr'.1, hr'.2]
          | res => exact hr'.elim
          | blk b cap =>
            obtain ⟨cur, k1, k2, k3, k4, k5⟩ := hr'
            refine ⟨cur, k1, by rw [← t2]; exact k2, k3, by simp; omega, fun j u hu' => ?_⟩
            simp only [List.flatMap_nil, List.append_nil, List.getElem?_take] at hu'
            split at hu'
            · exact (k5 j u hu').weaken fun b hb => (hB b).1 hb
            · cases hu')
        refine hnx _ _ _ _ _ (Ext.bind1 hφ _) hk H' ?_ (hp n' hn)
        cases hs with
        | muN _ h1 =>
          rw [h1] at hl'
          cases hl'
          exact .muN n' (bind1_same _ _ _)
        | mu _ _ b cap h1 h2 =>
          rw [h1] at hl'
          cases hl'
          exact .mu n' _ b cap (bind1_same _ _ _) (by simpa using h2)
      · obtain ⟨ad, news, rfl, n1, n2, n3, n4⟩ := hnews.resolve_left hy0
        have hpos : 0 < ys.length := List.length_pos_iff.2 hy0
        · cases hs with
          | muN _ h1 =>
            rw [h1] at hl'
            cases hl'
            have hx0 : x.cells = [] := hr'.1
            have hr := run_append_nil (P := P) w t o.type x.ty i d.zero hu hi i3 ad ys.length C news (by rw [n1, i1]) n2 hpos (by omega) (by rw [i2]; simp at hb; omega)
            rw [exec _ _ (by rw [hq, eY]; exact hr)]
            have hge := grownCap_ge w ys.length 0 x.ty
            obtain ⟨H1, hless⟩ := H.less (h' := upd h ob none) (by
              intro o' y hy
              by_cases e : o' = ob
              · subst e; rw [upd_same] at hy; cases hy
              · rwa [upd_ne _ _ e] at hy)
            have hne : n' ≠ ob := by rintro rfl; rw [hn] at hob; cases hob
            obtain ⟨H', hk⟩ := H1.new (w' := w.drew.alloc (.cells (news.toArray ++ Builtin.zeroCells d.zero.cells (grownCap w ys.length 0 x.ty - ys.length)) x.ty)) hφ (by rw [upd_ne _ _ hne]; exact hn) ⟨x.cells.take (0 * d.size) ++ ys.flatMap AV.flat, x.ty, d.size, x.nn || !ys.isEmpty⟩ _ (grownCap w ys.length 0 x.ty) ⟨w.drawn + 1, rfl⟩ (by
              simp only [Array.size_append, List.size_toArray, size_zeroCells, hz, n1, ← Nat.add_mul]
              congr 1
              omega) (grownCap_le_maxLen _ _ _ _ (by simp [maxLen]; omega)) (by rw [hx0]; simp only [List.take_nil, List.nil_append, hflen]; simp [n1]) (by
              intro j u hu'
              simp only [hx0, List.take_nil, List.nil_append] at hu'
              have hj : j < news.length := by rw [n1, ← hflen]; exact (List.getElem?_eq_some_iff.1 hu').1
              have e3 : (news.toArray ++ Builtin.zeroCells d.zero.cells (grownCap w ys.length 0 x.ty - ys.length)).getD j undef = news.getD j undef := by
                simp [Array.getElem?_append, hj]
              rw [e3]
              exact (n4 j u hu').weaken hless)
            refine hnx _ _ _ _ _ (Ext.bind1 hφ _) ((Keeps.less w hless).trans hk) H' ?_ (hp n' hn)
            have := VR.mu (φ := bind1 φ n' (.blk w.heap.size (grownCap w ys.length 0 x.ty))) (B := own (bind1 φ n' (.blk w.heap.size (grownCap w ys.length 0 x.ty))) (upd (upd h ob none) n' (some ⟨x.cells.take (0 * d.size) ++ ys.flatMap AV.flat, x.ty, d.size, x.nn || !ys.isEmpty⟩))) (w := w.drew.alloc (.cells (news.toArray ++ Builtin.zeroCells d.zero.cells (grownCap w ys.length 0 x.ty - ys.length)) x.ty)) n' ys.length w.heap.size _ (bind1_same _ _ _) hge
            simpa using this
          | mu _ _ b cap h1 h2 =>
            rw [h1] at hl'
            cases hl'
            obtain ⟨cur, k1, k2, k3, k4, k5⟩ := hr'
            rw [t2] at k2
            have hnsz : n * d.size ≤ cur.size := by rw [k2]; exact Nat.mul_le_mul_right _ h2
            by_cases hroom : n + ys.length ≤ cap
            · have hfit : n * d.size + news.length ≤ cur.size := by rw [n1, k2, ← Nat.add_mul]; exact Nat.mul_le_mul_right _ hroom
              have hr := run_append_room (P := P) w t o.type x.ty i hu hi b n cap cur k1 ad ys.length C news (by rw [n1, i1]) n2 n3 hroom (by rw [i1]; exact hfit)
              rw [exec _ _ (by rw [hq, eY]; exact hr), i1]
              have hcur' : ∀ (j : Nat), j < n * d.size + ys.length * d.size → ((cur.toList.take (n * d.size) ++ news ++ cur.toList.drop (n * d.size + news.length)).toArray).getD j undef = if j < n * d.size then cur.getD j undef else news.getD (j - n * d.size) undef := by
                intro j hj
                rw [List.append_assoc]
                by_cases hjn : j < n * d.size
                · rw [if_pos hjn]
                  simp [List.getElem?_append_left, hjn, Nat.min_eq_left hnsz, (show j < cur.size by omega)]
                · rw [if_neg hjn]
                  simp [List.getElem?_append_right, List.getElem?_append_left, Nat.min_eq_left hnsz, (show n * d.size ≤ j by omega), (show j - n * d.size < news.length by omega)]
              have hcells : ∀ (j : Nat) u, (x.cells.take (n * d.size) ++ ys.flatMap AV.flat)[j]? = some u → VR φ (own φ h) w u (((cur.toList.take (n * d.size) ++ news ++ cur.toList.drop (n * d.size + news.length)).toArray).getD j undef) := by
                intro j u hu'
                have hjl := (List.getElem?_eq_some_iff.1 hu').1
                rw [List.length_append, List.length_take, hflen, Nat.min_eq_left hle] at hjl
                rw [hcur' j hjl]
                by_cases hjn : j < n * d.size
                · rw [if_pos hjn]
                  rw [List.getElem?_append_left (by simp; omega), List.getElem?_take, if_pos hjn] at hu'
                  exact k5 j u hu'
                · rw [if_neg hjn]
                  rw [List.getElem?_append_right (by simp; omega)] at hu'
                  have e4 : (x.cells.take (n * d.size)).length = n * d.size := by simp; omega
                  rw [e4] at hu'
                  exact n4 _ u hu'
              have hlen2 : (x.cells.take (n * d.size) ++ ys.flatMap AV.flat).length ≤ cur.size := by
                rw [List.length_append, List.length_take, hflen, Nat.min_eq_left hle, ← n1]
                exact hfit
              obtain ⟨H1, hk1⟩ := H.write hob h1 (cur' := (cur.toList.take (n * d.size) ++ news ++ cur.toList.drop (n * d.size + news.length)).toArray) k1 (by
                simp only [List.size_toArray, List.length_append, List.length_take, List.length_drop, Array.length_toList]
                omega) (by rw [t2]; exact k2) k3 (x.cells.take (n * d.size) ++ ys.flatMap AV.flat) hlen2 (x.nn || !ys.isEmpty) hcells
              have hne : n' ≠ ob := by rintro rfl; rw [hn] at hob; cases hob
              obtain ⟨l3, g1, g2⟩ := H1.ob ob _ (upd_same _ _ _)
              rw [h1] at g1
              cases g1
              obtain ⟨H2, hk2⟩ := H1.rename (upd_same _ _ _) h1 g2 hφ (by rw [upd_ne _ _ hne]; exact hn) ⟨x.cells.take (n * d.size) ++ ys.flatMap AV.flat, x.ty, d.size, x.nn || !ys.isEmpty⟩ (by
                intro B hB
                obtain ⟨cur3, q1, q2, q3, q4, q5⟩ := g2
                exact ⟨cur3, q1, by rw [← t2]; exact q2, q3, q4, fun j u hu' => (q5 j u hu').weaken fun b hb => (hB b).1 hb⟩)
              have hupd : upd (upd h ob (some ⟨x.cells.take (n * d.size) ++ ys.flatMap AV.flat, x.ty, x.sz, x.nn || !ys.isEmpty⟩)) ob none = upd h ob none := by
                funext o'
                simp only [upd]
                split <;> rfl
              rw [hupd] at H2 hk2
              exact hnx _ _ _ _ _ (Ext.bind1 hφ _) (hk1.trans hk2) H2 (.mu n' _ b cap (bind1_same _ _ _) hroom) (hp n' hn)
            · have hxs : (cur.toList.take (n * d.size)).length = n * i.size := by rw [i1]; simp; omega
              have hr := run_append_grow (P := P) w t o.type x.ty i d.zero hu hi i3 ⟨b, 0, none⟩ n cap (cur.toList.take (n * d.size)) hxs (by
                intro j v hv
                rw [add_plain, Nat.zero_add, cell_of_row w b j cur x.ty (0, 0) k1]
                rw [List.getElem?_take] at hv
                split at hv
                · simpa using hv
                · cases hv) ad ys.length C news (by rw [n1, i1]) n2 (by omega) (by omega) (growslice_fits (by omega) (by rw [i2]; exact hb))
              rw [exec _ _ (by rw [hq, eY]; exact hr)]
              have hge := grownCap_ge w (n + ys.length) cap x.ty
              obtain ⟨H1, hless⟩ := H.less (h' := upd h ob none) (by
                intro o' y hy
                by_cases e : o' = ob
                · subst e; rw [upd_same] at hy; cases hy
                · rwa [upd_ne _ _ e] at hy)
              have hne : n' ≠ ob := by rintro rfl; rw [hn] at hob; cases hob
              have hlen2 : (x.cells.take (n * d.size) ++ ys.flatMap AV.flat).length = (n + ys.length) * d.size := by
                rw [List.length_append, List.length_take, hflen, Nat.min_eq_left hle, Nat.add_mul]
              have hlen3 : (cur.toList.take (n * d.size)).length = n * d.size := by simp; omega
              obtain ⟨H', hk⟩ := H1.new (w' := w.drew.alloc (.cells ((cur.toList.take (n * d.size)).toArray ++ news.toArray ++ Builtin.zeroCells d.zero.cells (grownCap w (n + ys.length) cap x.ty - (n + ys.length))) x.ty)) hφ (by rw [upd_ne _ _ hne]; exact hn) ⟨x.cells.take (n * d.size) ++ ys.flatMap AV.flat, x.ty, d.size, x.nn || !ys.isEmpty⟩ _ (grownCap w (n + ys.length) cap x.ty) ⟨w.drawn + 1, rfl⟩ (by
                simp only [Array.size_append, List.size_toArray, size_zeroCells, hz, n1, hlen3, ← Nat.add_mul]
                congr 1
                omega) (grownCap_le_maxLen _ _ _ _ (by simp [maxLen]; omega)) (by rw [hlen2]; simp only [Array.size_append, List.size_toArray, hlen3, n1, Nat.add_mul]; omega) (by
                intro j u hu'
                have hjl := (List.getElem?_eq_some_iff.1 hu').1
                rw [hlen2, Nat.add_mul] at hjl
                have e3 : ((cur.toList.take (n * d.size)).toArray ++ news.toArray ++ Builtin.zeroCells d.zero.cells (grownCap w (n + ys.length) cap x.ty - (n + ys.length))).getD j undef = if j < n * d.size then cur.getD j undef else news.getD (j - n * d.size) undef := by
                  by_cases hjn : j < n * d.size
                  · rw [if_pos hjn]
                    simp [Array.getElem?_append, Nat.min_eq_left hnsz, hjn, (show j < n * d.size + news.length by omega), (show j < cur.size by omega)]
                  · rw [if_neg hjn]
                    simp [Array.getElem?_append, Nat.min_eq_left hnsz, hjn, (show j < n * d.size + news.length by omega), (show j - n * d.size < news.length by omega)]
                    rw [List.getElem_append_right (by simp; omega)]
                    simp [Nat.min_eq_left hnsz]
                rw [e3]
                by_cases hjn : j < n * d.size
                · rw [if_pos hjn]
                  rw [List.getElem?_append_left (by simp; omega), List.getElem?_take, if_pos hjn] at hu'
                  exact (k5 j u hu').weaken hless
                · rw [if_neg hjn]
                  rw [List.getElem?_append_right (by simp; omega)] at hu'
                  have e4 : (x.cells.take (n * d.size)).length = n * d.size := by simp; omega
                  rw [e4] at hu'
                  exact (n4 _ u hu').weaken hless)
              exact hnx _ _ _ _ _ (Ext.bind1 hφ _) ((Keeps.less w hless).trans hk) H' (.mu n' _ w.heap.size _ (bind1_same _ _ _) hge) (hp n' hn)
    · exact hp.elim
  · exact hp.elim
end runs
end Go.Par
