/- Functions, and what may be told of one world in two ways. -/
import Derived.Test.YtlpfokngocdanaaMaP
set_option linter.unusedSimpArgs false
set_option linter.unusedVariables false
namespace Go.Par

/-- Two values of one world. -/
def GV (v : AV) (h : Heap) (r : AV) (h' : Heap) : Prop := ∀ φ w x, HR φ w h → VR φ (own φ h) w v x →
  ∃ φ', Ext φ φ' ∧ HR φ' w h' ∧ VR φ' (own φ' h') w r x ∧ ∀ b, own φ' h' b → own φ h b

theorem GV.refl (v : AV) (h : Heap) : GV v h v h := fun φ _ _ H V => ⟨φ, Ext.refl φ, H, V, fun _ q => q⟩
theorem GV.trans {v r u : AV} {h h' h'' : Heap} (a : GV v h r h') (b : GV r h' u h'') : GV v h u h'' := fun φ w x H V =>
  let ⟨φ', e, H', V', o⟩ := a φ w x H V
  let ⟨φ'', e', H'', V'', o'⟩ := b φ' w x H' V'
  ⟨φ'', e.trans e', H'', V'', fun b q => o b (o' b q)⟩

theorem GV.sub {v : AV} {h h' : Heap} (hs : subH h' h) : GV v h v h' := fun φ w _ H V =>
  let ⟨H', o⟩ := H.less hs
  ⟨φ, Ext.refl φ, H', V.weaken o, o⟩

theorem upd_none_sub (h : Heap) (o : Nat) : subH (upd h o none) h := by
  intro o' x hx
  by_cases e : o' = o
  · subst e; rw [upd_same] at hx; cases hx
  · rwa [upd_ne _ _ e] at hx

/-- An object that nobody will write any more. -/
theorem freeze_mu {φ : Names} {w : World} {h : Heap} (H : HR φ w h) {o n : Nat} {x : Ob} {X : Value} (hx : h o = some x) (V : VR φ (own φ h) w (.mu o n) X) {k : Bool} {xs : List AV} (hk : k = true → x.nn = true) (hn : xs.length = n)
    (hs : ∀ y ∈ xs, y.flat.length = x.sz) (hf : xs.flatMap AV.flat = x.cells.take (n * x.sz)) : VR φ (own φ (upd h o none)) w (.ro k xs) X := by
  obtain ⟨l, hl, hr⟩ := H.ob o x hx
  have hless := (H.less (upd_none_sub h o)).2
  cases V with
  | muN _ h1 =>
    rw [h1] at hl
    cases hl
    have hxs : xs = [] := List.eq_nil_of_length_eq_zero hn
    subst hxs
    refine .roNil k none 0 (fun e => ?_) (fun _ => rfl)
    have := hr.2
    rw [hk e] at this
    cases this
  | mu _ _ b cap h1 h2 =>
    rw [h1] at hl
    cases hl
    obtain ⟨cur, k1, k2, k3, k4, k5⟩ := hr
    have hnb : ¬ own φ (upd h o none) b := by
      rintro ⟨o', c', q1, q2⟩
      by_cases e : o' = o
      · subst e; simp [upd_same] at q1
      · rw [upd_ne _ _ e] at q1
        exact e (H.inj o' o b c' cap q1 (by simp [hx]) q2 h1)
    refine .ro k xs n b 0 cap x.sz (fun j => cur.getD j undef) hn.symm h2 hnb (Array.getElem?_eq_some_iff.1 k1).1 hs ?_ ?_
    · intro j u hu
      rw [hf, List.getElem?_take] at hu
      split at hu
      · have hj : j < cur.size := Nat.lt_of_lt_of_le (List.getElem?_eq_some_iff.1 hu).1 k4
        rw [Nat.zero_add, cell_of_row w b j cur x.ty (0, 0) k1]
        simp [hj]
      · cases hu
    · intro j u hu
      rw [hf, List.getElem?_take] at hu
      split at hu
      · exact (k5 j u hu).weaken hless
      · cases hu

theorem GV.freeze {o n : Nat} {h : Heap} {x : Ob} (hx : h o = some x) {k : Bool} {xs : List AV} (hk : k = true → x.nn = true) (hn : xs.length = n)
    (hs : ∀ y ∈ xs, y.flat.length = x.sz) (hf : xs.flatMap AV.flat = x.cells.take (n * x.sz)) : GV (.mu o n) h (.ro k xs) (upd h o none) := fun φ _ _ H V =>
  let ⟨H', ho⟩ := H.less (upd_none_sub h o)
  ⟨φ, Ext.refl φ, H', freeze_mu H hx V hk hn hs hf, ho⟩

/-! ### States -/

def EqAll (tm : Tm) : Tm → Prop
  | [] => True
  | (t, v) :: l => get tm t = v ∧ EqAll tm l

theorem EqAll.get {tm : Tm} : ∀ {l : Tm}, EqAll tm l → ∀ t, Par.get l t = .any ∨ Par.get tm t = Par.get l t := by
  intro l
  induction l with
  | nil => intro _ t; exact .inl rfl
  | cons p l ih =>
    obtain ⟨d, v⟩ := p
    intro h t
    simp only [Par.get]
    by_cases e : d = t
    · subst e; rw [if_pos rfl]; exact .inr h.1
    · rw [if_neg e]; exact ih h.2 t

theorem GStep.eq {S : St} {tm : Tm} {h : Heap} (ht : EqAll S.tm tm) (hh : subH h S.h) : GStep S ⟨S.n, tm, h⟩ := by
  refine ⟨rfl, fun φ w a H T => ?_⟩
  obtain ⟨H', ho⟩ := H.less hh
  refine ⟨φ, Ext.refl φ, H', ⟨T.defers, T.size, fun t => ?_⟩, ho⟩
  rcases ht.get t with e | e
  · rw [e]; exact .any _
  · rw [← e]; exact (T.val t).weaken ho

/-- A slot told otherwise. -/
theorem GStep.slot {S : St} {t : Nat} {v r : AV} {h' : Heap} (hv : get S.tm t = v) (g : GV v S.h r h') : GStep S ⟨S.n, (t, r) :: S.tm, h'⟩ := by
  refine ⟨rfl, fun φ w a H T => ?_⟩
  have V := T.val t
  rw [hv] at V
  obtain ⟨φ', e, H', V', ho⟩ := g φ w _ H V
  refine ⟨φ', e, H', ⟨T.defers, T.size, fun t' => ?_⟩, ho⟩
  simp only [get]
  by_cases e' : t = t'
  · subst e'; rw [if_pos rfl]; exact V'
  · rw [if_neg e']; exact ((T.val t').mono e (Keeps.less w ho))

/-- A variable that nobody will write any more. -/
theorem GStep.box {S : St} {t o : Nat} {x : Ob} (hv : get S.tm t = .ptr o 0) (hx : S.h o = some x) : GStep S ⟨S.n, (t, .rop x.cells) :: S.tm, upd S.h o none⟩ := by
  refine GStep.slot hv fun φ w X H V => ?_
  obtain ⟨H', ho⟩ := H.less (upd_none_sub S.h o)
  refine ⟨φ, Ext.refl φ, H', ?_, ho⟩
  obtain ⟨l, hl, hr⟩ := H.ob o x hx
  cases V with
  | ptr _ _ b cap h1 =>
    rw [h1] at hl
    cases hl
    obtain ⟨cur, k1, k2, k3, k4, k5⟩ := hr
    have hnb : ¬ own φ (upd S.h o none) b := by
      rintro ⟨o', c', q1, q2⟩
      by_cases e : o' = o
      · subst e; simp [upd_same] at q1
      · rw [upd_ne _ _ e] at q1
        exact e (H.inj o' o b c' cap q1 (by simp [hx]) q2 h1)
    refine .rop _ b 0 (fun j => cur.getD j undef) hnb (Array.getElem?_eq_some_iff.1 k1).1 ?_ ?_
    · intro j u hu
      have hj : j < cur.size := Nat.lt_of_lt_of_le (List.getElem?_eq_some_iff.1 hu).1 k4
      rw [Nat.zero_add, cell_of_row w b j cur x.ty (0, 0) k1]
      simp [hj]
    · intro j u hu
      exact (k5 j u hu).weaken ho

/-- A nil slice is an object of its own. -/
theorem AW.mine {P : Program} {c : Code} {Q : Exit → St → Prop} {S : St} (t : Nat) (e : TypeId) (s : Nat) (hv : get S.tm t = .nils) (h : ∀ o, S.h o = none → AW P c Q ⟨S.n, (t, .mu o 0) :: S.tm, upd S.h o (some ⟨[], e, s, false⟩)⟩) : AW P c Q S := by
  intro φ w a H T
  obtain ⟨o, hφ, ho⟩ := H.fresh
  have hk : Keeps (own φ S.h) w (own (bind1 φ o .nil) (upd S.h o (some ⟨[], e, s, false⟩))) w := Keeps.less w fun b hb => by
    rcases (own_name ho).1 hb with hb | ⟨c, hc⟩
    · exact hb
    · cases hc
  have H' : HR (bind1 φ o .nil) w (upd S.h o (some ⟨[], e, s, false⟩)) := H.name (.inl hφ) ho (fun b c e => by cases e) hk (fun _ _ => rfl) ⟨rfl, rfl⟩
  have T' := T.mono (Ext.bind1 hφ .nil) hk
  have V := T.val t
  rw [hv] at V
  refine Code.wp_mono (fun _ _ _ q => Lift.trans (Ext.bind1 hφ .nil) hk q) (h o ho (bind1 φ o .nil) w a H' ⟨T'.defers, T'.size, fun t' => ?_⟩)
  simp only [get]
  by_cases e' : t = t'
  · subst e'
    rw [if_pos rfl]
    generalize a.tmps.getD t undef = X at V
    cases V
    exact .muN o (bind1_same _ _ _)
  · rw [if_neg e']; exact T'.val t'

/-- The same in an object's cell. -/
theorem AW.mineCell {P : Program} {c : Code} {Q : Exit → St → Prop} {S : St} (p j : Nat) (x : Ob) (e : TypeId) (s : Nat) (hx : S.h p = some x) (hv : x.cells[j]? = some .nils)
    (h : ∀ o, S.h o = none → AW P c Q ⟨S.n, S.tm, upd (upd S.h p (some ⟨x.cells.set j (.mu o 0), x.ty, x.sz, x.nn⟩)) o (some ⟨[], e, s, false⟩)⟩) : AW P c Q S := by
  intro φ w a H T
  obtain ⟨o, hφ, ho⟩ := H.fresh
  have hne : o ≠ p := by rintro rfl; rw [ho] at hx; cases hx
  have hk : Keeps (own φ S.h) w (own (bind1 φ o .nil) (upd S.h o (some ⟨[], e, s, false⟩))) w := Keeps.less w fun b hb => by
    rcases (own_name ho).1 hb with hb | ⟨c, hc⟩
    · exact hb
    · cases hc
  have H' : HR (bind1 φ o .nil) w (upd S.h o (some ⟨[], e, s, false⟩)) := H.name (.inl hφ) ho (fun b c e => by cases e) hk (fun _ _ => rfl) ⟨rfl, rfl⟩
  have hcomm : upd (upd S.h p (some ⟨x.cells.set j (.mu o 0), x.ty, x.sz, x.nn⟩)) o (some ⟨[], e, s, false⟩) = upd (upd S.h o (some ⟨[], e, s, false⟩)) p (some ⟨x.cells.set j (.mu o 0), x.ty, x.sz, x.nn⟩) := by
    funext o'
    simp only [upd]
    by_cases e1 : o' = o
    · have : ¬ o' = p := fun e2 => hne (e1.symm.trans e2)
      simp [e1, hne]
    · simp [e1]
  have hown : ∀ b, own (bind1 φ o .nil) (upd (upd S.h o (some ⟨[], e, s, false⟩)) p (some ⟨x.cells.set j (.mu o 0), x.ty, x.sz, x.nn⟩)) b ↔ own (bind1 φ o .nil) (upd S.h o (some ⟨[], e, s, false⟩)) b := by
    intro b
    have f : ∀ o', (upd (upd S.h o (some ⟨[], e, s, false⟩)) p (some ⟨x.cells.set j (.mu o 0), x.ty, x.sz, x.nn⟩) o').isSome = (upd S.h o (some ⟨[], e, s, false⟩) o').isSome := by
      intro o'
      by_cases e1 : o' = p
      · subst e1; rw [upd_same, upd_ne _ _ (Ne.symm hne), hx]; rfl
      · rw [upd_ne _ _ e1]
    constructor
    · rintro ⟨o', c', h1, h2⟩; exact ⟨o', c', by rwa [f] at h1, h2⟩
    · rintro ⟨o', c', h1, h2⟩; exact ⟨o', c', by rwa [f], h2⟩
  have H2 : HR (bind1 φ o .nil) w (upd (upd S.h o (some ⟨[], e, s, false⟩)) p (some ⟨x.cells.set j (.mu o 0), x.ty, x.sz, x.nn⟩)) := by
    refine ⟨fun o' y hy => ?_, fun o1 o2 b c c' h1 h2 => ?_, H'.free⟩
    · by_cases e1 : o' = p
      · subst e1
        rw [upd_same] at hy
        cases hy
        obtain ⟨l, hl, hr⟩ := H'.ob o' x (by rw [upd_ne _ _ (Ne.symm hne)]; exact hx)
        refine ⟨l, hl, ?_⟩
        cases l with
        | nil => have := hr.1; rw [this] at hv; cases hv
        | res => exact hr.elim
        | blk b cap =>
          obtain ⟨cur, k1, k2, k3, k4, k5⟩ := hr
          refine ⟨cur, k1, k2, k3, by simpa using k4, fun j' u hu => ?_⟩
          simp only at hu
          by_cases ej : j' = j
          · subst ej
            have hjl : j' < x.cells.length := (List.getElem?_eq_some_iff.1 hv).1
            rw [List.getElem?_set_self hjl] at hu
            cases hu
            have := k5 j' _ hv
            generalize cur.getD j' undef = X at this
            cases this
            exact .muN o (bind1_same _ _ _)
          · rw [List.getElem?_set_ne (Ne.symm ej)] at hu
            exact (k5 j' u hu).weaken fun b hb => (hown b).1 hb
      · rw [upd_ne _ _ e1] at hy
        obtain ⟨l, hl, hr⟩ := H'.ob o' y hy
        refine ⟨l, hl, ?_⟩
        cases l with
        | nil => exact hr
        | res => exact hr.elim
        | blk b cap =>
          obtain ⟨cur, k1, k2, k3, k4, k5⟩ := hr
          exact ⟨cur, k1, k2, k3, k4, fun j' u hu => (k5 j' u hu).weaken fun b hb => (hown b).1 hb⟩
    · have f : ∀ o', (upd (upd S.h o (some ⟨[], e, s, false⟩)) p (some ⟨x.cells.set j (.mu o 0), x.ty, x.sz, x.nn⟩) o').isSome = true → (upd S.h o (some ⟨[], e, s, false⟩) o').isSome = true := by
        intro o' ho'
        by_cases e1 : o' = p
        · subst e1; rw [upd_ne _ _ (Ne.symm hne), hx]; rfl
        · rwa [upd_ne _ _ e1] at ho'
      exact H'.inj o1 o2 b c c' (f o1 h1) (f o2 h2)
  have hk2 : Keeps (own φ S.h) w (own (bind1 φ o .nil) (upd (upd S.h o (some ⟨[], e, s, false⟩)) p (some ⟨x.cells.set j (.mu o 0), x.ty, x.sz, x.nn⟩))) w := hk.trans (Keeps.less w fun b hb => (hown b).1 hb)
  have h' := h o ho
  rw [hcomm] at h'
  exact Code.wp_mono (fun _ _ _ q => Lift.trans (Ext.bind1 hφ .nil) hk2 q) (h' (bind1 φ o .nil) w a H2 (T.mono (Ext.bind1 hφ .nil) hk2))

/-! ### Functions -/

def argTm : Nat → List AV → Tm
  | _, [] => []
  | k, v :: vs => (k, v) :: argTm (k + 1) vs

theorem get_argTm : ∀ (vs : List AV) (k t : Nat), get (argTm k vs) t = if k ≤ t then vs.getD (t - k) .any else .any := by
  intro vs
  induction vs with
  | nil => intro k t; simp [argTm, get]
  | cons v vs ih =>
    intro k t
    simp only [argTm, get]
    by_cases e : k = t
    · subst e; simp
    · rw [if_neg e, ih]
      by_cases h : k + 1 ≤ t
      · rw [if_pos h, if_pos (by omega)]
        obtain ⟨j, rfl⟩ : ∃ j, t = k + 1 + j := ⟨t - (k + 1), by omega⟩
        rw [show k + 1 + j - (k + 1) = j by omega, show k + 1 + j - k = j + 1 by omega]
        simp
      · rw [if_neg h, if_neg (by omega)]

def resK (Θ : Types) (S : St) : List ResultVar → (List AV → Prop) → Prop
  | [], k => k []
  | .tmp t :: r, k => resK Θ S r fun vs => k (get S.tm t :: vs)
  | .cell t T :: r, k =>
    match get S.tm t with
    | .rop cs => loadA Θ T cs fun v => resK Θ S r fun vs => k (v :: vs)
    | .ptr o off => match S.h o with | some x => loadA Θ T (x.cells.drop off) fun v => resK Θ S r fun vs => k (v :: vs) | none => False
    | _ => False

def oneOf : List AV → AV
  | [v] => v
  | vs => .tup vs

def Fin (v : AV) (h : Heap) (Q : AV → Heap → Prop) : Prop := ∃ r h', GV v h r h' ∧ Q r h'

theorem asAddr_some (a : Addr) : asAddr (.pointer (some a)) = Pure.pure a := rfl

def rvS (tmps : Array Value) : ResultVar → Sem Value
  | .tmp t => Pure.pure (tmps.getD t undef)
  | .cell p t => do loadVar t (← asAddr (tmps.getD p undef))

theorem results_rvS (fn : Func) (tmps : Array Value) : results fn tmps = (fn.results.mapM (rvS tmps) >>= fun vs => Pure.pure (if h : vs.size = 1 then vs[0] else .tuple vs)) := by
  unfold results
  congr 1

theorem resK_run {P : Program} {Θ : Types} (hΘ : Θ.ok P) {S : St} {φ : Names} {w : World} {a : Act} (H : HR φ w S.h) (T : TR φ (own φ S.h) w S.n S.tm a) : ∀ (rs : List ResultVar) (k : List AV → Prop), resK Θ S rs k →
    ∃ us vs, (rs.mapM (rvS a.tmps)).run P w = .ok vs w ∧ us.length = vs.length ∧
      (∀ j u, us[j]? = some u → VR φ (own φ S.h) w u (vs.getD j undef)) ∧ k us := by
  intro rs
  induction rs with
  | nil => intro k h; exact ⟨[], [], by simp, rfl, by simp, h⟩
  | cons r rs ih =>
    intro k h
    have cons : ∀ (u : AV) (v : Value) (us : List AV) (vs : List Value), VR φ (own φ S.h) w u v → (∀ j u, us[j]? = some u → VR φ (own φ S.h) w u (vs.getD j undef)) → ∀ j u', (u :: us)[j]? = some u' → VR φ (own φ S.h) w u' ((v :: vs).getD j undef) := by
      intro u v us vs h1 h2 j u' hj
      cases j with
      | zero => simp at hj; subst hj; exact h1
      | succ j => exact h2 j u' (by simpa using hj)
    cases r with
    | tmp t =>
      simp only [resK] at h
      obtain ⟨us, vs, h1, h2, h3, h4⟩ := ih _ h
      exact ⟨get S.tm t :: us, a.tmps.getD t undef :: vs, by simp only [List.mapM_cons, rvS, Sem.run_bind, Sem.run_pure, Result.andThen_ok, h1], by simp [h2], cons _ _ _ _ (T.val t) h3, h4⟩
    | cell t ty =>
      simp only [resK] at h
      have hv := T.val t
      split at h
      · rename_i cs e
        rw [e] at hv
        generalize hq : a.tmps.getD t undef = X at hv
        cases hv with
        | rop _ b off f hB hb hcell hval =>
          obtain ⟨u, hu, hl⟩ := loadA_val h
          obtain ⟨y, l1, l2⟩ := loadVar_run hΘ hcell hval hl
          obtain ⟨us, vs, h1, h2, h3, h4⟩ := ih _ hu
          exact ⟨u :: us, y :: vs, by simp only [List.mapM_cons, rvS, Sem.run_bind, Sem.run_pure, Result.andThen_ok, hq, asAddr_some, l1, h1], by simp [h2], cons _ _ _ _ l2 h3, h4⟩
      · rename_i o off e
        rw [e] at hv
        generalize hq : a.tmps.getD t undef = X at hv
        split at h
        · rename_i x hx
          cases hv with
          | ptr _ _ b cap hl' =>
            obtain ⟨l, hl2, hr⟩ := H.ob _ _ hx
            rw [hl'] at hl2
            cases hl2
            obtain ⟨f, f1, f2⟩ := load_ob hr
            obtain ⟨u, hu, hl⟩ := loadA_val h
            obtain ⟨y, l1, l2⟩ := loadVar_run (b := b) (off := off) (f := fun j => f (off + j)) hΘ (fun j u hu => f1 (off + j) u (by rw [List.getElem?_drop] at hu; exact hu)) (fun j u hu => f2 (off + j) u (by rw [List.getElem?_drop] at hu; exact hu)) hl
            obtain ⟨us, vs, h1, h2, h3, h4⟩ := ih _ hu
            exact ⟨u :: us, y :: vs, by simp only [List.mapM_cons, rvS, Sem.run_bind, Sem.run_pure, Result.andThen_ok, hq, asAddr_some, l1, h1], by simp [h2], cons _ _ _ _ l2 h3, h4⟩
        · exact h.elim
      · exact h.elim

theorem AC.body {P : Program} {Θ : Types} (hΘ : Θ.ok P) {f : FuncId} {fn : Func} {c : Code} {us : List AV} {h : Heap} {Q : AV → Heap → Prop} (hf : P.funcs[f]? = some fn) (hb : fn.body = some c) (hname : (fn.name == "runtime.NumGoroutine") = false) (hlen : us.length ≤ fn.ntmps)
    (hw : AW P c (fun e S => (e = .normal ∨ e = .ret) ∧ resK Θ S fn.results.toList fun vs => Fin (oneOf vs) S.h Q) ⟨fn.ntmps, argTm 0 us, h⟩) : AC P f us h Q := by
  refine ⟨fun args w => ?_, fun φ w vs H V => ?_⟩
  · unfold callFunc
    simp only [Sem.run_bind, run_program, Result.andThen_ok, hf, hname, hb, Bool.false_eq_true, if_false, Option.isNone_some, Sem.run_pure]
  · refine calls_of_wp hf hb (Code.wp_mono ?_ (hw φ w { tmps := vs ++ Array.replicate (fn.ntmps - vs.size) undef, defers := [] } H ⟨rfl, ?_, ?_⟩))
    · intro e a' w' q
      obtain ⟨φ', S', e1, e2, e3, e4, e5, e6, e7⟩ := q
      obtain ⟨us', vs', r1, r2, r3, r, h', g, hq⟩ := resK_run hΘ e3 e5 _ _ e7
      have hres : (results fn a'.tmps).run P w' = .ok (if hs : vs'.toArray.size = 1 then vs'.toArray[0] else .tuple vs'.toArray) w' := by
        rw [results_rvS, Array.mapM_eq_mapM_toList]
        simp only [Sem.run_bind, Sem.run_map, r1, Result.andThen_ok, Sem.run_pure]
      have hone : VR φ' (own φ' S'.h) w' (oneOf us') (if hs : vs'.toArray.size = 1 then vs'.toArray[0] else .tuple vs'.toArray) := by
        by_cases hs : vs'.length = 1
        · obtain ⟨v, rfl⟩ := List.length_eq_one_iff.1 hs
          obtain ⟨u, rfl⟩ := List.length_eq_one_iff.1 (r2.trans hs)
          exact r3 0 u rfl
        · have : oneOf us' = .tup us' := by
            unfold oneOf
            split
            · rename_i v; simp at r2; omega
            · rfl
          rw [this, dif_neg (by simpa using hs)]
          exact .tup _ _ (by simpa using r2) (by simpa using r3)
      obtain ⟨φ2, g1, g2, g3, g4⟩ := g φ' w' _ e3 hone
      have fin : ∃ φ' h' r v, Ext φ φ' ∧ Keeps (own φ h) w (own φ' h') w' ∧ HR φ' w' h' ∧ Ending.returned (if hs : vs'.toArray.size = 1 then vs'.toArray[0] else .tuple vs'.toArray) = .returned v ∧ VR φ' (own φ' h') w' r v ∧ Q r h' :=
        ⟨φ2, h', r, _, e1.trans g1, e2.trans (Keeps.less w' g4), g2, rfl, g3, hq⟩
      rcases e6 with rfl | rfl
      · exact ⟨e5.defers, _, hres, fin⟩
      · exact ⟨e5.defers, _, hres, fin⟩
    · have := V.1
      simp
      omega
    · intro t
      rw [get_argTm, if_pos (Nat.zero_le _), Nat.sub_zero]
      by_cases ht : t < us.length
      · have h1 := V.2 t us[t] (List.getElem?_eq_getElem ht)
        have h2 : us.getD t .any = us[t] := by simp [ht]
        have hts : t < vs.size := by rw [← V.1]; exact ht
        have h3 : (vs ++ Array.replicate (fn.ntmps - vs.size) undef).getD t undef = vs.getD t undef := by simp [Array.getElem?_append, hts]
        rw [h2]
        show VR _ _ _ _ ((vs ++ Array.replicate (fn.ntmps - vs.size) undef).getD t undef)
        rw [h3]
        exact h1
      · have : us.getD t .any = .any := by simp [List.getElem?_eq_none (Nat.le_of_not_lt ht)]
        rw [this]
        exact .any _

end Go.Par
