/- Texts MaQ MaR MaS MaT MaU MaV MaW MaX MaY MaZ, one behind another. -/
import Derived.Test.YtaipmknajpbpkaaMgB
import Derived.ProofKit
import Derived.SizedLaws
import Derived.Below
set_option linter.unusedSimpArgs false
set_option linter.unusedVariables false
namespace Go.Par

/-- Two values of one world. -/
def GV (v : AV) (h : Heap) (r : AV) (h' : Heap) : Prop := ∀ φ w x, HR φ w h → VR φ (own φ h) w v x →
  ∃ φ', Ext φ φ' ∧ HR φ' w h' ∧ VR φ' (own φ' h') w r x ∧ ∀ b, own φ' h' b → own φ h b

theorem GV.refl (v : AV) (h : Heap) : GV v h v h := fun φ _ _ H V => ⟨φ, Ext.refl φ, H, V, fun _ q => q⟩
theorem GV.trans {v r u : AV} {h h' h'' : Heap} (a : GV v h r h') (b : GV r h' u h'') : GV v h u h'' := fun φ w x H V =>
  let ⟨φ', e, H', V', o⟩ := a φ w x H V
  let ⟨φ'', e', H'', V'', o'⟩ := b φ' w x H' V'
  ⟨φ'', e.trans e', H'', V'', fun b q => o b (o' b q)⟩

theorem GV.sub {v : AV} {h h' : Heap} (hs : subH h' h) : GV v h v h' := fun φ w _ H V =>
  let ⟨H', o⟩ := H.less hs
  ⟨φ, Ext.refl φ, H', V.weaken o, o⟩

theorem upd_none_sub (h : Heap) (o : Nat) : subH (upd h o none) h := by
  intro o' x hx
  by_cases e : o' = o
  · subst e; rw [upd_same] at hx; cases hx
  · rwa [upd_ne _ _ e] at hx

/-- An object that nobody will write any more. -/
theorem freeze_mu {φ : Names} {w : World} {h : Heap} (H : HR φ w h) {o n : Nat} {x : Ob} {X : Value} (hx : h o = some x) (V : VR φ (own φ h) w (.mu o n) X) {k : Bool} {xs : List AV} (hk : k = true → x.nn = true) (hn : xs.length = n)
    (hs : ∀ y ∈ xs, y.flat.length = x.sz) (hf : xs.flatMap AV.flat = x.cells.take (n * x.sz)) : VR φ (own φ (upd h o none)) w (.ro k xs) X := by
  obtain ⟨l, hl, hr⟩ := H.ob o x hx
  have hless := (H.less (upd_none_sub h o)).2
  cases V with
  | muN _ h1 =>
    rw [h1] at hl
    cases hl
    have hxs : xs = [] := List.eq_nil_of_length_eq_zero hn
    subst hxs
    refine .roNil k none 0 (fun e => ?_) (fun _ => rfl)
    have := hr.2
    rw [hk e] at this
    cases this
  | mu _ _ b cap h1 h2 =>
    rw [h1] at hl
    cases hl
    obtain ⟨cur, k1, k2, k3, k4, k5⟩ := hr
    have hnb : ¬ own φ (upd h o none) b := by
      rintro ⟨o', c', q1, q2⟩
      by_cases e : o' = o
      · subst e; simp [upd_same] at q1
      · rw [upd_ne _ _ e] at q1
        exact e (H.inj o' o b c' cap q1 (by simp [hx]) q2 (.inl h1))
    refine .ro k xs n b 0 cap x.sz (fun j => cur.getD j undef) hn.symm h2 hnb (Array.getElem?_eq_some_iff.1 k1).1 hs ?_ ?_
    · intro j u hu
      rw [hf, List.getElem?_take] at hu
      split at hu
      · have hj : j < cur.size := Nat.lt_of_lt_of_le (List.getElem?_eq_some_iff.1 hu).1 k4
        rw [Nat.zero_add, cell_of_row w b j cur x.ty (0, 0) k1]
        simp [hj]
      · cases hu
    · intro j u hu
      rw [hf, List.getElem?_take] at hu
      split at hu
      · exact (k5 j u hu).weaken hless
      · cases hu

theorem GV.freeze {o n : Nat} {h : Heap} {x : Ob} (hx : h o = some x) {k : Bool} {xs : List AV} (hk : k = true → x.nn = true) (hn : xs.length = n)
    (hs : ∀ y ∈ xs, y.flat.length = x.sz) (hf : xs.flatMap AV.flat = x.cells.take (n * x.sz)) : GV (.mu o n) h (.ro k xs) (upd h o none) := fun φ _ _ H V =>
  let ⟨H', ho⟩ := H.less (upd_none_sub h o)
  ⟨φ, Ext.refl φ, H', freeze_mu H hx V hk hn hs hf, ho⟩

/-! ### States -/

def EqAll (tm : Tm) : Tm → Prop
  | [] => True
  | (t, v) :: l => get tm t = v ∧ EqAll tm l

theorem EqAll.get {tm : Tm} : ∀ {l : Tm}, EqAll tm l → ∀ t, Par.get l t = .any ∨ Par.get tm t = Par.get l t := by
  intro l
  induction l with
  | nil => intro _ t; exact .inl rfl
  | cons p l ih =>
    obtain ⟨d, v⟩ := p
    intro h t
    simp only [Par.get]
    by_cases e : d = t
    · subst e; rw [if_pos rfl]; exact .inr h.1
    · rw [if_neg e]; exact ih h.2 t

theorem GStep.eq {S : St} {tm : Tm} {h : Heap} (ht : EqAll S.tm tm) (hh : subH h S.h) : GStep S ⟨S.n, tm, h⟩ := by
  refine ⟨rfl, fun φ w a H T => ?_⟩
  obtain ⟨H', ho⟩ := H.less hh
  refine ⟨φ, Ext.refl φ, H', ⟨T.defers, T.size, fun t => ?_⟩, ho⟩
  rcases ht.get t with e | e
  · rw [e]; exact .any _
  · rw [← e]; exact (T.val t).weaken ho

/-- A slot told otherwise. -/
theorem GStep.slot {S : St} {t : Nat} {v r : AV} {h' : Heap} (hv : get S.tm t = v) (g : GV v S.h r h') : GStep S ⟨S.n, (t, r) :: S.tm, h'⟩ := by
  refine ⟨rfl, fun φ w a H T => ?_⟩
  have V := T.val t
  rw [hv] at V
  obtain ⟨φ', e, H', V', ho⟩ := g φ w _ H V
  refine ⟨φ', e, H', ⟨T.defers, T.size, fun t' => ?_⟩, ho⟩
  simp only [get]
  by_cases e' : t = t'
  · subst e'; rw [if_pos rfl]; exact V'
  · rw [if_neg e']; exact ((T.val t').mono e (Keeps.less w ho))

/-- A variable that nobody will write any more. -/
theorem GStep.box {S : St} {t o : Nat} {x : Ob} (hv : get S.tm t = .ptr o 0) (hx : S.h o = some x) : GStep S ⟨S.n, (t, .rop x.cells) :: S.tm, upd S.h o none⟩ := by
  refine GStep.slot hv fun φ w X H V => ?_
  obtain ⟨H', ho⟩ := H.less (upd_none_sub S.h o)
  refine ⟨φ, Ext.refl φ, H', ?_, ho⟩
  obtain ⟨l, hl, hr⟩ := H.ob o x hx
  cases V with
  | ptr _ _ b cap h1 =>
    rw [h1] at hl
    cases hl
    obtain ⟨cur, k1, k2, k3, k4, k5⟩ := hr
    have hnb : ¬ own φ (upd S.h o none) b := by
      rintro ⟨o', c', q1, q2⟩
      by_cases e : o' = o
      · subst e; simp [upd_same] at q1
      · rw [upd_ne _ _ e] at q1
        exact e (H.inj o' o b c' cap q1 (by simp [hx]) q2 (.inl h1))
    refine .rop _ b 0 (fun j => cur.getD j undef) hnb (Array.getElem?_eq_some_iff.1 k1).1 ?_ ?_
    · intro j u hu
      have hj : j < cur.size := Nat.lt_of_lt_of_le (List.getElem?_eq_some_iff.1 hu).1 k4
      rw [Nat.zero_add, cell_of_row w b j cur x.ty (0, 0) k1]
      simp [hj]
    · intro j u hu
      exact (k5 j u hu).weaken ho

/-- A nil slice is an object of its own. -/
theorem AW.mine {P : Program} {c : Code} {Q : Exit → St → Prop} {S : St} (t : Nat) (e : TypeId) (s : Nat) (hv : get S.tm t = .nils) (h : ∀ o, S.h o = none → AW P c Q ⟨S.n, (t, .mu o 0) :: S.tm, upd S.h o (some ⟨[], e, s, false⟩)⟩) : AW P c Q S := by
  intro φ w a H T
  obtain ⟨o, hφ, ho⟩ := H.fresh
  have hk : Keeps (own φ S.h) w (own (bind1 φ o .nil) (upd S.h o (some ⟨[], e, s, false⟩))) w := Keeps.less w fun b hb => by
    rcases (own_name ho).1 hb with hb | ⟨c, hc⟩
    · exact hb
    · rcases hc with hc | hc <;> cases hc
  have H' : HR (bind1 φ o .nil) w (upd S.h o (some ⟨[], e, s, false⟩)) := H.name (.inl hφ) ho (fun b c e => by rcases e with e | e <;> cases e) hk (fun _ _ => rfl) ⟨rfl, rfl⟩
  have T' := T.mono (Ext.bind1 hφ .nil) hk
  have V := T.val t
  rw [hv] at V
  refine Code.wp_mono (fun _ _ _ q => Lift.trans (Ext.bind1 hφ .nil) hk q) (h o ho (bind1 φ o .nil) w a H' ⟨T'.defers, T'.size, fun t' => ?_⟩)
  simp only [get]
  by_cases e' : t = t'
  · subst e'
    rw [if_pos rfl]
    generalize a.tmps.getD t undef = X at V
    cases V
    exact .muN o (bind1_same _ _ _)
  · rw [if_neg e']; exact T'.val t'

/-- The same in an object's cell. -/
theorem AW.mineCell {P : Program} {c : Code} {Q : Exit → St → Prop} {S : St} (p j : Nat) (x : Ob) (e : TypeId) (s : Nat) (hx : S.h p = some x) (hv : x.cells[j]? = some .nils)
    (h : ∀ o, S.h o = none → AW P c Q ⟨S.n, S.tm, upd (upd S.h p (some ⟨x.cells.set j (.mu o 0), x.ty, x.sz, x.nn⟩)) o (some ⟨[], e, s, false⟩)⟩) : AW P c Q S := by
  intro φ w a H T
  obtain ⟨o, hφ, ho⟩ := H.fresh
  have hne : o ≠ p := by rintro rfl; rw [ho] at hx; cases hx
  have hk : Keeps (own φ S.h) w (own (bind1 φ o .nil) (upd S.h o (some ⟨[], e, s, false⟩))) w := Keeps.less w fun b hb => by
    rcases (own_name ho).1 hb with hb | ⟨c, hc⟩
    · exact hb
    · rcases hc with hc | hc <;> cases hc
  have H' : HR (bind1 φ o .nil) w (upd S.h o (some ⟨[], e, s, false⟩)) := H.name (.inl hφ) ho (fun b c e => by rcases e with e | e <;> cases e) hk (fun _ _ => rfl) ⟨rfl, rfl⟩
  have hcomm : upd (upd S.h p (some ⟨x.cells.set j (.mu o 0), x.ty, x.sz, x.nn⟩)) o (some ⟨[], e, s, false⟩) = upd (upd S.h o (some ⟨[], e, s, false⟩)) p (some ⟨x.cells.set j (.mu o 0), x.ty, x.sz, x.nn⟩) := by
    funext o'
    simp only [upd]
    by_cases e1 : o' = o
    · have : ¬ o' = p := fun e2 => hne (e1.symm.trans e2)
      simp [e1, hne]
    · simp [e1]
  have hown : ∀ b, own (bind1 φ o .nil) (upd (upd S.h o (some ⟨[], e, s, false⟩)) p (some ⟨x.cells.set j (.mu o 0), x.ty, x.sz, x.nn⟩)) b ↔ own (bind1 φ o .nil) (upd S.h o (some ⟨[], e, s, false⟩)) b := by
    intro b
    have f : ∀ o', (upd (upd S.h o (some ⟨[], e, s, false⟩)) p (some ⟨x.cells.set j (.mu o 0), x.ty, x.sz, x.nn⟩) o').isSome = (upd S.h o (some ⟨[], e, s, false⟩) o').isSome := by
      intro o'
      by_cases e1 : o' = p
      · subst e1; rw [upd_same, upd_ne _ _ (Ne.symm hne), hx]; rfl
      · rw [upd_ne _ _ e1]
    constructor
    · rintro ⟨o', c', h1, h2⟩; exact ⟨o', c', by rwa [f] at h1, h2⟩
    · rintro ⟨o', c', h1, h2⟩; exact ⟨o', c', by rwa [f], h2⟩
  have H2 : HR (bind1 φ o .nil) w (upd (upd S.h o (some ⟨[], e, s, false⟩)) p (some ⟨x.cells.set j (.mu o 0), x.ty, x.sz, x.nn⟩)) := by
    refine ⟨fun o' y hy => ?_, fun o1 o2 b c c' h1 h2 => ?_, H'.free⟩
    · by_cases e1 : o' = p
      · subst e1
        rw [upd_same] at hy
        cases hy
        obtain ⟨l, hl, hr⟩ := H'.ob o' x (by rw [upd_ne _ _ (Ne.symm hne)]; exact hx)
        refine ⟨l, hl, ?_⟩
        cases l with
        | nil => have := hr.1; rw [this] at hv; cases hv
        | res => exact hr.elim
        | blk b cap =>
          obtain ⟨cur, k1, k2, k3, k4, k5⟩ := hr
          refine ⟨cur, k1, k2, k3, by simpa using k4, fun j' u hu => ?_⟩
          simp only at hu
          by_cases ej : j' = j
          · subst ej
            have hjl : j' < x.cells.length := (List.getElem?_eq_some_iff.1 hv).1
            rw [List.getElem?_set_self hjl] at hu
            cases hu
            have := k5 j' _ hv
            generalize cur.getD j' undef = X at this
            cases this
            exact .muN o (bind1_same _ _ _)
          · rw [List.getElem?_set_ne (Ne.symm ej)] at hu
            exact (k5 j' u hu).weaken fun b hb => (hown b).1 hb
        | mp b =>
          obtain ⟨_, es, cl, k1, k2, k5⟩ := hr
          exfalso
          have := k5 j _ hv
          unfold entryV at this
          split at this
          · cases this
          · cases this
      · rw [upd_ne _ _ e1] at hy
        obtain ⟨l, hl, hr⟩ := H'.ob o' y hy
        refine ⟨l, hl, ?_⟩
        cases l with
        | nil => exact hr
        | res => exact hr.elim
        | blk b cap =>
          obtain ⟨cur, k1, k2, k3, k4, k5⟩ := hr
          exact ⟨cur, k1, k2, k3, k4, fun j' u hu => (k5 j' u hu).weaken fun b hb => (hown b).1 hb⟩
        | mp b => exact hr.weak fun _ _ V => V.weaken fun b hb => (hown b).1 hb
    · have f : ∀ o', (upd (upd S.h o (some ⟨[], e, s, false⟩)) p (some ⟨x.cells.set j (.mu o 0), x.ty, x.sz, x.nn⟩) o').isSome = true → (upd S.h o (some ⟨[], e, s, false⟩) o').isSome = true := by
        intro o' ho'
        by_cases e1 : o' = p
        · subst e1; rw [upd_ne _ _ (Ne.symm hne), hx]; rfl
        · rwa [upd_ne _ _ e1] at ho'
      exact H'.inj o1 o2 b c c' (f o1 h1) (f o2 h2)
  have hk2 : Keeps (own φ S.h) w (own (bind1 φ o .nil) (upd (upd S.h o (some ⟨[], e, s, false⟩)) p (some ⟨x.cells.set j (.mu o 0), x.ty, x.sz, x.nn⟩))) w := hk.trans (Keeps.less w fun b hb => (hown b).1 hb)
  have h' := h o ho
  rw [hcomm] at h'
  exact Code.wp_mono (fun _ _ _ q => Lift.trans (Ext.bind1 hφ .nil) hk2 q) (h' (bind1 φ o .nil) w a H2 (T.mono (Ext.bind1 hφ .nil) hk2))

/-! ### Functions -/

def argTm : Nat → List AV → Tm
  | _, [] => []
  | k, v :: vs => (k, v) :: argTm (k + 1) vs

theorem get_argTm : ∀ (vs : List AV) (k t : Nat), get (argTm k vs) t = if k ≤ t then vs.getD (t - k) .any else .any := by
  intro vs
  induction vs with
  | nil => intro k t; simp [argTm, get]
  | cons v vs ih =>
    intro k t
    simp only [argTm, get]
    by_cases e : k = t
    · subst e; simp
    · rw [if_neg e, ih]
      by_cases h : k + 1 ≤ t
      · rw [if_pos h, if_pos (by omega)]
        obtain ⟨j, rfl⟩ : ∃ j, t = k + 1 + j := ⟨t - (k + 1), by omega⟩
        rw [show k + 1 + j - (k + 1) = j by omega, show k + 1 + j - k = j + 1 by omega]
        simp
      · rw [if_neg h, if_neg (by omega)]

def resK (Θ : Types) (S : St) : List ResultVar → (List AV → Prop) → Prop
  | [], k => k []
  | .tmp t :: r, k => resK Θ S r fun vs => k (get S.tm t :: vs)
  | .cell t T :: r, k =>
    match get S.tm t with
    | .rop cs => loadA Θ T cs fun v => resK Θ S r fun vs => k (v :: vs)
    | .ptr o off => match S.h o with | some x => loadA Θ T (x.cells.drop off) fun v => resK Θ S r fun vs => k (v :: vs) | none => False
    | _ => False

def oneOf : List AV → AV
  | [v] => v
  | vs => .tup vs

def Fin (v : AV) (h : Heap) (Q : AV → Heap → Prop) : Prop := ∃ r h', GV v h r h' ∧ Q r h'

theorem asAddr_some (a : Addr) : asAddr (.pointer (some a)) = Pure.pure a := rfl

def rvS (tmps : Array Value) : ResultVar → Sem Value
  | .tmp t => Pure.pure (tmps.getD t undef)
  | .cell p t => do loadVar t (← asAddr (tmps.getD p undef))

theorem results_rvS (fn : Func) (tmps : Array Value) : results fn tmps = (fn.results.mapM (rvS tmps) >>= fun vs => Pure.pure (if h : vs.size = 1 then vs[0] else .tuple vs)) := by
  unfold results
  congr 1

theorem resK_run {P : Program} {Θ : Types} (hΘ : Θ.ok P) {S : St} {φ : Names} {w : World} {a : Act} (H : HR φ w S.h) (T : TR φ (own φ S.h) w S.n S.tm a) : ∀ (rs : List ResultVar) (k : List AV → Prop), resK Θ S rs k →
    ∃ us vs, (rs.mapM (rvS a.tmps)).run P w = .ok vs w ∧ us.length = vs.length ∧
      (∀ j u, us[j]? = some u → VR φ (own φ S.h) w u (vs.getD j undef)) ∧ k us := by
  intro rs
  induction rs with
  | nil => intro k h; exact ⟨[], [], by simp, rfl, by simp, h⟩
  | cons r rs ih =>
    intro k h
    have cons : ∀ (u : AV) (v : Value) (us : List AV) (vs : List Value), VR φ (own φ S.h) w u v → (∀ j u, us[j]? = some u → VR φ (own φ S.h) w u (vs.getD j undef)) → ∀ j u', (u :: us)[j]? = some u' → VR φ (own φ S.h) w u' ((v :: vs).getD j undef) := by
      intro u v us vs h1 h2 j u' hj
      cases j with
      | zero => simp at hj; subst hj; exact h1
      | succ j => exact h2 j u' (by simpa using hj)
    cases r with
    | tmp t =>
      simp only [resK] at h
      obtain ⟨us, vs, h1, h2, h3, h4⟩ := ih _ h
      exact ⟨get S.tm t :: us, a.tmps.getD t undef :: vs, by simp only [List.mapM_cons, rvS, Sem.run_bind, Sem.run_pure, Result.andThen_ok, h1], by simp [h2], cons _ _ _ _ (T.val t) h3, h4⟩
    | cell t ty =>
      simp only [resK] at h
      have hv := T.val t
      split at h
      · rename_i cs e
        rw [e] at hv
        generalize hq : a.tmps.getD t undef = X at hv
        cases hv with
        | rop _ b off f hB hb hcell hval =>
          obtain ⟨u, hu, hl⟩ := loadA_val h
          obtain ⟨y, l1, l2⟩ := loadVar_run hΘ hcell hval hl
          obtain ⟨us, vs, h1, h2, h3, h4⟩ := ih _ hu
          exact ⟨u :: us, y :: vs, by simp only [List.mapM_cons, rvS, Sem.run_bind, Sem.run_pure, Result.andThen_ok, hq, asAddr_some, l1, h1], by simp [h2], cons _ _ _ _ l2 h3, h4⟩
      · rename_i o off e
        rw [e] at hv
        generalize hq : a.tmps.getD t undef = X at hv
        split at h
        · rename_i x hx
          cases hv with
          | ptr _ _ b cap hl' =>
            obtain ⟨l, hl2, hr⟩ := H.ob _ _ hx
            rw [hl'] at hl2
            cases hl2
            obtain ⟨f, f1, f2⟩ := load_ob hr
            obtain ⟨u, hu, hl⟩ := loadA_val h
            obtain ⟨y, l1, l2⟩ := loadVar_run (b := b) (off := off) (f := fun j => f (off + j)) hΘ (fun j u hu => f1 (off + j) u (by rw [List.getElem?_drop] at hu; exact hu)) (fun j u hu => f2 (off + j) u (by rw [List.getElem?_drop] at hu; exact hu)) hl
            obtain ⟨us, vs, h1, h2, h3, h4⟩ := ih _ hu
            exact ⟨u :: us, y :: vs, by simp only [List.mapM_cons, rvS, Sem.run_bind, Sem.run_pure, Result.andThen_ok, hq, asAddr_some, l1, h1], by simp [h2], cons _ _ _ _ l2 h3, h4⟩
        · exact h.elim
      · exact h.elim

theorem AC.body {P : Program} {Θ : Types} (hΘ : Θ.ok P) {f : FuncId} {fn : Func} {c : Code} {us : List AV} {h : Heap} {Q : AV → Heap → Prop} (hf : P.funcs[f]? = some fn) (hb : fn.body = some c) (hname : (fn.name == "runtime.NumGoroutine") = false) (hlen : us.length ≤ fn.ntmps)
    (hw : AW P c (fun e S => (e = .normal ∨ e = .ret) ∧ resK Θ S fn.results.toList fun vs => Fin (oneOf vs) S.h Q) ⟨fn.ntmps, argTm 0 us, h⟩) : AC P f us h Q := by
  refine ⟨fun args w => ?_, fun φ w vs H V => ?_⟩
  · unfold callFunc
    simp only [Sem.run_bind, run_program, Result.andThen_ok, hf, hname, hb, Bool.false_eq_true, if_false, Option.isNone_some, Sem.run_pure]
  · refine calls_of_wp hf hb (Code.wp_mono ?_ (hw φ w { tmps := vs ++ Array.replicate (fn.ntmps - vs.size) undef, defers := [] } H ⟨rfl, ?_, ?_⟩))
    · intro e a' w' q
      obtain ⟨φ', S', e1, e2, e3, e4, e5, e6, e7⟩ := q
      obtain ⟨us', vs', r1, r2, r3, r, h', g, hq⟩ := resK_run hΘ e3 e5 _ _ e7
      have hres : (results fn a'.tmps).run P w' = .ok (if hs : vs'.toArray.size = 1 then vs'.toArray[0] else .tuple vs'.toArray) w' := by
        rw [results_rvS, Array.mapM_eq_mapM_toList]
        simp only [Sem.run_bind, Sem.run_map, r1, Result.andThen_ok, Sem.run_pure]
      have hone : VR φ' (own φ' S'.h) w' (oneOf us') (if hs : vs'.toArray.size = 1 then vs'.toArray[0] else .tuple vs'.toArray) := by
        by_cases hs : vs'.length = 1
        · obtain ⟨v, rfl⟩ := List.length_eq_one_iff.1 hs
          obtain ⟨u, rfl⟩ := List.length_eq_one_iff.1 (r2.trans hs)
          exact r3 0 u rfl
        · have : oneOf us' = .tup us' := by
            unfold oneOf
            split
            · rename_i v; simp at r2; omega
            · rfl
          rw [this, dif_neg (by simpa using hs)]
          exact .tup _ _ (by simpa using r2) (by simpa using r3)
      obtain ⟨φ2, g1, g2, g3, g4⟩ := g φ' w' _ e3 hone
      have fin : ∃ φ' h' r v, Ext φ φ' ∧ Keeps (own φ h) w (own φ' h') w' ∧ HR φ' w' h' ∧ Ending.returned (if hs : vs'.toArray.size = 1 then vs'.toArray[0] else .tuple vs'.toArray) = .returned v ∧ VR φ' (own φ' h') w' r v ∧ Q r h' :=
        ⟨φ2, h', r, _, e1.trans g1, e2.trans (Keeps.less w' g4), g2, rfl, g3, hq⟩
      rcases e6 with rfl | rfl
      · exact ⟨e5.defers, _, hres, fin⟩
      · exact ⟨e5.defers, _, hres, fin⟩
    · have := V.1
      simp
      omega
    · intro t
      rw [get_argTm, if_pos (Nat.zero_le _), Nat.sub_zero]
      by_cases ht : t < us.length
      · have h1 := V.2 t us[t] (List.getElem?_eq_getElem ht)
        have h2 : us.getD t .any = us[t] := by simp [ht]
        have hts : t < vs.size := by rw [← V.1]; exact ht
        have h3 : (vs ++ Array.replicate (fn.ntmps - vs.size) undef).getD t undef = vs.getD t undef := by simp [Array.getElem?_append, hts]
        rw [h2]
        show VR _ _ _ _ ((vs ++ Array.replicate (fn.ntmps - vs.size) undef).getD t undef)
        rw [h3]
        exact h1
      · have : us.getD t .any = .any := by simp [List.getElem?_eq_none (Nat.le_of_not_lt ht)]
        rw [this]
        exact .any _

end Go.Par

namespace Go.Par

theorem TD.mk' {P : Program} {t : TypeId} {d : TD} (h : (P.info? t).map (fun i => (i.size, i.bytes, i.zero)) = some (d.size, d.bytes, some d.zero)) (hs : d.sh.ok P t) : d.ok P t := by
  refine ⟨?_, hs⟩
  cases hi : P.info? t with
  | none => rw [hi] at h; cases h
  | some i =>
    rw [hi] at h
    simp only [Option.map_some, Option.some.injEq, Prod.mk.injEq] at h
    exact ⟨i, rfl, h.1, h.2.1, h.2.2⟩

theorem Sh.mkStruct {P : Program} {t : TypeId} {fs : List (Nat × Nat × TypeId)} (h : (match P.underlying t with | some (.struct l) => some (l.toList.map fun f => (f.offset, (P.info? f.type).map (·.size), f.type)) | _ => none) = some (fs.map fun f => (f.1, some f.2.1, f.2.2))) :
    (Sh.struct fs).ok P t := by
  split at h
  · rename_i l hl
    exact ⟨l, hl, by simpa using h⟩
  · cases h

theorem Sh.mkPrim {P : Program} {t : TypeId} (h : (P.underlying t).any (fun d => match d with | .struct _ | .array _ _ => false | _ => true) = true) : Sh.prim.ok P t := h
theorem Sh.mkBool {P : Program} {t : TypeId} (h : P.underlying t = some .bool) : Sh.bool.ok P t := h
theorem Sh.mkInt {P : Program} {t : TypeId} {k : IntKind} (h : P.underlying t = some (.int k)) : (Sh.int k).ok P t := h
theorem Sh.mkSlice {P : Program} {t e : TypeId} (h : P.underlying t = some (.slice e)) : (Sh.slice e).ok P t := h
theorem Sh.mkMap {P : Program} {t k e : TypeId} (h : P.underlying t = some (.map k e)) : (Sh.map k e).ok P t := h
theorem Sh.mkArr {P : Program} {t e : TypeId} {n : Nat} (h : P.underlying t = some (.array n e)) : (Sh.arr n e).ok P t := h

end Go.Par

namespace Go.Par

theorem AW.region {P : Program} {Θ : Types} (M : List Nat) (hΘ : Θ.ok P) {ops : Array Oper} {id : Nat} {Q : Exit → St → Prop} {S : St} (h : vcOps P Θ M ops.toList ops.toList (Q .normal) S) : AW P (.region id ops false) Q S :=
  fun φ w a H T => wp_region_list (vcOps_run hΘ _ S φ w a H T h)

theorem Fin.refl {v : AV} {h : Heap} {Q : AV → Heap → Prop} (hq : Q v h) : Fin v h Q := ⟨v, h, GV.refl v h, hq⟩

theorem then_normal {K : St → Prop} {Q : Exit → St → Prop} {S : St} : Then K Q .normal S = K S := rfl
theorem then_ret {K : St → Prop} {Q : Exit → St → Prop} {S : St} : Then K Q .ret S = Q .ret S := rfl
theorem then_exit {K : St → Prop} {Q : Exit → St → Prop} {S : St} {i : Nat} : Then K Q (.exit i) S = Q (.exit i) S := rfl
theorem inBlock_normal {Q : Exit → St → Prop} {S : St} {id : Nat} : InBlock id Q .normal S = Q .normal S := rfl
theorem inBlock_ret {Q : Exit → St → Prop} {S : St} {id : Nat} : InBlock id Q .ret S = Q .ret S := rfl
theorem inBlock_exit {Q : Exit → St → Prop} {S : St} {id i : Nat} : InBlock id Q (.exit i) S = if i = id then Q .normal S else Q (.exit i) S := rfl

theorem get_nil (t : Nat) : get [] t = .any := rfl
theorem get_cons (d : Nat) (v : AV) (l : Tm) (t : Nat) : get ((d, v) :: l) t = if d = t then v else get l t := rfl
theorem putA_some (tm : Tm) (d : Nat) (v : AV) : putA tm (some d) v = (d, v) :: tm := rfl
theorem putA_none (tm : Tm) (v : AV) : putA tm none v = tm := rfl
theorem ite_bool (c : Prop) [Decidable c] (x y : Bool) : (if c then AV.bool x else AV.bool y) = AV.bool (if c then x else y) := by split <;> rfl
theorem flat_int (k : IntKind) (n : Int) : (AV.int k n).flat = [.int k n] := rfl
theorem flat_bool (b : Bool) : (AV.bool b).flat = [.bool b] := rfl
theorem flat_nils : AV.nils.flat = [.nils] := rfl
theorem flat_ro (k : Bool) (xs : List AV) : (AV.ro k xs).flat = [.ro k xs] := rfl
theorem flat_mu (o n : Nat) : (AV.mu o n).flat = [.mu o n] := rfl
theorem flat_mus (o a n : Nat) : (AV.mus o a n).flat = [.mus o a n] := rfl
theorem flat_mp (o : Nat) : (AV.mp o).flat = [.mp o] := rfl
theorem flat_ptr (o n : Nat) : (AV.ptr o n).flat = [.ptr o n] := rfl
theorem flat_rop (cs : List AV) : (AV.rop cs).flat = [.rop cs] := rfl
theorem flat_nilp : AV.nilp.flat = [.nilp] := rfl
theorem flat_agg (cs : List AV) : (AV.agg cs).flat = cs := rfl
theorem flat_tup (cs : List AV) : (AV.tup cs).flat = [.tup cs] := rfl
theorem flat_clo (f : FuncId) (cs : List AV) : (AV.clo f cs).flat = [.clo f cs] := rfl
theorem flat_bnd (f : FuncId) (cs : List AV) : (AV.bnd f cs).flat = [.bnd f cs] := rfl
theorem flat_nilf : AV.nilf.flat = [.nilf] := rfl
theorem flat_ifc (t : TypeId) (v : AV) : (AV.ifc t v).flat = [.ifc t v] := rfl
theorem flat_nili : AV.nili.flat = [.nili] := rfl
theorem flat_any : AV.any.flat = [.any] := rfl

theorem known_int (k : IntKind) (n : Int) : (AV.int k n).known = true := rfl
theorem one_int (k : IntKind) (n : Int) : (AV.int k n).one = true := rfl
theorem known_bool (b : Bool) : (AV.bool b).known = true := rfl
theorem one_bool (b : Bool) : (AV.bool b).one = true := rfl
theorem known_nils  : AV.nils.known = true := rfl
theorem one_nils  : AV.nils.one = true := rfl
theorem known_ro (k : Bool) (xs : List AV) : (AV.ro k xs).known = true := rfl
theorem one_ro (k : Bool) (xs : List AV) : (AV.ro k xs).one = true := rfl
theorem known_mu (o n : Nat) : (AV.mu o n).known = true := rfl
theorem one_mu (o n : Nat) : (AV.mu o n).one = true := rfl
theorem known_mus (o a n : Nat) : (AV.mus o a n).known = true := rfl
theorem one_mus (o a n : Nat) : (AV.mus o a n).one = true := rfl
theorem known_mp (o : Nat) : (AV.mp o).known = true := rfl
theorem one_mp (o : Nat) : (AV.mp o).one = true := rfl
theorem known_ptr (o n : Nat) : (AV.ptr o n).known = true := rfl
theorem one_ptr (o n : Nat) : (AV.ptr o n).one = true := rfl
theorem known_rop (cs : List AV) : (AV.rop cs).known = true := rfl
theorem one_rop (cs : List AV) : (AV.rop cs).one = true := rfl
theorem known_nilp  : AV.nilp.known = true := rfl
theorem one_nilp  : AV.nilp.one = true := rfl
theorem known_agg (cs : List AV) : (AV.agg cs).known = true := rfl
theorem one_agg (cs : List AV) : (AV.agg cs).one = false := rfl
theorem known_tup (cs : List AV) : (AV.tup cs).known = true := rfl
theorem one_tup (cs : List AV) : (AV.tup cs).one = false := rfl
theorem known_clo (f : FuncId) (cs : List AV) : (AV.clo f cs).known = true := rfl
theorem one_clo (f : FuncId) (cs : List AV) : (AV.clo f cs).one = true := rfl
theorem known_bnd (f : FuncId) (cs : List AV) : (AV.bnd f cs).known = true := rfl
theorem one_bnd (f : FuncId) (cs : List AV) : (AV.bnd f cs).one = true := rfl
theorem known_nilf  : AV.nilf.known = true := rfl
theorem one_nilf  : AV.nilf.one = true := rfl
theorem known_ifc (t : TypeId) (v : AV) : (AV.ifc t v).known = true := rfl
theorem one_ifc (t : TypeId) (v : AV) : (AV.ifc t v).one = true := rfl
theorem known_nili  : AV.nili.known = true := rfl
theorem one_nili  : AV.nili.one = true := rfl
theorem known_any  : AV.any.known = false := rfl
theorem one_any  : AV.any.one = false := rfl
theorem allOne_nil : allOne [] = True := by simp [allOne]
theorem allOne_cons (u : AV) (l : List AV) : allOne (u :: l) = (u.one = true ∧ allOne l) := by simp [allOne]

attribute [simp] flat_mus flat_mp known_mus one_mus known_mp one_mp srcA dstA keyI flat_bnd known_bnd one_bnd known_int one_int known_bool one_bool known_nils one_nils known_ro one_ro known_mu one_mu known_ptr one_ptr known_rop one_rop known_nilp one_nilp known_agg one_agg known_tup one_tup known_clo one_clo known_nilf one_nilf known_ifc one_ifc known_nili one_nili known_any one_any allOne_nil allOne_cons

attribute [simp] vcOps vcOp pOp ev get_nil get_cons putA_some putA_none dstOf then_normal then_ret then_exit inBlock_normal inBlock_ret inBlock_exit loadA binA eqA intsA lenA listA Sh.agg argTm resK oneOf ite_bool flat_int flat_bool flat_nils flat_ro flat_mu flat_ptr flat_rop flat_nilp flat_agg flat_clo flat_nilf flat_ifc flat_nili flat_any flat_tup EqAll upd_same absV absV.absV1 fillA setAt

end Go.Par

namespace Go.Par

/-! ### Loops -/
theorem AW.loopI {P : Program} {c : Code} {Q : Exit → St → Prop} {S : St} {X : Type} (I : X → Prop) (inv : X → St) (μ : X → Nat) (x0 : X) (hI : I x0) (h0 : GStep S (inv x0))
    (round : ∀ x, I x → AW P c (Then (fun S' => ∃ x', I x' ∧ μ x' < μ x ∧ GStep S' (inv x')) Q) (inv x)) : AW P (.loop c) Q S := by
  refine AW.loop (X := {x // I x}) (fun x => inv x.1) (fun x => μ x.1) ⟨x0, hI⟩ h0 fun x => ?_
  refine (round x.1 x.2).mono fun e S h => ?_
  cases e with
  | normal => obtain ⟨x', h1, h2, h3⟩ := h; exact ⟨⟨x', h1⟩, h3, h2⟩
  | _ => exact h

/-! ### What a value may be taken for -/
def wk : AV → AV → Prop
  | .nils, .ro false [] => True
  | .ro k xs, .ro k' ys => xs = ys ∧ (k' = true → k = true)
  | u, u' => u = u'

theorem VR.wk {φ : Names} {B : Nat → Prop} {w : World} {u u' : AV} {v : Value} (h : VR φ B w u v) (hw : wk u u') : VR φ B w u' v := by
  unfold Par.wk at hw
  split at hw
  · cases h; exact .roNil false none 0 (by simp) (by simp)
  · obtain ⟨rfl, hk⟩ := hw
    cases h with
    | roNil k a c ha hc => exact .roNil _ a c (fun e => ha (hk e)) hc
    | ro k xs n b off c s f hn hc hB hb hs hcell hval => exact .ro _ _ n b off c s f hn hc hB hb hs hcell hval
  · subst hw; exact h

/-- A value of which no part is told not to be nil. -/
def weak : AV → AV
  | .ro _ xs => .ro false (weakL xs)
  | .nils => .ro false []
  | .agg cs => .agg (weakL cs)
  | .rop cs => .rop (weakL cs)
  | .clo f cs => .clo f (weakL cs)
  | u => u
where weakL : List AV → List AV
  | [] => []
  | u :: us => weak u :: weakL us
theorem weakL_map : ∀ l : List AV, weak.weakL l = l.map weak
  | [] => rfl
  | u :: us => congrArg (weak u :: ·) (weakL_map us)
@[simp] theorem weak_ro (k : Bool) (xs : List AV) : weak (.ro k xs) = .ro false (xs.map weak) := by rw [← weakL_map]; rfl
@[simp] theorem weak_agg (xs : List AV) : weak (.agg xs) = .agg (xs.map weak) := by rw [← weakL_map]; rfl
@[simp] theorem weak_rop (xs : List AV) : weak (.rop xs) = .rop (xs.map weak) := by rw [← weakL_map]; rfl
@[simp] theorem weak_clo (f : FuncId) (xs : List AV) : weak (.clo f xs) = .clo f (xs.map weak) := by rw [← weakL_map]; rfl
@[simp] theorem weak_nils : weak .nils = .ro false [] := rfl
@[simp] theorem weak_int (k : IntKind) (n : Int) : weak (.int k n) = .int k n := rfl
@[simp] theorem weak_bool (b : Bool) : weak (.bool b) = .bool b := rfl
@[simp] theorem weak_mu (o n : Nat) : weak (.mu o n) = .mu o n := rfl
@[simp] theorem weak_mus (o a n : Nat) : weak (.mus o a n) = .mus o a n := rfl
@[simp] theorem weak_mp (o : Nat) : weak (.mp o) = .mp o := rfl
@[simp] theorem weak_ptr (o n : Nat) : weak (.ptr o n) = .ptr o n := rfl
@[simp] theorem weak_nilp : weak .nilp = .nilp := rfl
@[simp] theorem weak_nilf : weak .nilf = .nilf := rfl
theorem weak_flat (u : AV) : (weak u).flat = u.flat.map weak := by cases u <;> simp [AV.flat] <;> rfl
theorem weak_flats (xs : List AV) : (xs.map weak).flatMap AV.flat = (xs.flatMap AV.flat).map weak := by
  induction xs with
  | nil => rfl
  | cons a l ih => simp only [List.map_cons, List.flatMap_cons, List.map_append, ih, weak_flat]

theorem VR.weak {φ : Names} {B : Nat → Prop} {w : World} {u : AV} {v : Value} (h : VR φ B w u v) : VR φ B w (weak u) v := by
  induction h with
  | any v => exact .any v
  | int k n => exact .int k n
  | bool b => exact .bool b
  | nils => exact .roNil false none 0 (by simp) (by simp)
  | roNil k a c ha hc => exact .roNil false a c (by simp) hc
  | ro k xs n b off c s f hn hc hB hb hs hcell hval ih =>
    rw [weak_ro]
    refine .ro false _ n b off c s f (by simpa using hn) hc hB hb ?_ ?_ ?_
    · intro x hx
      obtain ⟨y, hy, rfl⟩ := List.mem_map.1 hx
      rw [weak_flat, List.length_map]; exact hs y hy
    · intro j u hj
      rw [weak_flats, List.getElem?_map, Option.map_eq_some_iff] at hj
      obtain ⟨y, hy, rfl⟩ := hj
      exact hcell j y hy
    · intro j u hj
      rw [weak_flats, List.getElem?_map, Option.map_eq_some_iff] at hj
      obtain ⟨y, hy, rfl⟩ := hj
      exact ih j y hy
  | muN o h => exact .muN o h
  | mu o n b cap h hn => exact .mu o n b cap h hn
  | mus o off n b cap c h hn hc => exact .mus o off n b cap c h hn hc
  | mp o b h => exact .mp o b h
  | ptr o off b cap h => exact .ptr o off b cap h
  | rop cs b off f hB hb hcell hval ih =>
    rw [weak_rop]
    refine .rop _ b off f hB hb ?_ ?_
    · intro j u hj
      rw [List.getElem?_map, Option.map_eq_some_iff] at hj
      obtain ⟨y, hy, rfl⟩ := hj
      exact hcell j y hy
    · intro j u hj
      rw [List.getElem?_map, Option.map_eq_some_iff] at hj
      obtain ⟨y, hy, rfl⟩ := hj
      exact ih j y hy
  | nilp => exact .nilp
  | agg cs vs hl h ih =>
    rw [weak_agg]
    refine .agg _ vs (by simpa using hl) fun j u hj => ?_
    rw [List.getElem?_map, Option.map_eq_some_iff] at hj
    obtain ⟨y, hy, rfl⟩ := hj
    exact ih j y hy
  | tup cs vs hl h ih => exact .tup cs vs hl h
  | clo f cs vs hl h ih =>
    rw [weak_clo]
    refine .clo f _ vs (by simpa using hl) fun j u hj => ?_
    rw [List.getElem?_map, Option.map_eq_some_iff] at hj
    obtain ⟨y, hy, rfl⟩ := hj
    exact ih j y hy
  | bnd f cs vs hl h ih => exact .bnd f cs vs hl h
  | nilf => exact .nilf
  | ifc t u v h ih => exact .ifc t u v h
  | nili => exact .nili

def wks : List AV → List AV → Prop
  | [], [] => True
  | u :: us, v :: vs => (wk u v ∨ weak u = v) ∧ wks us vs
  | _, _ => False

theorem wks.vrs {φ : Names} {B : Nat → Prop} {w : World} : ∀ {us us' : List AV} {k : Nat} {vs : Array Value}, wks us us' → (us.length + k = vs.size ∧ ∀ j u, us[j]? = some u → VR φ B w u (vs.getD (j + k) undef)) →
    us'.length + k = vs.size ∧ ∀ j u, us'[j]? = some u → VR φ B w u (vs.getD (j + k) undef) := by
  intro us
  induction us with
  | nil => intro us' k vs h hv; cases us' with | nil => exact hv | cons a b => exact h.elim
  | cons u us ih =>
    intro us' k vs h hv
    cases us' with
    | nil => exact h.elim
    | cons u' us' =>
      obtain ⟨h1, h2⟩ := h
      obtain ⟨g1, g2⟩ := ih (k := k + 1) (vs := vs) h2 ⟨by have := hv.1; simp at this; omega, fun j u hu => by
        have := hv.2 (j + 1) u (by simpa using hu)
        rwa [show j + 1 + k = j + (k + 1) by omega] at this⟩
      refine ⟨by simp; omega, fun j x hx => ?_⟩
      cases j with
      | zero =>
        simp at hx
        subst hx
        rcases h1 with h1 | h1
        · exact (hv.2 0 u rfl).wk h1
        · subst h1; exact (hv.2 0 u rfl).weak
      | succ j =>
        have := g2 j x (by simpa using hx)
        rwa [show j + (k + 1) = j + 1 + k by omega] at this

theorem AC.wk {P : Program} {f : FuncId} {us us' : List AV} {h : Heap} {Q : AV → Heap → Prop} (hw : wks us us') (H : AC P f us' h Q) : AC P f us h Q :=
  ⟨H.1, fun φ w vs h1 h2 => H.2 φ w vs h1 (by
    have := hw.vrs (k := 0) (vs := vs) (by simpa [VRs] using h2)
    simpa [VRs] using this)⟩

theorem Pure.wk {P : Program} {f : FuncId} {us us' : List AV} {r : AV} (hw : wks us us') (H : Pure P f us' r) : Pure P f us r := fun h => (H h).wk hw

/-- A call of a function that only reckons. -/
theorem Pure.use {P : Program} {f : FuncId} {us us' : List AV} {r : AV} {h : Heap} {Q : AV → Heap → Prop} (H : Pure P f us' r) (hw : wks us us') (hq : Q r h) : AC P f us h Q := (H.wk hw).ac hq

theorem wk_refl (u : AV) : wk u u := by
  unfold Par.wk
  split <;> simp_all

@[simp] theorem wks_refl : ∀ (us : List AV), wks us us
  | [] => trivial
  | u :: us => ⟨.inl (wk_refl u), wks_refl us⟩
@[simp] theorem wks_nil : wks [] [] = True := rfl
@[simp] theorem wks_cons (u v : AV) (us vs : List AV) : wks (u :: us) (v :: vs) = ((wk u v ∨ weak u = v) ∧ wks us vs) := rfl
@[simp] theorem wk_ro (k k' : Bool) (xs ys : List AV) : wk (.ro k xs) (.ro k' ys) = (xs = ys ∧ (k' = true → k = true)) := by
  unfold Par.wk; split <;> simp_all
@[simp] theorem wk_nils : wk .nils (.ro false []) = True := rfl
@[simp] theorem wk_int (k k' : IntKind) (n n' : Int) : wk (.int k n) (.int k' n') = (AV.int k n = .int k' n') := rfl
@[simp] theorem wk_bool (b b' : Bool) : wk (.bool b) (.bool b') = (AV.bool b = .bool b') := rfl
@[simp] theorem wk_agg (b b' : List AV) : wk (.agg b) (.agg b') = (AV.agg b = .agg b') := rfl
@[simp] theorem weak_bnd (f : FuncId) (xs : List AV) : weak (.bnd f xs) = .bnd f xs := rfl
@[simp] theorem wk_bnd (f f' : FuncId) (b b' : List AV) : wk (.bnd f b) (.bnd f' b') = (AV.bnd f b = .bnd f' b') := rfl
@[simp] theorem wk_clo (f f' : FuncId) (b b' : List AV) : wk (.clo f b) (.clo f' b') = (AV.clo f b = .clo f' b') := rfl
@[simp] theorem wk_rop (b b' : List AV) : wk (.rop b) (.rop b') = (AV.rop b = .rop b') := rfl
@[simp] theorem wk_ptr (o o' n n' : Nat) : wk (.ptr o n) (.ptr o' n') = (AV.ptr o n = .ptr o' n') := rfl
@[simp] theorem wk_mu (o o' n n' : Nat) : wk (.mu o n) (.mu o' n') = (AV.mu o n = .mu o' n') := rfl

/-! ### Heaps -/
@[simp] theorem upd_upd (h : Heap) (o : Nat) (x y : Option Ob) : upd (upd h o x) o y = upd h o y := by
  funext o'; simp only [upd]; split <;> rfl
theorem upd_none_id {h : Heap} {o : Nat} (hn : h o = none) : upd h o none = h := by
  funext o'; simp only [upd]; split
  · rename_i e; rw [e, hn]
  · rfl
theorem upd_upd_none {h : Heap} {o : Nat} {x : Option Ob} (hn : h o = none) : upd (upd h o x) o none = h := by
  rw [upd_upd, upd_none_id hn]
theorem subH_of_eq {h h' : Heap} (e : h' = h) : subH h h' := by subst e; exact subH.refl _
theorem subH_upd {h : Heap} {o : Nat} {x : Option Ob} (hn : h o = none) : subH h (upd h o x) := by
  intro o' y hy
  have : o' ≠ o := by rintro rfl; rw [hn] at hy; cases hy
  rw [upd_ne _ _ this]; exact hy
theorem subH_upd2 {h h' : Heap} {o : Nat} {x : Option Ob} (hn : h o = none) (hs : subH h h') : subH h (upd h' o x) := by
  intro o' y hy
  have : o' ≠ o := by rintro rfl; rw [hn] at hy; cases hy
  rw [upd_ne _ _ this]; exact hs o' y hy
theorem ne_of_none {h : Heap} {o p : Nat} {x : Option Ob} (hp : upd h o x p = none) (hx : x ≠ none) : p ≠ o ∧ h p = none := by
  have : p ≠ o := by rintro rfl; rw [upd_same] at hp; exact hx hp
  exact ⟨this, by rwa [upd_ne _ _ this] at hp⟩

/-! ### Tables -/
def tab {α : Type} (n : Nat) (f : Nat → α) : List α := (List.range n).map f
@[simp] theorem length_tab {α : Type} (n : Nat) (f : Nat → α) : (tab n f).length = n := by simp [tab]
theorem getElem?_tab {α : Type} (n : Nat) (f : Nat → α) (i : Nat) : (tab n f)[i]? = if i < n then some (f i) else none := by
  simp only [tab, List.getElem?_map]
  by_cases h : i < n
  · simp [h]
  · simp [h]
@[simp] theorem getElem_tab {α : Type} (n : Nat) (f : Nat → α) (i : Nat) (h : i < (tab n f).length) : (tab n f)[i] = f i := by simp [tab]
theorem getD_tab {α : Type} (n : Nat) (f : Nat → α) (i : Nat) (d : α) : (tab n f).getD i d = if i < n then f i else d := by
  rw [List.getD_eq_getElem?_getD, getElem?_tab]; split <;> rfl
@[simp] theorem map_tab {α β : Type} (n : Nat) (f : Nat → α) (g : α → β) : (tab n f).map g = tab n fun i => g (f i) := by simp [tab]
theorem tab_congr {α : Type} {n : Nat} {f g : Nat → α} (h : ∀ i, i < n → f i = g i) : tab n f = tab n g := by
  simp only [tab]; exact List.map_congr_left fun i hi => h i (by simpa using hi)
theorem set_tab {α : Type} (n : Nat) (f : Nat → α) (i : Nat) (y : α) : (tab n f).set i y = tab n fun j => if j = i then y else f j := by
  apply List.ext_getElem?
  intro j
  rw [getElem?_tab]
  by_cases e : i = j
  · subst e
    by_cases h : i < n
    · rw [List.getElem?_set_self (by simpa using h)]; simp [h]
    · rw [List.getElem?_eq_none (by simp; omega)]; simp [h]
  · rw [List.getElem?_set_ne e, getElem?_tab]
    have : ¬ j = i := fun h => e h.symm
    simp [this]
theorem replicate_tab {α : Type} (n : Nat) (x : α) : List.replicate n x = tab n fun _ => x := by
  simp [tab, List.map_const']
theorem mem_tab {α : Type} {n : Nat} {f : Nat → α} {y : α} : y ∈ tab n f ↔ ∃ i, i < n ∧ f i = y := by simp [tab]
theorem tab_ext {α : Type} {l : List α} {n : Nat} {f : Nat → α} (hl : l.length = n) (h : ∀ i, i < n → l[i]? = some (f i)) : l = tab n f := by
  apply List.ext_getElem?
  intro j
  rw [getElem?_tab]
  by_cases hj : j < n
  · rw [if_pos hj]; exact h j hj
  · rw [if_neg hj, List.getElem?_eq_none (by omega)]
@[simp] theorem tab_zero {α : Type} (f : Nat → α) : tab 0 f = [] := rfl
theorem tab_succ {α : Type} (n : Nat) (f : Nat → α) : tab (n + 1) f = tab n f ++ [f n] := by simp [tab, List.range_succ]

/-! ### Plain data -/
abbrev ints (l : List Int) : List AV := l.map (AV.int .i64)
abbrev bools (l : List Bool) : List AV := l.map AV.bool
abbrev rows (l : List (List Int)) : List AV := l.map fun r => AV.ro false (ints r)

@[simp] theorem weak_ints (l : List Int) : (ints l).map weak = ints l := by simp
@[simp] theorem weak_bools (l : List Bool) : (bools l).map weak = bools l := by simp
@[simp] theorem weak_rows (l : List (List Int)) : (rows l).map weak = rows l := by simp

theorem flat_ints (l : List Int) : (ints l).flatMap AV.flat = ints l := by
  induction l with
  | nil => rfl
  | cons a l ih => exact congrArg (AV.int .i64 a :: ·) ih
theorem flat_bools (l : List Bool) : (bools l).flatMap AV.flat = bools l := by
  induction l with
  | nil => rfl
  | cons a l ih => exact congrArg (AV.bool a :: ·) ih
theorem flat_rows (l : List (List Int)) : (rows l).flatMap AV.flat = rows l := by
  induction l with
  | nil => rfl
  | cons a l ih => exact congrArg (AV.ro false (ints a) :: ·) ih
theorem flat_tab {n : Nat} {f : Nat → AV} (h : ∀ i, i < n → (f i).flat = [f i]) : (tab n f).flatMap AV.flat = tab n f := by
  induction n with
  | zero => rfl
  | succ n ih => rw [tab_succ, List.flatMap_append, ih fun i hi => h i (by omega)]; simp [h n (by omega)]

structure G where
  owner : List Int
  next : List (List Int)

def G.av (g : G) : AV := .agg [.ro false (ints g.owner), .ro false (rows g.next)]
@[simp] theorem G.av_flat (g : G) : g.av.flat = [.ro false (ints g.owner), .ro false (rows g.next)] := rfl
@[simp] theorem G.av_known (g : G) : g.av.known = true := rfl

def hasI (in_ : List Bool) (v : Int) : Bool := in_.getD v.toNat false
def hasN (in_ : List Bool) (v : Nat) : Bool := in_.getD v false
@[simp] theorem hasI_nat (in_ : List Bool) (v : Nat) : hasI in_ (v : Int) = hasN in_ v := by simp [hasI, hasN]

theorem wrap_nat {n : Nat} (h : n < 9223372036854775808) : IntKind.i64.wrap (n : Int) = n := by
  rw [IntKind.wrap_i64]; omega
theorem wrap_id {n : Int} (h0 : -9223372036854775808 ≤ n) (h : n < 9223372036854775808) : IntKind.i64.wrap n = n := by
  rw [IntKind.wrap_i64]; omega
theorem wrap_succ {n : Nat} (h : n < 9223372036854775807) : IntKind.i64.wrap ((n : Int) + 1) = ((n + 1 : Nat) : Int) := by
  rw [IntKind.wrap_i64]; omega

/-- A slice of single cells is told as a value that nobody writes any more. -/
theorem Fin.freeze {o n : Nat} {h : Heap} {x : Ob} {k : Bool} {Q : AV → Heap → Prop} (hx : h o = some x) (hk : k = true → x.nn = true) (h1 : x.sz = 1) (hl : x.cells.length = n) (hf : ∀ u ∈ x.cells, u.flat = [u]) (h' : Heap) (hs : subH h' (upd h o none)) (hq : Q (.ro k x.cells) h') : Fin (.mu o n) h Q := by
  have e : x.cells.flatMap AV.flat = x.cells := by
    have : ∀ l : List AV, (∀ u ∈ l, u.flat = [u]) → l.flatMap AV.flat = l := by
      intro l
      induction l with
      | nil => intro _; rfl
      | cons a l ih => intro h; rw [List.flatMap_cons, h a (by simp), ih fun u hu => h u (by simp [hu])]; rfl
    exact this _ hf
  refine ⟨_, h', (GV.freeze hx hk hl (fun y hy => by rw [hf y hy, h1]; rfl) ?_).trans (GV.sub hs), hq⟩
  rw [e, h1, Nat.mul_one, ← hl, List.take_length]

end Go.Par

namespace Go.Par
open Go.ChangeShapes Go.WideShapes Go.ChangeAt Go.RowKit

inductive DK where
  | int
  | bool
  | sl (e : DK)

def DK.El : DK → Type
  | .int => Int
  | .bool => Bool
  | .sl e => List e.El

def DK.av : (d : DK) → d.El → AV
  | .int, n => .int .i64 n
  | .bool, b => .bool b
  | .sl e, l => .ro false (List.map e.av l)

def DK.bytes : DK → Nat
  | .int => 8
  | .bool => 1
  | .sl _ => 24

def DK.fits : (d : DK) → d.El → Prop
  | .int, n => (Lit.int .i64 n).wf = true
  | .bool, _ => True
  | .sl e, l => List.length l * e.bytes ≤ reachBytes ∧ ∀ x : e.El, x ∈ (show List e.El from l) → e.fits x

def DK.is (P : Program) : DK → TypeId → Prop
  | .int, t => P.underlying t = some (.int .i64) ∧ P.cellsOf t = 1 ∧ P.bytesOf t = 8
  | .bool, t => P.underlying t = some .bool ∧ P.cellsOf t = 1 ∧ P.bytesOf t = 1
  | .sl e, t => ∃ t', P.underlying t = some (.slice t') ∧ P.cellsOf t = 1 ∧ P.bytesOf t = 24 ∧ e.is P t'

theorem DK.is_one {P : Program} {d : DK} {t : TypeId} (h : d.is P t) : P.cellsOf t = 1 ∧ P.bytesOf t = d.bytes := by
  cases d with
  | int => exact h.2
  | bool => exact h.2
  | sl e => obtain ⟨t', _, h1, h2, _⟩ := h; exact ⟨h1, h2⟩

theorem DK.av_flat (d : DK) (x : d.El) : (d.av x).flat = [d.av x] := by cases d <;> rfl

theorem lists_of {α : Type} {Q : Nat → α → Prop} : ∀ (n : Nat), (∀ i, i < n → ∃ y, Q i y) → ∃ ys : List α, ys.length = n ∧ ∀ i y, ys[i]? = some y → Q i y
  | 0, _ => ⟨[], rfl, fun i y h => by simp at h⟩
  | n + 1, h => by
    obtain ⟨ys, hl, hq⟩ := lists_of n fun i hi => h i (by omega)
    obtain ⟨y, hy⟩ := h n (by omega)
    refine ⟨ys ++ [y], by simp [hl], fun i z hz => ?_⟩
    by_cases hi : i < ys.length
    · rw [List.getElem?_append_left hi] at hz; exact hq i z hz
    · rw [List.getElem?_append_right (by omega)] at hz
      have : i - ys.length = 0 := by
        have := (List.getElem?_eq_some_iff.1 hz).1
        simp at this; omega
      rw [this] at hz
      simp at hz
      subst hz
      have : i = n := by omega
      subst this; exact hy

section
variable {H : Type} {enc : TypeId × Value → H} {P : Program} {w : World} {spare : Nat → Bool} {held : Bool}

theorem weights_elem {e : TypeId} {d : DataW H} : ∀ {l : List (DataW H)}, d ∈ l → ∀ n ∈ d.weights P e, n ∈ DataW.weightsAll P e l
  | x :: r, h, n, hn => by
    simp only [DataW.weightsAll, List.mem_append]
    rcases List.mem_cons.1 h with rfl | h
    · exact .inl hn
    · exact .inr (weights_elem h n hn)

theorem DK.open (φ : Names) {B : Nat → Prop} (hB : ∀ b, ¬ B b) : ∀ (d : DK) {t : TypeId} {fuel : Nat} {cs : List Value} {x : DataW H × List MemPlace}, d.is P t → DataW.trod enc P w 0 spare held fuel t cs = some x →
    (∀ n ∈ x.1.weights P t, n ≤ reachBytes) → ∃ v y, cs = [v] ∧ VR φ B w (d.av y) v ∧ d.fits y
  | .int, t, fuel, cs, x, hd, h, hw => by
    obtain ⟨n, rfl, _, hwf⟩ := DataW.trod_int hd.1 h
    exact ⟨_, n, rfl, .int .i64 n, hwf⟩
  | .bool, t, fuel, cs, x, hd, h, hw => by
    obtain ⟨b, rfl, _⟩ := DataW.trod_bool hd.1 h
    exact ⟨_, b, rfl, .bool b, trivial⟩
  | .sl e, t, fuel, cs, x, ⟨t', hu, _, _, he⟩, h, hw => by
    rcases DataW.trod_slice hu h with ⟨rfl, rfl⟩ | ⟨a, len, cap, elems, rest, n, _, rfl, rfl, hb, hl, hm, hlen, hel, _, _⟩
    · exact ⟨_, [], rfl, .roNil false none 0 (by simp) (by simp), by simp [DK.fits]⟩
    · obtain ⟨hc1, hc2⟩ := DK.is_one he
      have each : ∀ i, i < len → ∃ y : e.El, ∃ v, w.cell? (a.add i) = some v ∧ VR φ B w (e.av y) v ∧ e.fits y := by
        intro i hi
        have h1 := hel i hi
        rw [hc1, Nat.mul_one] at h1
        have hi' : i < elems.length := by omega
        rw [List.getElem?_eq_getElem hi', Option.bind_eq_some_iff] at h1
        obtain ⟨cs', hcs, hy⟩ := h1
        obtain ⟨v, y, rfl, hv, hf⟩ := DK.open φ hB e he hy fun n hn => hw n (by
          simp only [DataW.weights, hu, List.mem_cons, List.mem_append]
          exact .inr (.inl (weights_elem (List.mem_map.2 ⟨_, List.getElem_mem hi', rfl⟩) n hn)))
        exact ⟨y, v, cell_of_cells?_one hcs, hv, hf⟩
      obtain ⟨ys, hyl, hys⟩ := lists_of len each
      have hsz : ys.length * e.bytes ≤ reachBytes := by
        have h1 := hw ((elems.length + rest.length) * P.bytesOf t') (by simp [DataW.weights, hu])
        rw [hc2] at h1
        exact Nat.le_trans (Nat.mul_le_mul_right _ (by omega)) h1
      refine ⟨_, ys, rfl, ?_, hsz, fun y hy => ?_⟩
      · cases hn : len with
        | zero =>
          have : ys = [] := List.eq_nil_of_length_eq_zero (by omega)
          subst this
          exact .roNil false (some a) cap (by simp) (by simp)
        | succ m =>
          obtain ⟨y0, v0, hc0, _⟩ := each 0 (by omega)
          obtain ⟨b, off, sp⟩ := a
          have hsp : sp = none := by
            cases sp with
            | none => rfl
            | some s => simp [Addr.add, World.cell?] at hc0; split at hc0 <;> simp_all
          subst hsp
          have hbl : b < w.heap.size := by
            simp only [Addr.add, World.cell?] at hc0
            by_cases hb : b < w.heap.size
            · exact hb
            · simp [Array.getElem?_eq_none (Nat.le_of_not_lt hb)] at hc0
          have flat : (List.map e.av ys).flatMap AV.flat = List.map e.av ys := by
            clear hsz hys hyl
            induction ys with
            | nil => rfl
            | cons z r ih => simp only [List.map_cons, List.flatMap_cons, DK.av_flat, ih]; rfl
          have at' : ∀ j u, (List.map e.av ys)[j]? = some u → ∃ v, w.cell? ⟨b, off + j, none⟩ = some v ∧ VR φ B w u v := by
            intro j u hj
            rw [List.getElem?_map, Option.map_eq_some_iff] at hj
            obtain ⟨y, hy, rfl⟩ := hj
            obtain ⟨v, h1, h2, _⟩ := hys j y hy
            refine ⟨v, ?_, h2⟩
            rw [← h1]; unfold Addr.add; split
            · next h => subst h; rfl
            · rfl
          refine .ro false (List.map e.av ys) (m + 1) b off cap 1 (fun j => (w.cell? ⟨b, off + j, none⟩).getD undef) (by simp; omega) (by omega) (hB b) hbl ?_ ?_ ?_
          · intro x hx
            obtain ⟨y, _, rfl⟩ := List.mem_map.1 hx
            rw [DK.av_flat]; rfl
          · intro j u hj
            rw [flat] at hj
            obtain ⟨v, h1, _⟩ := at' j u hj
            simp [h1]
          · intro j u hj
            rw [flat] at hj
            obtain ⟨v, h1, h2⟩ := at' j u hj
            simp only [h1]; exact h2
      · obtain ⟨i, hi, rfl⟩ := List.getElem_of_mem hy
        obtain ⟨_, _, _, h3⟩ := hys i _ (List.getElem?_eq_getElem hi)
        exact h3

/-! ### Arguments -/
inductive AK where
  | d (k : DK)
  | game

def AK.El : AK → Type
  | .d k => k.El
  | .game => G

def AK.av : (k : AK) → k.El → AV
  | .d k, x => k.av x
  | .game, g => G.av g

structure G.wide (g : G) : Prop where
  owner : (DK.sl .int).fits g.owner
  next : (DK.sl (.sl .int)).fits g.next

def AK.fits : (k : AK) → k.El → Prop
  | .d k, x => k.fits x
  | .game, g => G.wide g

def AK.is (P : Program) : AK → TypeId → Prop
  | .d k, t => k.is P t
  | .game, t => ∃ f0 f1, P.underlying t = some (.struct #[f0, f1]) ∧ f0.offset = 0 ∧ f1.offset = 1 ∧ P.cellsOf t = 2 ∧ (DK.sl .int).is P f0.type ∧ (DK.sl (.sl .int)).is P f1.type

theorem ints_eq (l : List Int) : (DK.sl .int).av l = .ro false (ints l) := rfl
theorem rows_eq (l : List (List Int)) : (DK.sl (.sl .int)).av l = .ro false (rows l) := rfl
theorem bools_eq (l : List Bool) : (DK.sl .bool).av l = .ro false (bools l) := rfl

theorem one_cell {r : Reach} {b0 : Nat} {t : TypeId} {v : Value} {d : DK} (hd : d.is P t) (h : Value.okWide P w r b0 t v) : v.cells.toList = [v] := by
  cases d with
  | int => obtain ⟨n, rfl⟩ := okWide_int hd.1 h; rfl
  | bool => obtain ⟨n, rfl⟩ := okWide_bool hd.1 h; rfl
  | sl e => obtain ⟨t', hu, _⟩ := hd; obtain ⟨a, l, c, rfl⟩ := okWide_slice hu h; rfl

theorem AK.open (φ : Names) {B : Nat → Prop} (hB : ∀ b, ¬ B b) {r : Reach} {b0 : Nat} (k : AK) {t : TypeId} {v : Value} {x : DataW H} {ps : List MemPlace} (hk : k.is P t) (hok : Value.okWide P w r b0 t v)
    (h : DataW.Trod enc P w 0 spare held t v x ps) (hw : ∀ n ∈ x.weights P t, n ≤ reachBytes) : ∃ y, VR φ B w (k.av y) v ∧ k.fits y := by
  obtain ⟨fuel, hf⟩ := h
  cases k with
  | d k =>
    rw [one_cell hk hok] at hf
    obtain ⟨v', y, e, h1, h2⟩ := DK.open φ hB k hk hf hw
    cases e
    exact ⟨y, h1, h2⟩
  | game =>
    obtain ⟨f0, f1, hu, o0, o1, hc, h0, h1⟩ := hk
    have : ∃ cs, v = .agg cs := by
      simp only [Value.okWide, hu] at hok
      obtain ⟨cs, h, _⟩ := hok; exact ⟨cs, h⟩
    obtain ⟨cs, rfl⟩ := this
    obtain ⟨y0, y1, n, hx, hl, t0, t1⟩ := trod_struct2 hu hf
    obtain ⟨rfl, _⟩ := Prod.mk.inj hx
    simp only [DataW.weights, hu, DataW.weightsEach, List.map_cons, List.map_nil, List.append_nil, List.mem_append] at hw
    obtain ⟨v0, g0, e0, k0, w0⟩ := DK.open φ hB _ h0 t0 fun n hn => hw n (.inl hn)
    obtain ⟨v1, g1, e1, k1, w1⟩ := DK.open φ hB _ h1 t1 fun n hn => hw n (.inr hn)
    have c0 := (DK.is_one h0).1
    have c1 := (DK.is_one h1).1
    rw [o0, c0] at e0
    rw [o1, c1] at e1
    have hcs : cs = #[v0, v1] := by
      have hl' : cs.toList.length = 2 := by rw [← hc]; exact hl
      obtain ⟨l⟩ := cs
      simp only [Value.cells] at e0 e1
      match l, hl' with
      | [a, b], _ => simp at e0 e1; simp [e0, e1]
    subst hcs
    refine ⟨⟨g0, g1⟩, .agg _ _ rfl fun j u hj => ?_, ⟨w0, w1⟩⟩
    match j, hj with
    | 0, hj => simp at hj; subst hj; exact k0
    | 1, hj => simp at hj; subst hj; exact k1

/-- The plain values of a law's arguments. -/
inductive Got : List AK → List AV → Prop where
  | nil : Got [] []
  | cons {k : AK} {ks : List AK} {us : List AV} (y : k.El) (h : k.fits y) (t : Got ks us) : Got (k :: ks) (k.av y :: us)

inductive Are (P : Program) : List AK → List TypeId → Prop where
  | nil : Are P [] []
  | cons {k : AK} {ks : List AK} {t : TypeId} {ts : List TypeId} (h : k.is P t) (hr : P.readableRec t = true) (hs : t < P.types.size) (r : Are P ks ts) : Are P (k :: ks) (t :: ts)

theorem opened (φ : Names) {B : Nat → Prop} (hB : ∀ b, ¬ B b) {r : Reach} {b0 : Nat} {ks : List AK} {ts : List TypeId} (hk : Are P ks ts) : ∀ {vs : List Value} {ds : List (DataW H)} {ps : List MemPlace},
    DataW.TrodAll enc P w 0 spare held ts vs ds ps → (∀ (j : Nat) t v, ts[j]? = some t → vs[j]? = some v → Value.okWide P w r b0 t v) → (∀ n ∈ DataW.weightsEach P ts ds, n ≤ reachBytes) →
    ∃ us : List AV, Got ks us ∧ us.length = vs.length ∧ ∀ (j : Nat) (u : AV), us[j]? = some u → ∃ v, vs[j]? = some v ∧ VR φ B w u v := by
  induction hk with
  | nil =>
    intro vs ds ps h _ _
    obtain ⟨rfl, rfl, rfl⟩ := trodAll_nil h
    exact ⟨[], .nil, rfl, fun j u hj => by simp at hj⟩
  | cons h hr hs _ ih =>
    intro vs ds ps ht hok hw
    obtain ⟨v, vs', d, ds', p, q, rfl, rfl, rfl, h1, h2⟩ := trodAll_cons ht
    simp only [DataW.weightsEach, List.mem_append] at hw
    obtain ⟨y, hy, hf⟩ := AK.open φ hB _ h (hok 0 _ v rfl rfl) h1 fun n hn => hw n (.inl hn)
    obtain ⟨us, hg, hl, hv⟩ := ih h2 (fun j t v ha hb => hok (j + 1) t v ha hb) fun n hn => hw n (.inr hn)
    refine ⟨_, .cons y hf hg, by simp [hl], fun j u hj => ?_⟩
    match j, hj with
    | 0, hj => simp at hj; subst hj; exact ⟨v, rfl, hy⟩
    | j + 1, hj => exact hv j u hj

theorem stays (hl : laidOutB P = true) {W W' : World} {ks : List AK} {ts : List TypeId} (hk : Are P ks ts) (bel : Below W.heap.size W W') : ∀ {vs : List Value} {ds : List (DataW H)} {ps : List MemPlace},
    DataW.TrodAll enc P W 0 (fun _ => true) true ts vs ds ps → DataW.TrodAll enc P W' 0 (fun b => decide (b < W.heap.size)) true ts vs ds ps := by
  induction hk with
  | nil =>
    intro vs ds ps h
    obtain ⟨rfl, rfl, rfl⟩ := trodAll_nil h
    exact trodAll_mk0
  | cons h hr hs _ ih =>
    intro vs ds ps ht
    obtain ⟨v, vs', d, ds', p, q, rfl, rfl, rfl, h1, h2⟩ := trodAll_cons ht
    exact ⟨_, _, Below.trod hl hr hs h1 bel (fun x hx => by obtain ⟨m, hm⟩ := h1; exact DataW.trod_lt m _ _ _ hm x hx), ih h2, rfl⟩

theorem trod_len {base : Nat} : ∀ {ts : List TypeId} {vs : List Value} {ds : List (DataW H)} {ps : List MemPlace}, DataW.TrodAll enc P w base spare held ts vs ds ps → ds.length = ts.length
  | [], vs, ds, ps, h => by obtain ⟨_, rfl, _⟩ := trodAll_nil h; rfl
  | t :: ts, vs, ds, ps, h => by
    obtain ⟨v, vs', d, ds', p, q, _, rfl, _, _, h2⟩ := trodAll_cons h
    simp [trod_len h2]

theorem run {f : FuncId} {us : List AV} {r : AV} {W : World} {args : Array Value} (h : Pure P f us r) (hv : VRs (fun _ => none) (fun _ => False) W us args) :
    Calls P f args W fun e W' => ∃ v φ B, e = .returned v ∧ VR φ B W' r v ∧ Below W.heap.size W W' := by
  have own0 : own (fun _ => none) (fun _ => none) = fun _ => False := by
    funext b; apply propext; constructor
    · rintro ⟨o, cap, ho, _⟩; simp at ho
    · exact False.elim
  have := (h fun _ => none).2 (fun _ => none) W args ⟨fun o x hx => by simp at hx, fun o o' b c c' ho => by simp at ho, 0, fun _ _ => rfl⟩ (by rw [own0]; exact hv)
  rw [own0] at this
  refine this.mono fun e W' ⟨φ', h', r', v, _, hk, _, he, hr, e1, _⟩ => ?_
  subst e1
  exact ⟨v, φ', _, he, hr, hk.os, hk.tape, hk.output, hk.size, fun b hb => (hk.block b hb (by simp)).2⟩
end

end Go.Par

namespace Go.Par

theorem vcPre_append {P : Program} {Θ : Types} {M : List Nat} {all : List Oper} {ob : List Nat} {n : Nat} {h0 : Heap} : ∀ (l1 l2 : List Oper) (i : Nat) (K : Tm → Pend → Heap → Prop) (tm : Tm) (pend : Pend) (H : Heap),
    vcPre P Θ M all ob n h0 i (l1 ++ l2) K tm pend H = vcPre P Θ M all ob n h0 i l1 (fun tm pend H => vcPre P Θ M all ob n h0 (i + l1.length) l2 K tm pend H) tm pend H
  | [], l2, i, K, tm, pend, H => by simp only [List.nil_append, vcPre, List.length_nil, Nat.add_zero]
  | o :: l1, l2, i, K, tm, pend, H => by
    have e : i + (o :: l1).length = i + 1 + l1.length := by simp only [List.length_cons]; omega
    have ih := vcPre_append (P := P) (Θ := Θ) (M := M) (all := all) (ob := ob) (n := n) (h0 := h0) l1 l2 (i + 1) K
    rw [e]
    simp only [List.cons_append, vcPre, ih]

theorem vcDraw_split {P : Program} {Θ : Types} {M : List Nat} {all : List Oper} {m : Nat} {ob : List Nat} {K : St → Prop} {S : St} (q : Nat)
    (H : ∀ B : Tm → Pend → Heap → Prop, (∀ tm pend h, vcPre P Θ M all ob S.n S.h (0 + ((all.take m).take q).length) ((all.take m).drop q) (fun tm pend h => vcTail P Θ M (all.drop m) pend K ⟨S.n, tm, h⟩) tm pend h → B tm pend h) →
      vcPre P Θ M all ob S.n S.h 0 ((all.take m).take q) B S.tm [] S.h) : vcDraw P Θ M all m ob K S := by
  have h := H _ fun tm pend h q => q
  rw [← vcPre_append, List.take_append_drop] at h
  exact h


theorem vcPre_split {P : Program} {Θ : Types} {M : List Nat} {all : List Oper} {ob : List Nat} {n : Nat} {h0 : Heap} {l : List Oper} {i : Nat} {K : Tm → Pend → Heap → Prop} {tm : Tm} {pend : Pend} {hh : Heap} (q : Nat)
    (H : ∀ B : Tm → Pend → Heap → Prop, (∀ tm pend h, vcPre P Θ M all ob n h0 (i + (l.take q).length) (l.drop q) K tm pend h → B tm pend h) → vcPre P Θ M all ob n h0 i (l.take q) B tm pend hh) : vcPre P Θ M all ob n h0 i l K tm pend hh := by
  have h := H _ fun tm pend h q => q
  rw [← vcPre_append, List.take_append_drop] at h
  exact h

end Go.Par

namespace Go.Par

/-- A cell of an object told otherwise. -/
theorem GStep.cell {S : St} {p j : Nat} {x : Ob} {v r : AV} {h1 : Heap} (hx : S.h p = some x) (hv : x.cells[j]? = some v) (g : GV v S.h r h1) (hp : h1 p = some x) (hnn : x.cells ≠ []) (hs0 : x.sz ≠ 0 := by first | (simp; done) | (intro e; cases e)) :
    GStep S ⟨S.n, S.tm, upd h1 p (some ⟨x.cells.set j r, x.ty, x.sz, x.nn⟩)⟩ := by
  refine ⟨rfl, fun φ w a H T => ?_⟩
  obtain ⟨l, hl, hr⟩ := H.ob p x hx
  cases l with
  | nil => exact absurd hr.1 hnn
  | res => exact hr.elim
  | mp b => exact absurd hr.1 hs0
  | blk b cap =>
    obtain ⟨cur, k1, k2, k3, k4, k5⟩ := hr
    obtain ⟨φ', e, H', V', ho⟩ := g φ w _ H (k5 j v hv)
    have hf : ∀ o', (upd h1 p (some ⟨x.cells.set j r, x.ty, x.sz, x.nn⟩) o').isSome = (h1 o').isSome := by
      intro o'
      by_cases e1 : o' = p
      · subst e1; rw [upd_same, hp]; rfl
      · rw [upd_ne _ _ e1]
    have hown : ∀ b, own φ' (upd h1 p (some ⟨x.cells.set j r, x.ty, x.sz, x.nn⟩)) b ↔ own φ' h1 b := by
      intro b
      constructor
      · rintro ⟨o', c', q1, q2⟩; exact ⟨o', c', by rwa [hf] at q1, q2⟩
      · rintro ⟨o', c', q1, q2⟩; exact ⟨o', c', by rwa [hf], q2⟩
    have H2 : HR φ' w (upd h1 p (some ⟨x.cells.set j r, x.ty, x.sz, x.nn⟩)) := by
      refine ⟨fun o' y hy => ?_, fun o1 o2 b c c' q1 q2 => ?_, H'.free⟩
      · by_cases e1 : o' = p
        · subst e1
          rw [upd_same] at hy
          cases hy
          have hl' : φ' o' = some (.blk b cap) := e _ _ hl
          obtain ⟨l2, hl2, hr2⟩ := H'.ob o' x hp
          rw [hl'] at hl2
          cases hl2
          refine ⟨_, hl', ?_⟩
          obtain ⟨cur', g1, g2, g3, g4, g5⟩ := hr2
          have hc : cur' = cur := by rw [k1] at g1; cases g1; rfl
          subst hc
          refine ⟨cur', g1, g2, g3, by simpa using g4, fun j' u hu => ?_⟩
          simp only at hu
          by_cases ej : j' = j
          · subst ej
            have hjl : j' < x.cells.length := (List.getElem?_eq_some_iff.1 hv).1
            rw [List.getElem?_set_self hjl] at hu
            cases hu
            exact V'.weaken fun b hb => (hown b).1 hb
          · rw [List.getElem?_set_ne (Ne.symm ej)] at hu
            exact (g5 j' u hu).weaken fun b hb => (hown b).1 hb
        · rw [upd_ne _ _ e1] at hy
          obtain ⟨l, hl, hr⟩ := H'.ob o' y hy
          refine ⟨l, hl, ?_⟩
          cases l with
          | nil => exact hr
          | res => exact hr.elim
          | blk b cap =>
            obtain ⟨cur, g1, g2, g3, g4, g5⟩ := hr
            exact ⟨cur, g1, g2, g3, g4, fun j' u hu => (g5 j' u hu).weaken fun b hb => (hown b).1 hb⟩
          | mp b => exact hr.weak fun _ _ V => V.weaken fun b hb => (hown b).1 hb
      · exact H'.inj o1 o2 b c c' (by rwa [hf] at q1) (by rwa [hf] at q2)
    have hs : ∀ b, own φ' (upd h1 p (some ⟨x.cells.set j r, x.ty, x.sz, x.nn⟩)) b → own φ S.h b := fun b hb => ho b ((hown b).1 hb)
    exact ⟨φ', e, H2, T.mono e (Keeps.less w hs), hs⟩

/-! ### Families of objects -/
/-- The memory with an outer object and 'n' more, by name. -/
def FH (h0 : Heap) (out : Nat) (C : Ob) (f : Nat → Nat) (n : Nat) (R : Nat → Ob) : Heap := fun x =>
  if x = out then some C else match (List.range n).find? (fun i => f i == x) with | some i => some (R i) | none => h0 x

structure FN (h0 : Heap) (out : Nat) (f : Nat → Nat) (n : Nat) : Prop where
  inj : ∀ i j, i < n → j < n → f i = f j → i = j
  ne : ∀ i, i < n → f i ≠ out
  free : ∀ i, i < n → h0 (f i) = none
  out : h0 out = none

theorem find_row {f : Nat → Nat} {n i : Nat} (hi : i < n) (inj : ∀ i j, i < n → j < n → f i = f j → i = j) : (List.range n).find? (fun j => f j == f i) = some i := by
  cases h : (List.range n).find? (fun j => f j == f i) with
  | none =>
    rw [List.find?_eq_none] at h
    exact absurd (h i (by simpa using hi)) (by simp)
  | some j =>
    have h1 := List.find?_some h
    have h2 := List.mem_of_find?_eq_some h
    rw [inj j i (by simpa using h2) hi (by simpa using h1)]

theorem find_none {f : Nat → Nat} {n x : Nat} (h : ∀ i, i < n → f i ≠ x) : (List.range n).find? (fun j => f j == x) = none := by
  rw [List.find?_eq_none]
  intro i hi
  simpa using h i (by simpa using hi)

theorem FN.at_out {h0 : Heap} {out : Nat} {f : Nat → Nat} {n : Nat} {C : Ob} {R : Nat → Ob} : FH h0 out C f n R out = some C := by simp [FH]
theorem FN.at_row {h0 : Heap} {out : Nat} {f : Nat → Nat} {n : Nat} (N : FN h0 out f n) {C : Ob} {R : Nat → Ob} {i : Nat} (hi : i < n) : FH h0 out C f n R (f i) = some (R i) := by
  simp only [FH, if_neg (N.ne i hi), find_row hi N.inj]
theorem FN.at_else {h0 : Heap} {out : Nat} {f : Nat → Nat} {n : Nat} {C : Ob} {R : Nat → Ob} {x : Nat} (h1 : x ≠ out) (h2 : ∀ i, i < n → f i ≠ x) : FH h0 out C f n R x = h0 x := by
  simp only [FH, if_neg h1, find_none h2]

theorem FN.fresh {h0 : Heap} {out : Nat} {f : Nat → Nat} {n : Nat} (N : FN h0 out f n) {C : Ob} {R : Nat → Ob} {x : Nat} (h : FH h0 out C f n R x = none) : x ≠ out ∧ (∀ i, i < n → f i ≠ x) ∧ h0 x = none := by
  have h1 : x ≠ out := by rintro rfl; rw [FN.at_out] at h; cases h
  have h2 : ∀ i, i < n → f i ≠ x := by rintro i hi rfl; rw [N.at_row hi] at h; cases h
  exact ⟨h1, h2, by rwa [FN.at_else h1 h2] at h⟩

/-- A row told anew, under a new name. -/
theorem FN.grow {h0 : Heap} {out : Nat} {f : Nat → Nat} {n : Nat} (N : FN h0 out f n) {C C' : Ob} {R : Nat → Ob} {w n' : Nat} (hw : w < n) (x' : Ob) (h : FH h0 out C f n R n' = none) :
    FN h0 out (fun i => if i = w then n' else f i) n ∧
    upd (upd (upd (FH h0 out C f n R) (f w) none) n' (some x')) out (some C') = FH h0 out C' (fun i => if i = w then n' else f i) n (fun i => if i = w then x' else R i) := by
  obtain ⟨h1, h2, h3⟩ := N.fresh h
  have N' : FN h0 out (fun i => if i = w then n' else f i) n := by
    refine ⟨fun i j hi hj e => ?_, fun i hi => ?_, fun i hi => ?_, N.out⟩
    · by_cases a : i = w <;> by_cases b : j = w
      · rw [a, b]
      · rw [if_pos a, if_neg b] at e; exact absurd e.symm (h2 j hj)
      · rw [if_neg a, if_pos b] at e; exact absurd e (h2 i hi)
      · rw [if_neg a, if_neg b] at e; exact N.inj i j hi hj e
    · split
      · exact h1
      · exact N.ne i hi
    · split
      · exact h3
      · exact N.free i hi
  refine ⟨N', ?_⟩
  funext x
  by_cases e1 : x = out
  · subst e1; rw [upd_same, FN.at_out]
  · rw [upd_ne _ _ e1]
    by_cases e2 : x = n'
    · subst e2
      rw [upd_same]
      have := N'.at_row (C := C') (R := fun i => if i = w then x' else R i) hw
      simp only [if_pos] at this
      exact this.symm
    · rw [upd_ne _ _ e2]
      by_cases e3 : ∃ i, i < n ∧ i ≠ w ∧ f i = x
      · obtain ⟨i, hi, hiw, rfl⟩ := e3
        have hne : f i ≠ f w := fun e => hiw (N.inj i w hi hw e)
        rw [upd_ne _ _ hne, N.at_row hi]
        have := N'.at_row (C := C') (R := fun i => if i = w then x' else R i) hi
        simp only [if_neg hiw] at this
        exact this.symm
      · have g : ∀ i, i < n → (if i = w then n' else f i) ≠ x := by
          intro i hi
          split
          · exact fun e => e2 e.symm
          · rename_i hiw; exact fun e => e3 ⟨i, hi, hiw, e⟩
        rw [FN.at_else (f := fun i => if i = w then n' else f i) e1 g]
        by_cases e4 : x = f w
        · subst e4; rw [upd_same]; exact (N.free w hw).symm
        · rw [upd_ne _ _ e4]
          exact FN.at_else e1 fun i hi e => by
            by_cases a : i = w
            · subst a; exact e4 e.symm
            · exact e3 ⟨i, hi, a, e⟩

/-- Each nil row of an outer slice gets an object of its own. -/
theorem AW.familyK {P : Program} {c : Code} {Q : Exit → St → Prop} {h0 : Heap} {out n : Nat} {ty e : TypeId} {s : Nat} {nn : Bool} {sn : Nat} {tm : Tm}
    (h : ∀ f, FN h0 out f n → AW P c Q ⟨sn, tm, FH h0 out ⟨tab n fun i => .mu (f i) 0, ty, 1, nn⟩ f n fun _ => ⟨[], e, s, false⟩⟩) :
    ∀ (d k : Nat) (f : Nat → Nat), k + d = n → FN h0 out f k → AW P c Q ⟨sn, tm, FH h0 out ⟨tab n fun i => if i < k then .mu (f i) 0 else .nils, ty, 1, nn⟩ f k fun _ => ⟨[], e, s, false⟩⟩
  | 0, k, f, hk, N => by
    obtain rfl : k = n := by omega
    have := h f N
    rwa [show (tab k fun i => if i < k then AV.mu (f i) 0 else .nils) = tab k fun i => .mu (f i) 0 from tab_congr fun i hi => by simp [hi]]
  | d + 1, k, f, hk, N => by
    refine AW.mineCell out k _ e s FN.at_out (by rw [getElem?_tab]; simp; omega) fun o ho => ?_
    simp only at ho
    obtain ⟨h1, h2, h3⟩ := N.fresh ho
    have N' : FN h0 out (fun i => if i = k then o else f i) (k + 1) := by
      refine ⟨fun i j hi hj e => ?_, fun i hi => ?_, fun i hi => ?_, N.out⟩
      · by_cases a : i = k <;> by_cases b : j = k
        · rw [a, b]
        · rw [if_pos a, if_neg b] at e; exact absurd e.symm (h2 j (by omega))
        · rw [if_neg a, if_pos b] at e; exact absurd e (h2 i (by omega))
        · rw [if_neg a, if_neg b] at e; exact N.inj i j (by omega) (by omega) e
      · split
        · exact h1
        · exact N.ne i (by omega)
      · split
        · exact h3
        · exact N.free i (by omega)
    have := AW.familyK h d (k + 1) _ (by omega) N'
    refine cast (congrArg (fun x => AW P c Q ⟨sn, tm, x⟩) ?_) this
    funext x
    by_cases e1 : x = out
    · subst e1
      rw [FN.at_out, upd_ne _ _ (Ne.symm h1), upd_same]
      congr 2
      rw [set_tab]
      refine tab_congr fun i hi => ?_
      by_cases a : i = k
      · simp [a]
      · by_cases b : i < k
        · simp [a, b, show i < k + 1 by omega]
        · simp [a, b, show ¬ i < k + 1 by omega]
    · by_cases e2 : x = o
      · subst e2
        rw [upd_same]
        have := N'.at_row (C := ⟨tab n fun i => if i < k + 1 then .mu (if i = k then x else f i) 0 else .nils, ty, 1, nn⟩) (R := fun _ => ⟨[], e, s, false⟩) (Nat.lt_succ_self k)
        simp only [if_true] at this
        exact this
      · rw [upd_ne _ _ e2, upd_ne _ _ e1]
        dsimp only
        by_cases e3 : ∃ i, i < k ∧ f i = x
        · obtain ⟨i, hi, rfl⟩ := e3
          rw [N.at_row hi]
          have := N'.at_row (C := ⟨tab n fun i => if i < k + 1 then .mu (if i = k then o else f i) 0 else .nils, ty, 1, nn⟩) (R := fun _ => ⟨[], e, s, false⟩) (show i < k + 1 by omega)
          simp only [if_neg (show ¬ i = k by omega)] at this
          exact this
        · rw [FN.at_else (f := f) e1 fun i hi e => e3 ⟨i, hi, e⟩]
          refine FN.at_else e1 fun i hi => ?_
          split
          · exact fun e => e2 e.symm
          · exact fun e => e3 ⟨i, by omega, e⟩

theorem FN.less {h0 : Heap} {out : Nat} {f : Nat → Nat} {n k : Nat} (N : FN h0 out f n) (h : k ≤ n) : FN h0 out f k :=
  ⟨fun i j hi hj e => N.inj i j (by omega) (by omega) e, fun i hi => N.ne i (by omega), fun i hi => N.free i (by omega), N.out⟩

/-- The last row that may still be written is given up. -/
theorem GStep.row {h0 : Heap} {out n k : Nat} {f : Nat → Nat} (N : FN h0 out f (k + 1)) (hk : k < n) {ty : TypeId} {nn : Bool} {R : Nat → Ob} {m : Nat → Nat} {A : Nat → AV} {sn : Nat} {tm : Tm}
    (hs : (R k).sz = 1) (hl : (R k).cells.length = m k) (hf : ∀ u ∈ (R k).cells, u.flat = [u]) (hA : A k = .ro false (R k).cells) :
    GStep ⟨sn, tm, FH h0 out ⟨tab n fun i => if i < k + 1 then .mu (f i) (m i) else A i, ty, 1, nn⟩ f (k + 1) R⟩ ⟨sn, tm, FH h0 out ⟨tab n fun i => if i < k then .mu (f i) (m i) else A i, ty, 1, nn⟩ f k R⟩ := by
  have hrow := N.at_row (C := ⟨tab n fun i => if i < k + 1 then .mu (f i) (m i) else A i, ty, 1, nn⟩) (R := R) (Nat.lt_succ_self k)
  have hne := N.ne k (Nat.lt_succ_self k)
  have flat : ∀ l : List AV, (∀ u ∈ l, u.flat = [u]) → l.flatMap AV.flat = l := by
    intro l
    induction l with
    | nil => intro _; rfl
    | cons a l ih => intro h; rw [List.flatMap_cons, h a (by simp), ih fun u hu => h u (by simp [hu])]; rfl
  have g := GV.freeze (n := m k) hrow (k := false) (xs := (R k).cells) (fun e => by cases e) hl (fun y hy => by rw [hf y hy, hs]; rfl) (by rw [flat _ hf, hs, Nat.mul_one, ← hl, List.take_length])
  have q := GStep.cell (S := ⟨sn, tm, FH h0 out ⟨tab n fun i => if i < k + 1 then .mu (f i) (m i) else A i, ty, 1, nn⟩ f (k + 1) R⟩) (p := out) (j := k) FN.at_out (by rw [getElem?_tab]; simp [hk]) g
    (by rw [upd_ne _ _ (Ne.symm hne)]; exact FN.at_out) (by intro e; have := congrArg List.length e; simp at this; omega)
  dsimp only at q
  refine cast (congrArg (fun x => GStep ⟨sn, tm, FH h0 out ⟨tab n fun i => if i < k + 1 then .mu (f i) (m i) else A i, ty, 1, nn⟩ f (k + 1) R⟩ ⟨sn, tm, x⟩) ?_) q
  have N' := N.less (Nat.le_succ k)
  funext x
  by_cases e1 : x = out
  · subst e1
    rw [FN.at_out, upd_same]
    congr 2
    rw [set_tab]
    refine tab_congr fun i hi => ?_
    by_cases a : i = k
    · subst a; simp [hA]
    · by_cases b : i < k
      · simp [a, b, show i < k + 1 by omega]
      · simp [a, b, show ¬ i < k + 1 by omega]
  · rw [upd_ne _ _ e1]
    by_cases e2 : x = f k
    · subst e2
      rw [upd_same, FN.at_else e1 fun i hi e => by have := N.inj i k (by omega) (by omega) e; omega]
      exact (N.free k (Nat.lt_succ_self k)).symm
    · rw [upd_ne _ _ e2]
      by_cases e3 : ∃ i, i < k ∧ f i = x
      · obtain ⟨i, hi, rfl⟩ := e3
        rw [N'.at_row hi, N.at_row (show i < k + 1 by omega)]
      · rw [FN.at_else e1 fun i hi e => e3 ⟨i, hi, e⟩]
        exact FN.at_else e1 fun i hi e => by
          by_cases a : i = k
          · subst a; exact e2 e.symm
          · exact e3 ⟨i, by omega, e⟩

/-- All rows are given up. -/
theorem GStep.rows {h0 : Heap} {out n : Nat} {f : Nat → Nat} (N : FN h0 out f n) {ty : TypeId} {nn : Bool} {R : Nat → Ob} {m : Nat → Nat} {A : Nat → AV} {sn : Nat} {tm : Tm}
    (hs : ∀ k, k < n → (R k).sz = 1) (hl : ∀ k, k < n → (R k).cells.length = m k) (hf : ∀ k, k < n → ∀ u ∈ (R k).cells, u.flat = [u]) (hA : ∀ k, k < n → A k = .ro false (R k).cells) :
    ∀ k, k ≤ n → GStep ⟨sn, tm, FH h0 out ⟨tab n fun i => if i < k then .mu (f i) (m i) else A i, ty, 1, nn⟩ f k R⟩ ⟨sn, tm, upd h0 out (some ⟨tab n A, ty, 1, nn⟩)⟩
  | 0, _ => by
    have e : (FH h0 out ⟨tab n fun i => if i < 0 then .mu (f i) (m i) else A i, ty, 1, nn⟩ f 0 R) = upd h0 out (some ⟨tab n A, ty, 1, nn⟩) := by
      funext x
      by_cases e1 : x = out
      · subst e1; rw [FN.at_out, upd_same]; simp
      · rw [upd_ne _ _ e1]; exact FN.at_else e1 fun i hi => by omega
    rw [e]; exact GStep.refl _
  | k + 1, h => GStep.trans (GStep.row (N.less h) (by omega) (hs k (by omega)) (hl k (by omega)) (hf k (by omega)) (hA k (by omega))) (GStep.rows N hs hl hf hA k (by omega))

theorem AW.family {P : Program} {c : Code} {Q : Exit → St → Prop} {h0 : Heap} {out n : Nat} {ty : TypeId} (e : TypeId) (s : Nat) {nn : Bool} {sn : Nat} {tm : Tm} (ho : h0 out = none)
    (h : ∀ f, FN h0 out f n → AW P c Q ⟨sn, tm, FH h0 out ⟨tab n fun i => .mu (f i) 0, ty, 1, nn⟩ f n fun _ => ⟨[], e, s, false⟩⟩) : AW P c Q ⟨sn, tm, upd h0 out (some ⟨tab n fun _ => .nils, ty, 1, nn⟩)⟩ := by
  have := AW.familyK h n 0 (fun i => i) (by omega) ⟨fun i j hi => by omega, fun i hi => by omega, fun i hi => by omega, ho⟩
  have e : (FH h0 out ⟨tab n fun i => if i < 0 then .mu i 0 else .nils, ty, 1, nn⟩ (fun i => i) 0 fun _ => ⟨[], e, s, false⟩) = upd h0 out (some ⟨tab n fun _ => .nils, ty, 1, nn⟩) := by
    funext x
    by_cases e1 : x = out
    · subst e1; rw [FN.at_out, upd_same]; simp
    · rw [upd_ne _ _ e1]; exact FN.at_else e1 fun i hi => by omega
  rwa [e] at this

end Go.Par

namespace Go.Par

theorem flat_ones {l : List AV} (h : ∀ u ∈ l, u.flat = [u]) : l.flatMap AV.flat = l := by
  induction l with
  | nil => rfl
  | cons a l ih => rw [List.flatMap_cons, h a (by simp), ih fun u hu => h u (by simp [hu])]; rfl

/-- A slot's slice of single cells is told as a value that nobody writes any more. -/
theorem GStep.freeze {S : St} {t o n : Nat} {x : Ob} (k : Bool) (hv : get S.tm t = .mu o n) (hx : S.h o = some x) (hk : k = true → x.nn = true) (h1 : x.sz = 1) (hl : x.cells.length = n) (hf : ∀ u ∈ x.cells, u.flat = [u]) :
    GStep S ⟨S.n, (t, .ro k x.cells) :: S.tm, upd S.h o none⟩ :=
  GStep.slot hv (GV.freeze hx hk hl (fun y hy => by rw [hf y hy, h1]; rfl) (by rw [flat_ones hf, h1, Nat.mul_one, ← hl, List.take_length]))

theorem AW.freeze {P : Program} {c : Code} {Q : Exit → St → Prop} {S : St} (t : Nat) {o n : Nat} {x : Ob} (k : Bool) (hv : get S.tm t = .mu o n) (hx : S.h o = some x) (hk : k = true → x.nn = true) (h1 : x.sz = 1) (hl : x.cells.length = n) (hf : ∀ u ∈ x.cells, u.flat = [u])
    (h : AW P c Q ⟨S.n, (t, .ro k x.cells) :: S.tm, upd S.h o none⟩) : AW P c Q S := AW.ghost (GStep.freeze k hv hx hk h1 hl hf) h

theorem AW.box {P : Program} {c : Code} {Q : Exit → St → Prop} {S : St} (t : Nat) {o : Nat} {x : Ob} (hv : get S.tm t = .ptr o 0) (hx : S.h o = some x) (h : AW P c Q ⟨S.n, (t, .rop x.cells) :: S.tm, upd S.h o none⟩) : AW P c Q S := AW.ghost (GStep.box hv hx) h

theorem ones_bools (n : Nat) (f : Nat → Bool) : ∀ u ∈ tab n fun i => AV.bool (f i), u.flat = [u] := by
  intro u hu; obtain ⟨i, _, rfl⟩ := mem_tab.1 hu; rfl
theorem ones_ints (n : Nat) (f : Nat → Int) : ∀ u ∈ tab n fun i => AV.int .i64 (f i), u.flat = [u] := by
  intro u hu; obtain ⟨i, _, rfl⟩ := mem_tab.1 hu; rfl

theorem upd_at (h : Heap) (o : Nat) (x : Option Ob) (o' : Nat) : upd h o x o' = if o' = o then x else h o' := rfl
theorem upd_comm (h : Heap) {o o' : Nat} (x y : Option Ob) (hne : o ≠ o') : upd (upd h o x) o' y = upd (upd h o' y) o x := by
  funext z
  simp only [upd]
  by_cases e : z = o
  · subst e; simp [hne]
  · simp [e]

/-- A slice of which is not told whether it is nil: it is, or it is not. -/
theorem AC.nilCases {P : Program} {f : FuncId} {us1 us2 : List AV} {xs : List AV} {h : Heap} {Q : AV → Heap → Prop} (h1 : xs = [] → AC P f (us1 ++ .nils :: us2) h Q) (h2 : AC P f (us1 ++ .ro true xs :: us2) h Q) : AC P f (us1 ++ .ro false xs :: us2) h Q := by
  refine ⟨h2.1, fun φ w vs H V => ?_⟩
  have key : VR φ (own φ h) w (.ro true xs) (vs.getD us1.length undef) ∨ xs = [] ∧ VR φ (own φ h) w .nils (vs.getD us1.length undef) := by
    have hv := V.2 us1.length (.ro false xs) (by simp)
    generalize vs.getD us1.length undef = v at hv
    cases hv with
    | roNil _ a c ha hc =>
      cases a with
      | none => exact .inr ⟨rfl, by rw [hc rfl]; exact .nils⟩
      | some a => exact .inl (.roNil true (some a) c (fun _ => rfl) (fun e => by cases e))
    | ro _ xs n b off c s f hn hc hB hb hs hcell hval => exact .inl (.ro true xs n b off c s f hn hc hB hb hs hcell hval)
  have other : ∀ u, VR φ (own φ h) w u (vs.getD us1.length undef) → VRs φ (own φ h) w (us1 ++ u :: us2) vs := by
    intro u hu
    refine ⟨by simpa using V.1, fun j x hj => ?_⟩
    by_cases e : j = us1.length
    · subst e
      have : x = u := by simpa using hj.symm
      rw [this]; exact hu
    · refine V.2 j x ?_
      rcases Nat.lt_or_gt_of_ne e with l | l
      · rw [List.getElem?_append_left l] at hj ⊢; exact hj
      · rw [List.getElem?_append_right (by omega)] at hj ⊢
        obtain ⟨k, hk⟩ : ∃ k, j - us1.length = k + 1 := ⟨j - us1.length - 1, by omega⟩
        rw [hk] at hj ⊢
        exact hj
  rcases key with k | ⟨e, k⟩
  · exact h2.2 φ w vs H (other _ k)
  · exact (h1 e).2 φ w vs H (other _ k)

/-! ### A region in pieces -/
theorem vcOps_append {P : Program} {Θ : Types} {M : List Nat} {all : List Oper} {K : St → Prop} : ∀ (l1 l2 : List Oper) (S : St),
    vcOps P Θ M all (l1 ++ l2) K S = vcOps P Θ M all l1 (vcOps P Θ M all l2 K) S
  | [], l2, S => by simp only [List.nil_append, vcOps]
  | o :: l1, l2, S => by
    have ih := vcOps_append (P := P) (Θ := Θ) (M := M) (all := all) (K := K) l1 l2
    simp only [List.cons_append, vcOps, ih]

theorem vcOps_split {P : Program} {Θ : Types} {M : List Nat} {all l : List Oper} {K : St → Prop} {S : St} (q : Nat)
    (H : ∀ B : St → Prop, (∀ S', vcOps P Θ M all (l.drop q) K S' → B S') → vcOps P Θ M all (l.take q) B S) : vcOps P Θ M all l K S := by
  have h := H _ fun S' h => h
  rw [← vcOps_append, List.take_append_drop] at h
  exact h

theorem AW.regionAt {P : Program} {Θ : Types} (q : Nat) (M : List Nat) (hΘ : Θ.ok P) {ops : Array Oper} {id : Nat} {Q : Exit → St → Prop} {S : St}
    (H : ∀ B : St → Prop, (∀ S', vcOps P Θ M ops.toList (ops.toList.drop q) (Q .normal) S' → B S') → vcOps P Θ M ops.toList (ops.toList.take q) B S) : AW P (.region id ops false) Q S :=
  AW.region M hΘ (vcOps_split q H)

end Go.Par

namespace Go.Par

/-- The memory with some objects more. -/
def HL (h0 : Heap) : List (Nat × Ob) → Heap
  | [] => h0
  | p :: l => upd (HL h0 l) p.1 (some p.2)

structure HN (h0 : Heap) (ns : List Nat) : Prop where
  nd : ns.Nodup
  free : ∀ o ∈ ns, h0 o = none

abbrev nms (l : List (Nat × Ob)) : List Nat := l.map Prod.fst

theorem HL.out {h0 : Heap} {x : Nat} : ∀ {l : List (Nat × Ob)}, x ∉ nms l → HL h0 l x = h0 x
  | [], _ => rfl
  | p :: l, h => by
    simp only [nms, List.map_cons, List.mem_cons, not_or] at h
    rw [HL, upd_ne _ _ h.1]
    exact HL.out h.2

theorem HL.at {h0 : Heap} {a : Nat} {A : Ob} : ∀ {l : List (Nat × Ob)} {k : Nat}, (nms l).Nodup → l[k]? = some (a, A) → HL h0 l a = some A
  | [], k, _, h => by simp at h
  | p :: l, 0, _, h => by
    simp at h; subst h
    rw [HL, upd_same]
  | p :: l, k + 1, N, h => by
    simp only [nms, List.map_cons, List.nodup_cons] at N
    have hm : a ∈ nms l := List.mem_map.2 ⟨(a, A), List.mem_of_getElem? (by simpa using h), rfl⟩
    have hne : a ≠ p.1 := by rintro rfl; exact N.1 hm
    rw [HL, upd_ne _ _ hne]
    exact HL.at N.2 (by simpa using h)

theorem HL.fresh {h0 : Heap} {x : Nat} : ∀ {l : List (Nat × Ob)}, HL h0 l x = none → x ∉ nms l ∧ h0 x = none
  | [], h => ⟨by simp, h⟩
  | p :: l, h => by
    by_cases e : x = p.1
    · subst e; rw [HL, upd_same] at h; cases h
    · rw [HL, upd_ne _ _ e] at h
      obtain ⟨h1, h2⟩ := HL.fresh h
      refine ⟨?_, h2⟩
      simp only [nms, List.map_cons, List.mem_cons, not_or]
      exact ⟨e, h1⟩

theorem HL.new {h0 : Heap} {l : List (Nat × Ob)} (N : HN h0 (nms l)) {a : Nat} (h : HL h0 l a = none) : HN h0 (a :: nms l) := by
  obtain ⟨h1, h2⟩ := HL.fresh h
  refine ⟨List.nodup_cons.2 ⟨h1, N.nd⟩, fun o ho => ?_⟩
  rcases List.mem_cons.1 ho with rfl | ho
  · exact h2
  · exact N.free o ho

/-- An object written. -/
theorem HL.put {h0 : Heap} {a : Nat} {A A' : Ob} : ∀ {l : List (Nat × Ob)} {k : Nat}, (nms l).Nodup → l[k]? = some (a, A) → upd (HL h0 l) a (some A') = HL h0 (l.set k (a, A'))
  | [], k, _, h => by simp at h
  | p :: l, 0, _, h => by
    simp at h; subst h
    simp only [HL, List.set_cons_zero, upd_upd]
  | p :: l, k + 1, N, h => by
    simp only [nms, List.map_cons, List.nodup_cons] at N
    have hm : a ∈ nms l := List.mem_map.2 ⟨(a, A), List.mem_of_getElem? (by simpa using h), rfl⟩
    have hne : p.1 ≠ a := by rintro rfl; exact N.1 hm
    simp only [HL, List.set_cons_succ]
    rw [upd_comm _ _ _ hne, HL.put N.2 (by simpa using h)]

/-- An object given up. -/
theorem HL.del {h0 : Heap} {a : Nat} {A : Ob} : ∀ {l : List (Nat × Ob)} {k : Nat}, HN h0 (nms l) → l[k]? = some (a, A) → upd (HL h0 l) a none = HL h0 (l.eraseIdx k)
  | [], k, _, h => by simp at h
  | p :: l, 0, N, h => by
    simp at h; subst h
    have h1 : a ∉ nms l := (List.nodup_cons.1 N.nd).1
    have h2 := N.free a (by simp)
    simp only [HL, List.eraseIdx_cons_zero, upd_upd]
    exact upd_none_id (by rw [HL.out h1]; exact h2)
  | p :: l, k + 1, N, h => by
    have N' := N.nd
    simp only [nms, List.map_cons, List.nodup_cons] at N'
    have hm : a ∈ nms l := List.mem_map.2 ⟨(a, A), List.mem_of_getElem? (by simpa using h), rfl⟩
    have hne : p.1 ≠ a := by rintro rfl; exact N'.1 hm
    simp only [HL, List.eraseIdx_cons_succ]
    rw [upd_comm _ _ _ hne, HL.del ⟨N'.2, fun o ho => N.free o (by simp [nms] at ho ⊢; exact .inr ho)⟩ (by simpa using h)]

theorem HN.del {h0 : Heap} {ns : List Nat} (N : HN h0 ns) (k : Nat) : HN h0 (ns.eraseIdx k) :=
  ⟨N.nd.sublist (List.eraseIdx_sublist _ _), fun o ho => N.free o ((List.eraseIdx_sublist _ _).subset ho)⟩

theorem nodup_set {α : Type} {a : α} : ∀ {l : List α}, l.Nodup → a ∉ l → ∀ k, (l.set k a).Nodup
  | [], _, _, k => by simp
  | b :: l, N, h, 0 => by
    rw [List.nodup_cons] at N
    simp only [List.mem_cons, not_or] at h
    rw [List.set_cons_zero, List.nodup_cons]
    exact ⟨h.2, N.2⟩
  | b :: l, N, h, k + 1 => by
    rw [List.nodup_cons] at N
    simp only [List.mem_cons, not_or] at h
    rw [List.set_cons_succ, List.nodup_cons]
    refine ⟨fun hm => ?_, nodup_set N.2 h.2 k⟩
    rcases List.mem_or_eq_of_mem_set hm with q | q
    · exact N.1 q
    · exact h.1 q.symm

/-- An object told anew, under a new name. -/
theorem HL.ren {h0 : Heap} {a a' : Nat} {A A' : Ob} {l : List (Nat × Ob)} {k : Nat} (N : HN h0 (nms l)) (h : l[k]? = some (a, A)) (hf : HL h0 l a' = none) :
    upd (upd (HL h0 l) a none) a' (some A') = HL h0 (l.set k (a', A')) ∧ HN h0 (nms (l.set k (a', A'))) := by
  obtain ⟨f1, f2⟩ := HL.fresh hf
  have hk : k < l.length := (List.getElem?_eq_some_iff.1 h).1
  have N' : HN h0 (nms (l.set k (a', A'))) := by
    have e : nms (l.set k (a', A')) = (nms l).set k a' := by simp [nms, List.map_set]
    rw [e]
    refine ⟨?_, fun o ho => ?_⟩
    · exact nodup_set N.nd f1 k
    · rcases List.mem_or_eq_of_mem_set ho with ho | rfl
      · exact N.free o ho
      · exact f2
  refine ⟨?_, N'⟩
  have hget : (l.set k (a', A'))[k]? = some (a', A') := List.getElem?_set_self hk
  have d := HL.del (h0 := h0) N' hget
  have d0 := HL.del (h0 := h0) N h
  have e1 : (l.set k (a', A')).eraseIdx k = l.eraseIdx k := by
    apply List.ext_getElem?
    intro i
    simp only [List.getElem?_eraseIdx]
    split
    · rw [List.getElem?_set_ne (by omega)]
    · rw [List.getElem?_set_ne (by omega)]
  rw [d0, ← e1, ← d, upd_upd]
  funext x
  by_cases e : x = a'
  · subst e; rw [upd_same]; exact (HL.at N'.nd hget).symm
  · rw [upd_ne _ _ e]

theorem HL.sub {h0 : Heap} {l : List (Nat × Ob)} (N : HN h0 (nms l)) : subH h0 (HL h0 l) := by
  intro o x hx
  rw [HL.out]
  · exact hx
  · intro hm
    rw [N.free o hm] at hx; cases hx

end Go.Par

namespace Go.Par

theorem own_put {φ : Names} {h : Heap} {o : Nat} {x y : Ob} (hx : h o = some x) (b : Nat) : own φ (upd h o (some y)) b ↔ own φ h b := by
  have f : ∀ o', (upd h o (some y) o').isSome = (h o').isSome := by
    intro o'
    by_cases e : o' = o
    · subst e; rw [upd_same, hx]; rfl
    · rw [upd_ne _ _ e]
  constructor
  · rintro ⟨o', c, h1, h2⟩; exact ⟨o', c, by rwa [f] at h1, h2⟩
  · rintro ⟨o', c, h1, h2⟩; exact ⟨o', c, by rwa [f], h2⟩

theorem HR.trunc {φ : Names} {w : World} {h : Heap} (H : HR φ w h) {o : Nat} {x : Ob} (hx : h o = some x) (n : Nat) (hs0 : x.sz ≠ 0) : HR φ w (upd h o (some ⟨x.cells.take n, x.ty, x.sz, x.nn⟩)) := by
  have ho := own_put (φ := φ) (y := ⟨x.cells.take n, x.ty, x.sz, x.nn⟩) hx
  have f : ∀ o', (upd h o (some ⟨x.cells.take n, x.ty, x.sz, x.nn⟩) o').isSome = true → (h o').isSome = true := by
    intro o' q
    by_cases e : o' = o
    · subst e; simp [hx]
    · rwa [upd_ne _ _ e] at q
  refine ⟨fun o' y hy => ?_, fun o1 o2 b c c' h1 h2 => H.inj o1 o2 b c c' (f o1 h1) (f o2 h2), H.free⟩
  by_cases e : o' = o
  · subst e
    rw [upd_same] at hy
    cases hy
    obtain ⟨l, hl, hr⟩ := H.ob o' x hx
    refine ⟨l, hl, ?_⟩
    cases l with
    | nil => exact ⟨by simp [hr.1], hr.2⟩
    | res => exact hr.elim
    | mp b => exact absurd hr.1 hs0
    | blk b cap =>
      obtain ⟨cur, k1, k2, k3, k4, k5⟩ := hr
      refine ⟨cur, k1, k2, k3, by simp only [List.length_take]; omega, fun j u hu => ?_⟩
      simp only [List.getElem?_take] at hu
      split at hu
      · exact (k5 j u hu).weaken fun b hb => (ho b).1 hb
      · cases hu
  · rw [upd_ne _ _ e] at hy
    obtain ⟨l, hl, hr⟩ := H.ob o' y hy
    refine ⟨l, hl, ?_⟩
    cases l with
    | nil => exact hr
    | res => exact hr.elim
    | blk b cap =>
      obtain ⟨cur, k1, k2, k3, k4, k5⟩ := hr
      exact ⟨cur, k1, k2, k3, k4, fun j u hu => (k5 j u hu).weaken fun b hb => (ho b).1 hb⟩
    | mp b => exact hr.weak fun _ _ V => V.weaken fun b hb => (ho b).1 hb

theorem GV.trunc {v : AV} {h : Heap} {o : Nat} {x : Ob} (hx : h o = some x) (n : Nat) (hs0 : x.sz ≠ 0 := by first | (simp; done) | (intro e; cases e)) : GV v h v (upd h o (some ⟨x.cells.take n, x.ty, x.sz, x.nn⟩)) := fun φ _ _ H V =>
  ⟨φ, Ext.refl φ, H.trunc hx n hs0, V.weaken fun b hb => (own_put hx b).1 hb, fun b hb => (own_put hx b).1 hb⟩

theorem Fin.gv {v v' : AV} {h h' : Heap} {Q : AV → Heap → Prop} (g : GV v h v' h') (f : Fin v' h' Q) : Fin v h Q :=
  let ⟨r, h'', g', q⟩ := f
  ⟨r, h'', g.trans g', q⟩

theorem GStep.trunc {S : St} {o : Nat} {x : Ob} (hx : S.h o = some x) (n : Nat) (hs0 : x.sz ≠ 0 := by first | (simp; done) | (intro e; cases e)) : GStep S ⟨S.n, S.tm, upd S.h o (some ⟨x.cells.take n, x.ty, x.sz, x.nn⟩)⟩ :=
  ⟨rfl, fun φ w _ H T => ⟨φ, Ext.refl φ, H.trunc hx n hs0, T.mono (Ext.refl φ) (Keeps.less w fun b hb => (own_put hx b).1 hb), fun b hb => (own_put hx b).1 hb⟩⟩

theorem AC.fin {P : Program} {f : FuncId} {us : List AV} {h : Heap} {Q Q' : AV → Heap → Prop} (H : AC P f us h Q) (hq : ∀ r h', Q r h' → Fin r h' Q') : AC P f us h Q' :=
  ⟨H.1, fun φ w vs h1 h2 => (H.2 φ w vs h1 h2).mono fun _ w' ⟨φ', h', r, v, a, b, c, d, e, q⟩ =>
    let ⟨r2, h2', g, q2⟩ := hq r h' q
    let ⟨φ2, e2, H2, V2, o2⟩ := g φ' w' v c e
    ⟨φ2, h2', r2, v, a.trans e2, b.trans (Keeps.less w' o2), H2, d, V2, q2⟩⟩

/-- Two parts with what stands between them told. -/
theorem AW.seqTo {P : Program} {x y : Code} {Q : Exit → St → Prop} {S : St} (J : St) (hx : ∀ K : St → Prop, (∀ S', GStep S' J → K S') → AW P x (Then K Q) S) (hy : AW P y Q J) : AW P (.seq x y) Q S :=
  AW.seq fun K k => hx K fun S' g => k S' (AW.ghost g hy)

theorem AW.seqEx {P : Program} {x y : Code} {Q : Exit → St → Prop} {S : St} {X : Type} (I : X → Prop) (inv : X → St) (hx : ∀ K : St → Prop, (∀ S' x, I x → GStep S' (inv x) → K S') → AW P x (Then K Q) S) (hy : ∀ x, I x → AW P y Q (inv x)) : AW P (.seq x y) Q S :=
  AW.seq fun K k => hx K fun S' z hz g => k S' (AW.ghost g (hy z hz))

/-- The order in which objects are named makes no difference. -/
theorem HL.perm {h0 : Heap} {l l' : List (Nat × Ob)} (p : l.Perm l') (N : (nms l).Nodup) : HL h0 l = HL h0 l' := by
  induction p with
  | nil => rfl
  | cons a _ ih => rw [HL, HL, ih (List.nodup_cons.1 N).2]
  | swap a b l =>
    have hne : a.1 ≠ b.1 := by
      intro e
      have := (List.nodup_cons.1 N).1
      simp [e] at this
    simp only [HL]
    rw [upd_comm _ _ _ hne]
  | trans p1 p2 ih1 ih2 => rw [ih1 N, ih2 ((p1.map Prod.fst).nodup_iff.1 N)]

end Go.Par
