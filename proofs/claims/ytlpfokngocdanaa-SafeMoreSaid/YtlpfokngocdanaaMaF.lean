/- Operations that leave all objects as they are: they run as told, all of them. -/
import Derived.Test.YtlpfokngocdanaaMaE
set_option linter.unusedSimpArgs false
namespace Go.Par

theorem flatMap_getElem {xs : List AV} {s : Nat} (hs : ∀ x ∈ xs, x.flat.length = s) : ∀ (i j : Nat), j < s → (xs.flatMap AV.flat)[i * s + j]? = (xs[i]?).bind (·.flat[j]?) := by
  induction xs with
  | nil => intro i j _; simp
  | cons x xs ih =>
    intro i j hj
    have hx := hs x (by simp)
    rw [List.flatMap_cons]
    cases i with
    | zero => rw [List.getElem?_append_left (by omega)]; simp
    | succ i =>
      rw [Nat.succ_mul, List.getElem?_append_right (by omega)]
      rw [show i * s + s + j - x.flat.length = i * s + j by omega, ih (fun y hy => hs y (by simp [hy])) i j hj]
      simp

theorem flatMap_drop {xs : List AV} {s : Nat} (hs : ∀ x ∈ xs, x.flat.length = s) : ∀ a, (xs.drop a).flatMap AV.flat = (xs.flatMap AV.flat).drop (a * s) := by
  induction xs with
  | nil => intro a; simp
  | cons x xs ih =>
    intro a
    have hx := hs x (by simp)
    cases a with
    | zero => simp
    | succ a =>
      have e : x.flat.drop (a * s + s) = [] := List.drop_of_length_le (by omega)
      rw [List.drop_succ_cons, ih (fun y hy => hs y (by simp [hy])), List.flatMap_cons, Nat.succ_mul, List.drop_append, e, List.nil_append]
      congr 1
      omega

theorem flatMap_take {xs : List AV} {s : Nat} (hs : ∀ x ∈ xs, x.flat.length = s) : ∀ a, (xs.take a).flatMap AV.flat = (xs.flatMap AV.flat).take (a * s) := by
  induction xs with
  | nil => intro a; simp
  | cons x xs ih =>
    intro a
    have hx := hs x (by simp)
    cases a with
    | zero => simp
    | succ a =>
      have e : x.flat.take (a * s + s) = x.flat := List.take_of_length_le (by omega)
      rw [List.take_succ_cons, List.flatMap_cons, ih (fun y hy => hs y (by simp [hy])), List.flatMap_cons, Nat.succ_mul, List.take_append, e]
      congr 2
      omega

theorem replicate_flat (x : AV) : ∀ (n j : Nat), ((List.replicate n x).flatMap AV.flat)[j]? = if j < n * x.flat.length then x.flat[j % x.flat.length]? else none := by
  intro n
  induction n with
  | zero => intro j; simp
  | succ n ih =>
    intro j
    rw [List.replicate_succ, List.flatMap_cons, Nat.succ_mul]
    by_cases h : j < x.flat.length
    · rw [List.getElem?_append_left h, Nat.mod_eq_of_lt h, if_pos (by omega)]
    · rw [List.getElem?_append_right (by omega), ih]
      have : (j - x.flat.length) % x.flat.length = j % x.flat.length := by
        rw [← Nat.mod_eq_sub_mod (by omega)]
      rw [this]
      split <;> split <;> first | rfl | omega

theorem VR.ro_inv {φ : Names} {B : Nat → Prop} {w : World} {q : Bool} {xs : List AV} {V : Value} (h : VR φ B w (.ro q xs) V) :
    ∃ a c, V = .slice a xs.length c ∧ xs.length ≤ c ∧ (q = true → a.isSome = true) ∧ (a = none → c = 0) ∧ (xs = [] ∨ ∃ (b off s : Nat) (f : Nat → Value), a = some ⟨b, off, none⟩ ∧ ¬ B b ∧ b < w.heap.size ∧ (∀ x ∈ xs, x.flat.length = s) ∧
      (∀ (j : Nat) u, (xs.flatMap AV.flat)[j]? = some u → w.cell? ⟨b, off + j, none⟩ = some (f j)) ∧ (∀ (j : Nat) u, (xs.flatMap AV.flat)[j]? = some u → VR φ B w u (f j))) := by
  cases h with
  | roNil k a c ha hc => exact ⟨a, c, rfl, Nat.zero_le _, ha, hc, .inl rfl⟩
  | ro k xs n b off c s f hn hc hB hb hs hcell hval => exact ⟨some ⟨b, off, none⟩, c, by rw [hn], by omega, fun _ => rfl, (fun e => by cases e), .inr ⟨b, off, s, f, rfl, hB, hb, hs, hcell, hval⟩⟩

theorem VR.ro_mk {φ : Names} {B : Nat → Prop} {w : World} {q : Bool} {xs : List AV} {a : Option Addr} {c n : Nat} (hn : n = xs.length) (hc : xs.length ≤ c) (ha : q = true → a.isSome = true) (hac : a = none → c = 0)
    (h : xs = [] ∨ ∃ (b off s : Nat) (f : Nat → Value), a = some ⟨b, off, none⟩ ∧ ¬ B b ∧ b < w.heap.size ∧ (∀ x ∈ xs, x.flat.length = s) ∧
      (∀ (j : Nat) u, (xs.flatMap AV.flat)[j]? = some u → w.cell? ⟨b, off + j, none⟩ = some (f j)) ∧ (∀ (j : Nat) u, (xs.flatMap AV.flat)[j]? = some u → VR φ B w u (f j))) : VR φ B w (.ro q xs) (.slice a n c) := by
  subst hn
  rcases h with rfl | ⟨b, off, s, f, rfl, hB, hb, hs, hcell, hval⟩
  · exact .roNil q a c ha hac
  · exact .ro q xs _ b off c s f rfl hc hB hb hs hcell hval

theorem VR.ro_sub {φ : Names} {B : Nat → Prop} {w : World} {q : Bool} {xs : List AV} {A : Option Addr} {n c l m s : Nat} (h : VR φ B w (.ro q xs) (.slice A n c)) (hs : ∀ x ∈ xs, x.flat.length = s) (hl : l ≤ m) (hm : m ≤ xs.length) :
    VR φ B w (.ro q ((xs.take m).drop l)) (sliced A l m c s) := by
  obtain ⟨a, c', e, hc, ha, hac, hx⟩ := h.ro_inv
  cases e
  unfold sliced
  have hlen : ((xs.take m).drop l).length = m - l := by simp; omega
  refine VR.ro_mk hlen.symm (by omega) ?_ ?_ ?_
  · intro e
    have := ha e
    split <;> simpa using this
  · intro e
    have : c = 0 := hac (by split at e <;> simpa using e)
    omega
  · by_cases hlm : l = m
    · left
      apply List.eq_nil_of_length_eq_zero
      omega
    · right
      rcases hx with rfl | ⟨b, off, s', f, rfl, hB, hb, hs', hcell, hval⟩
      · simp at hm; omega
      · have hss : s' = s := by
          cases xs with
          | nil => simp at hm; omega
          | cons x xs => rw [← hs' x (by simp), ← hs x (by simp)]
        subst hss
        have hne : c ≠ l := by omega
        have hsub : ∀ x ∈ (xs.take m).drop l, x.flat.length = s' := fun x hx => hs x (List.mem_of_mem_take (List.mem_of_mem_drop hx))
        have hget : ∀ (j : Nat) u, (((xs.take m).drop l).flatMap AV.flat)[j]? = some u → (xs.flatMap AV.flat)[l * s' + j]? = some u := by
          intro j u hu
          rw [flatMap_drop (s := s') (fun x hx => hs x (List.mem_of_mem_take hx)), flatMap_take hs, List.getElem?_drop, List.getElem?_take] at hu
          split at hu
          · exact hu
          · cases hu
        refine ⟨b, off + l * s', s', fun j => f (l * s' + j), ?_, hB, hb, hsub, ?_, ?_⟩
        · rw [if_neg hne]
          simp [add_plain]
        · intro j u hu
          rw [Nat.add_assoc]
          exact hcell _ u (hget j u hu)
        · intro j u hu
          exact hval _ u (hget j u hu)

section runs
variable {P : Program} {Θ : Types} {o : Oper} {φ : Names} {h : Heap} {w : World} {a : Act} {ρ : Operand → AV} {v : AV}

theorem run_sliceOp (hΘ : Θ.ok P) (H : HR φ w h) {t : TypeId} {x : Operand} {lo hi mx : Option Operand} (ho : o.op = .slice t x lo hi mx) (hx : ∀ y ∈ (Op.slice t x lo hi mx).operands, VR φ (own φ h) w (ρ y) (a.eval y))
    (hp : pOp P Θ ρ h (.slice t x lo hi mx) (fun u => u = v)) : OpRun P o φ h w a v := by
  simp only [pOp] at hp
  split at hp
  · rename_i e _ _ _ hd
    have hu := (hΘ t _ hd).slice
    have hel : P.elem t = e := by simp [Program.elem, hu]
    split at hp
    · rename_i d hde
      have hsz := (hΘ e d hde).sizeOf (w := w)
      have hu' : P.underlying t = some (.slice (P.elem t)) := by rw [hel]; exact hu
      split at hp
      · exact hp.elim
      · rename_i hmx
        have hmx' : mx = none := by cases mx <;> simp at hmx ⊢
        subst hmx'
        have vx := hx x (by simp [Op.operands])
        have vlo : ∀ y, lo = some y → VR φ (own φ h) w (ρ y) (a.eval y) := fun y hy => hx y (by subst hy; simp [Op.operands])
        have vhi : ∀ y, hi = some y → VR φ (own φ h) w (ρ y) (a.eval y) := fun y hy => hx y (by subst hy; simp [Op.operands])
        split at hp
        · rename_i q xs e1 e2 e3
          subst hp
          rw [e1] at vx
          have hlo : lo = none := by cases lo <;> simp at e2 ⊢
          have hhi : hi = none := by cases hi <;> simp at e3 ⊢
          subst hlo; subst hhi
          obtain ⟨A, c, eV, hc, hA, hAc, hX⟩ := vx.ro_inv
          refine OpRun.same H (x := sliced A 0 xs.length c d.size) ?_ ?_
          · simp [execOp, ho, eV, run_sliceAt_slice _ _ _ _ _ _ hu', run_slice_all _ _ _ _ _ hu', hel, hsz]
          · unfold sliced
            have hA' : (if c = 0 then A else A.map (·.add (0 * d.size))) = A := by cases A <;> simp [Addr.add]
            rw [hA', Nat.sub_zero, Nat.sub_zero]
            exact VR.ro_mk rfl hc hA hAc hX
        · rename_i q xs k b e1 e2 e3
          obtain ⟨h0, h1, hs, rfl⟩ := hp
          rw [e1] at vx
          obtain ⟨y, rfl, ey⟩ := Option.map_eq_some_iff.1 e2
          have hhi : hi = none := by cases hi <;> simp at e3 ⊢
          subst hhi
          have vy := vlo y rfl
          rw [ey] at vy
          obtain ⟨A, c, eV, hc, hA, hAc, hX⟩ := vx.ro_inv
          have hq := VR.ro_sub (l := b.toNat) (m := xs.length) (by rw [← eV]; exact vx) hs (by omega) (Nat.le_refl _)
          rw [List.take_length] at hq
          refine OpRun.same H ?_ hq
          simp [execOp, ho, eV, vy.int_inv, run_sliceAt_slice _ _ _ _ _ _ hu', run_slice_l _ _ _ _ _ hu' _ _ h0 h1, hel, hsz]
        · rename_i q xs k b e1 e2 e3
          obtain ⟨h0, h1, hs, rfl⟩ := hp
          rw [e1] at vx
          obtain ⟨y, rfl, ey⟩ := Option.map_eq_some_iff.1 e3
          have hlo : lo = none := by cases lo <;> simp at e2 ⊢
          subst hlo
          have vy := vhi y rfl
          rw [ey] at vy
          obtain ⟨A, c, eV, hc, hA, hAc, hX⟩ := vx.ro_inv
          have hq := VR.ro_sub (l := 0) (m := b.toNat) (by rw [← eV]; exact vx) hs (by omega) (by omega)
          rw [List.drop_zero] at hq
          refine OpRun.same H ?_ hq
          simp [execOp, ho, eV, vy.int_inv, run_sliceAt_slice _ _ _ _ _ _ hu', run_slice_h (P := P) w t A xs.length c hu' k b h0 (by omega), hel, hsz]
        · rename_i q xs k b k' b' e1 e2 e3
          obtain ⟨h0, h1, h2, hs, rfl⟩ := hp
          rw [e1] at vx
          obtain ⟨y, rfl, ey⟩ := Option.map_eq_some_iff.1 e2
          obtain ⟨z, rfl, ez⟩ := Option.map_eq_some_iff.1 e3
          have vy := vlo y rfl
          rw [ey] at vy
          have vz := vhi z rfl
          rw [ez] at vz
          obtain ⟨A, c, eV, hc, hA, hAc, hX⟩ := vx.ro_inv
          have hq := VR.ro_sub (l := b.toNat) (m := b'.toNat) (by rw [← eV]; exact vx) hs (by omega) (by omega)
          refine OpRun.same H ?_ hq
          simp [execOp, ho, eV, vy.int_inv, vz.int_inv, run_sliceAt_slice _ _ _ _ _ _ hu', run_slice_lh (P := P) w t A xs.length c hu' k k' b b' h0 h1 (by omega), hel, hsz]
        · rename_i ob n k b e1 e2 e3
          obtain ⟨h0, h1, h2, rfl⟩ := hp
          rw [e1] at vx
          obtain ⟨y, rfl, ey⟩ := Option.map_eq_some_iff.1 e3
          have hlo : lo = none := by cases lo <;> simp at e2 ⊢
          subst hlo
          have vy := vhi y rfl
          rw [ey] at vy
          generalize hq : a.eval x = V at vx
          cases vx with
          | muN o hl => omega
          | mu o n b' cap hl hn =>
            refine OpRun.same H (x := sliced (some ⟨b', 0, none⟩) 0 b.toNat cap d.size) ?_ ?_
            · simp [execOp, ho, hq, vy.int_inv, run_sliceAt_slice _ _ _ _ _ _ hu', run_slice_h (P := P) w t (some ⟨b', 0, none⟩) n cap hu' k b h0 (by omega), hel, hsz]
            · unfold sliced
              have hA' : (if cap = 0 then some (⟨b', 0, none⟩ : Addr) else (some (⟨b', 0, none⟩ : Addr)).map (·.add (0 * d.size))) = some ⟨b', 0, none⟩ := by simp [Addr.add]
              rw [hA', Nat.sub_zero, Nat.sub_zero]
              exact .mu ob _ b' cap hl (by omega)
        · exact hp.elim
    · exact hp.elim
  · exact hp.elim
end runs
end Go.Par
