/- The game with counters and the three fixpoints: who wins. -/
import Derived.Test.YtaipmknajpbpkaaGcA
import Derived.Test.YtaipmknajpbpkaaCgA
set_option linter.unusedSimpArgs false
set_option linter.unusedVariables false
set_option linter.unusedSectionVars false
set_option maxRecDepth 8000
namespace Go.Par

section
variable (A E : List (List Bool))
abbrev kC : Nat := memsN A.length E.length
abbrev mC : Nat := max 1 A.length
abbrev nC : Nat := max 1 E.length
abbrev vC (p : Nat) : Nat := p / kC A E
abbrev iC (p : Nat) : Nat := p % kC A E / nC E
abbrev jC (p : Nat) : Nat := p % kC A E % nC E
abbrev MA (p : Nat) : Prop := metB A (iC A E p) (vC A E p) = true
abbrev ME (p : Nat) : Prop := metB E (jC A E p) (vC A E p) = true
end

section
variable {g : G} {A E : List (List Bool)} (h : cgErr g A E = 0) {p q : Nat}
include h
theorem cg_len : (cgG g A E).owner.length = g.owner.length * kC A E := length_tab _ _
theorem cg_ow (hp : p < g.owner.length * kC A E) : ow (cgG g A E) p = ow g (vC A E p) := by
  show (tab (g.owner.length * memsN A.length E.length) (cgOwn g (memsN A.length E.length))).getD p 0 = _
  rw [getD_tab, if_pos hp]; rfl
theorem cg_pr (hp : p < g.owner.length * kC A E) : prN (cgP g A E) p = onPrio A E (vC A E p) (p % kC A E) := by
  unfold prN
  show ((tab (g.owner.length * memsN A.length E.length) (cgPrio A E (memsN A.length E.length))).getD p 0).toNat = _
  rw [getD_tab, if_pos hp]; rfl
theorem cg_v (hp : p < g.owner.length * kC A E) : vC A E p < g.owner.length := cg_div hp
theorem cg_mem : p % kC A E < mC A * nC E := by
  have ok := cg_ok h
  exact Nat.lt_of_lt_of_eq (Nat.mod_lt p ok.k0) ok.ke
theorem cg_i : iC A E p < mC A := Nat.div_lt_of_lt_mul (by rw [Nat.mul_comm]; exact cg_mem h)
omit h in
theorem cg_j : jC A E p < nC E := Nat.mod_lt _ (by show 0 < max 1 _; omega)
theorem cg_at (w mem : Nat) (hm : mem < kC A E) : vC A E (w * kC A E + mem) = w ∧ (w * kC A E + mem) % kC A E = mem := divmod hm
theorem cg_lt {w mem : Nat} (hw : w < g.owner.length) (hm : mem < kC A E) : w * kC A E + mem < g.owner.length * kC A E := by
  have : (w + 1) * kC A E ≤ g.owner.length * kC A E := Nat.mul_le_mul_right _ hw
  rw [Nat.add_mul, Nat.one_mul] at this
  omega
theorem cg_then : onThen A E (vC A E p) (p % kC A E) < kC A E := by
  have ok := cg_ok h
  have := onThen_lt A E (vC A E p) (p % kC A E) (cg_mem h)
  rw [← ok.ke] at this
  exact this
theorem cg_edge (hp : p < g.owner.length * kC A E) : gE (cgG g A E) p q ↔ ∃ w, gE g (vC A E p) w ∧ q = w * kC A E + onThen A E (vC A E p) (p % kC A E) := by
  have ok := cg_ok h
  have nk := (nx_ok ok.m (cg_v h hp)).2
  have e : nx (cgG g A E) p = cgRow g A E (kC A E) p := by
    show (tab (g.owner.length * memsN A.length E.length) (cgRow g A E (memsN A.length E.length))).getD p [] = _
    rw [getD_tab, if_pos hp]
  unfold gE
  rw [e, cgRow, List.mem_map]
  constructor
  · rintro ⟨w, hw, hq⟩
    have := nk w hw
    obtain ⟨u, rfl⟩ : ∃ u : Nat, w = u := ⟨w.toNat, by omega⟩
    refine ⟨u, hw, ?_⟩
    have : ((u * kC A E + onThen A E (vC A E p) (p % kC A E) : Nat) : Int) = (q : Int) := by rw [← hq]; push_cast; rfl
    omega
  · rintro ⟨w, hw, rfl⟩
    exact ⟨(w : Int), hw, by push_cast; rfl⟩
theorem cg_step (hp : p < g.owner.length * kC A E) (e : gE (cgG g A E) p q) : gE g (vC A E p) (vC A E q) ∧ q < g.owner.length * kC A E ∧ q = vC A E q * kC A E + onThen A E (vC A E p) (p % kC A E) ∧
    ((MA A E p → iC A E q = (iC A E p + 1) % mC A) ∧ (¬ MA A E p → iC A E q = iC A E p)) ∧ ((ME A E p → jC A E q = (jC A E p + 1) % nC E) ∧ (¬ ME A E p → jC A E q = jC A E p)) := by
  have ok := cg_ok h
  obtain ⟨w, hw, rfl⟩ := (cg_edge h hp).1 e
  have ht := cg_then h (p := p)
  obtain ⟨e1, e2⟩ := cg_at h w _ ht
  have hwn := gE_lt ok.m hw (cg_v h hp)
  have jl := onJ_lt E (vC A E p) (p % kC A E)
  have n0 : 0 < nC E := by show 0 < max 1 _; omega
  have i1 : onThen A E (vC A E p) (p % kC A E) / nC E = onI A E (vC A E p) (p % kC A E) := by
    unfold onThen
    rw [Nat.mul_comm, Nat.mul_add_div n0, Nat.div_eq_of_lt jl, Nat.add_zero]
  have j1 : onThen A E (vC A E p) (p % kC A E) % nC E = onJ E (vC A E p) (p % kC A E) := by
    unfold onThen
    rw [Nat.mul_comm, Nat.mul_add_mod, Nat.mod_eq_of_lt jl]
  refine ⟨by rw [e1]; exact hw, cg_lt h hwn ht, by rw [e1], ?_, ?_⟩
  · show ((metB A _ _ = true → _) ∧ (¬ metB A _ _ = true → _))
    unfold iC
    rw [e2, i1, onI]
    exact ⟨fun q => by rw [if_pos q], fun q => by rw [if_neg q]⟩
  · show ((metB E _ _ = true → _) ∧ (¬ metB E _ _ = true → _))
    unfold jC
    rw [e2, j1, onJ]
    exact ⟨fun q => by rw [if_pos q], fun q => by rw [if_neg q]⟩
theorem cg_two (hp : p < g.owner.length * kC A E) : (ME A E p ∧ jC A E p = nC E - 1 → prN (cgP g A E) p = 2) ∧ (prN (cgP g A E) p = 2 → ME A E p) ∧ (prN (cgP g A E) p = 1 → MA A E p) ∧ (MA A E p ∧ iC A E p = mC A - 1 → 1 ≤ prN (cgP g A E) p) ∧ prN (cgP g A E) p ≤ 2 := by
  rw [cg_pr h hp]
  unfold onPrio
  refine ⟨fun q => ?_, fun q => ?_, fun q => ?_, fun q => ?_, ?_⟩
  · rw [if_pos]
    simp only [Bool.and_eq_true, beq_iff_eq]
    exact q
  · split at q
    · rename_i z; simp only [Bool.and_eq_true] at z; exact z.1
    · split at q <;> cases q
  · split at q
    · cases q
    · split at q
      · rename_i z; simp only [Bool.and_eq_true] at z; exact z.1
      · cases q
  · split
    · omega
    · rw [if_pos]
      · exact Nat.le_refl _
      · simp only [Bool.and_eq_true, beq_iff_eq]
        exact q
  · split
    · exact Nat.le_refl _
    · split <;> omega

theorem cg_pok : POk (cgG g A E) (cgP g A E) := by
  have e : ∀ p, fI (cgP g A E) p = if p < g.owner.length * kC A E then cgPrio A E (kC A E) p else 0 := fun p => by
    show (tab (g.owner.length * memsN A.length E.length) (cgPrio A E (memsN A.length E.length))).getD p 0 = _
    rw [getD_tab]
  refine ⟨cg_may h, by rw [cg_len h]; exact length_tab _ _, fun p => ?_, fun p => ?_⟩
  · rw [e]; split
    · exact (cgPrio_le A E _ _).1
    · omega
  · rw [e]; split
    · have := (cgPrio_le A E (kC A E) p).2; omega
    · omega

/-- From where the three fixpoints say so Sys wins, with whatever memory. -/
theorem sys_wins (hp : p < g.owner.length * kC A E) (hz : hasN (solveL g A E).1 (vC A E p) = true) : fI (winL (cgG g A E) (cgP g A E)) p = 1 := by
  have ok := cg_ok h
  have hm := ok.m
  have pok := cg_pok h
  obtain ⟨s1, s2, _, _⟩ := solve_spec hm A E
  have hA := rowsL_pos g A
  have fix := round_fix hm hA (rowsL g E) s2 s1
  have frc := solve_forced hm A E
  obtain ⟨Z, hZ⟩ : ∃ Z, Z = (solveL g A E).1 := ⟨_, rfl⟩
  rw [← hZ] at hz fix frc
  clear s1 s2
  have lA : (rowsL g A).length = mC A := rows_len g A
  have lE : (rowsL g E).length = nC E := rows_len g E
  have near := fun (p : Nat) (hp : p < g.owner.length * kC A E) (q : hasN Z (vC A E p) = true) => near_ex (row := (rowsL g E).getD (jC A E p) []) hm hA (fix _ (by rw [lE]; exact cg_j)) frc (cg_v h hp) q
  obtain ⟨T, hT⟩ : ∃ T : Nat → Int, ∀ p, (∃ w, gE g (vC A E p) w ∧ nearP g (rowsL g A) ((rowsL g E).getD (jC A E p) []) Z (vC A E p) w) → ∃ w, gE g (vC A E p) w ∧ nearP g (rowsL g A) ((rowsL g E).getD (jC A E p) []) Z (vC A E p) w ∧ T p = ((w * kC A E + onThen A E (vC A E p) (p % kC A E) : Nat) : Int) := by
    refine ⟨fun p => open Classical in if q : ∃ w, gE g (vC A E p) w ∧ nearP g (rowsL g A) ((rowsL g E).getD (jC A E p) []) Z (vC A E p) w then ((Classical.choose q * kC A E + onThen A E (vC A E p) (p % kC A E) : Nat) : Int) else 0, fun p q => ?_⟩
    refine ⟨Classical.choose q, (Classical.choose_spec q).1, (Classical.choose_spec q).2, ?_⟩
    simp only [q, dif_pos]
  have edge : ∀ p q, (p < g.owner.length * kC A E ∧ hasN Z (vC A E p) = true) → stE (gE (cgG g A E)) (ow (cgG g A E)) 1 T p q → nearP g (rowsL g A) ((rowsL g E).getD (jC A E p) []) Z (vC A E p) (vC A E q) := by
    rintro p q ⟨hp, hz⟩ ⟨e, ho⟩
    obtain ⟨st1, st2, st3, _, _⟩ := cg_step h hp e
    rw [cg_ow h hp] at ho
    obtain ⟨n1, n2⟩ := near p hp hz
    by_cases o : ow g (vC A E p) = 1
    · obtain ⟨w, w1, w2, w3⟩ := hT p (n1 o)
      have eq : q = w * kC A E + onThen A E (vC A E p) (p % kC A E) := by
        have := ho o
        rw [w3] at this
        omega
      have : vC A E q = w := by rw [eq]; exact (cg_at h w _ (cg_then h)).1
      rw [this]; exact w2
    · exact n2 o _ st1
  refine win_uniq pok (.inr rfl) (T := T) (D := fun p => p < g.owner.length * kC A E ∧ hasN Z (vC A E p) = true) (fun v hv => by rw [cg_len h]; exact hv.1) ⟨?_, ?_, ?_⟩ ⟨hp, hz⟩
  · rintro p ⟨hp, hz⟩ o
    rw [cg_ow h hp] at o
    obtain ⟨w, w1, w2, w3⟩ := hT p ((near p hp hz).1 o)
    refine ⟨_, w3, (cg_edge h hp).2 ⟨w, w1, rfl⟩, cg_lt h (gE_lt hm w1 (cg_v h hp)) (cg_then h), ?_⟩
    rw [(cg_at h w _ (cg_then h)).1]
    exact w2.1
  · rintro p ⟨hp, hz⟩ o q e
    rw [cg_ow h hp] at o
    obtain ⟨st1, st2, _⟩ := cg_step h hp e
    exact ⟨st2, ((near p hp hz).2 o _ st1).1⟩
  · rintro p ⟨hp, hz⟩ podd way
    have hodd : prN (cgP g A E) p = 1 := by
      have := (cg_two h hp).2.2.2.2
      have : prN (cgP g A E) p % 2 = 1 := by omega
      omega
    rw [hodd] at way
    -- no counter of ensure goes on
    have w1 := way.ring (m := nC E) (t := nC E - 1) (f := jC A E) (M := ME A E) (by show max 1 E.length - 1 < max 1 E.length; omega) (fun a _ => cg_j) (fun a b ha hb e => (cg_step h ha.1.1 e.1).2.2.2.2) (fun a ha e hM => by
      have := (cg_two h ha.1.1).1 ⟨hM, e⟩
      have := ha.2
      omega)
    have w2 := w1.flat (jC A E) (fun a b ha hb e => Nat.le_of_eq ((cg_step h ha.1.1.1 e.1).2.2.2.2.2 ha.2))
    obtain ⟨J, hJ⟩ : ∃ J, J = jC A E p := ⟨_, rfl⟩
    rw [← hJ] at w2
    -- ranks stay the same
    have nr : ∀ a b, ((((a < g.owner.length * kC A E ∧ hasN Z (vC A E a) = true) ∧ prN (cgP g A E) a ≤ 1) ∧ ¬ ME A E a) ∧ jC A E a = J) → stE (gE (cgG g A E)) (ow (cgG g A E)) 1 T a b → rkV2 g (rowsL g A) ((rowsL g E).getD J []) Z (vC A E b) < rkV2 g (rowsL g A) ((rowsL g E).getD J []) Z (vC A E a) ∨ (rkV2 g (rowsL g A) ((rowsL g E).getD J []) Z (vC A E b) ≤ rkV2 g (rowsL g A) ((rowsL g E).getD J []) Z (vC A E a) ∧ hasN ((rowsL g A).getD (akV g (rowsL g A) ((rowsL g E).getD J []) Z (vC A E a)) []) (vC A E a) = false ∧ (rkV2 g (rowsL g A) ((rowsL g E).getD J []) Z (vC A E b) = rkV2 g (rowsL g A) ((rowsL g E).getD J []) Z (vC A E a) → akV g (rowsL g A) ((rowsL g E).getD J []) Z (vC A E b) ≤ akV g (rowsL g A) ((rowsL g E).getD J []) Z (vC A E a))) := by
      intro a b ha e
      have n := edge a b ha.1.1.1 e
      rw [ha.2] at n
      refine n.2 ?_
      have hv := cg_v h ha.1.1.1.1
      have := ha.1.2
      rw [ME, met_eq hv cg_j, ha.2] at this
      simpa using this
    have w3 := w2.flat (fun a => rkV2 g (rowsL g A) ((rowsL g E).getD J []) Z (vC A E a)) (fun a b ha hb e => by
      rcases nr a b ha e with q | q
      · exact Nat.le_of_lt q
      · exact q.1)
    have nr2 : ∀ a b, (((((a < g.owner.length * kC A E ∧ hasN Z (vC A E a) = true) ∧ prN (cgP g A E) a ≤ 1) ∧ ¬ ME A E a) ∧ jC A E a = J) ∧ rkV2 g (rowsL g A) ((rowsL g E).getD J []) Z (vC A E a) = rkV2 g (rowsL g A) ((rowsL g E).getD J []) Z (vC A E p)) → (((((b < g.owner.length * kC A E ∧ hasN Z (vC A E b) = true) ∧ prN (cgP g A E) b ≤ 1) ∧ ¬ ME A E b) ∧ jC A E b = J) ∧ rkV2 g (rowsL g A) ((rowsL g E).getD J []) Z (vC A E b) = rkV2 g (rowsL g A) ((rowsL g E).getD J []) Z (vC A E p)) → stE (gE (cgG g A E)) (ow (cgG g A E)) 1 T a b → hasN ((rowsL g A).getD (akV g (rowsL g A) ((rowsL g E).getD J []) Z (vC A E a)) []) (vC A E a) = false ∧ akV g (rowsL g A) ((rowsL g E).getD J []) Z (vC A E b) ≤ akV g (rowsL g A) ((rowsL g E).getD J []) Z (vC A E a) := by
      intro a b ha hb e
      rcases nr a b ha.1 e with q | ⟨q1, q2, q3⟩
      · have := ha.2; have := hb.2; omega
      · exact ⟨q2, q3 (by rw [ha.2, hb.2])⟩
    have w4 := w3.flat (fun a => akV g (rowsL g A) ((rowsL g E).getD J []) Z (vC A E a)) (fun a b ha hb e => (nr2 a b ha hb e).2)
    obtain ⟨al, hal⟩ : ∃ al, al = akV g (rowsL g A) ((rowsL g E).getD J []) Z (vC A E p) := ⟨_, rfl⟩
    have w5 := w4.strong (P := fun a => hasN ((rowsL g A).getD al []) (vC A E a) = false) (fun a b ha hb e => by
      have := (nr2 a b ha.1 hb.1 e).1
      rw [ha.2, ← hal] at this
      exact this)
    have hal2 : al < mC A := by
      have q := w5.fst
      have zv := q.1.1.1.1.1.1.2
      have fx := fix J (by rw [hJ, lE]; exact cg_j)
      have ex := lvK_ex (row := (rowsL g E).getD J []) fx hz
      have r1 := (leastN_spec ex).1
      have hr : leastN (fun k => hasN (lvK g (rowsL g A) ((rowsL g E).getD J []) Z k) (vC A E p) = true) = rkV2 g (rowsL g A) ((rowsL g E).getD J []) Z (vC A E p) := rfl
      rw [hr] at r1
      have hv := cg_v h hp
      have r0 : rkV2 g (rowsL g A) ((rowsL g E).getD J []) Z (vC A E p) ≠ 0 := fun e => by
        rw [e] at r1
        have := bot_has (g := g) hv
        rw [show lvK g (rowsL g A) ((rowsL g E).getD J []) Z 0 = botL g from rfl, this] at r1
        cases r1
      obtain ⟨r, er⟩ : ∃ r, rkV2 g (rowsL g A) ((rowsL g E).getD J []) Z (vC A E p) = r + 1 := ⟨rkV2 g (rowsL g A) ((rowsL g E).getD J []) Z (vC A E p) - 1, by omega⟩
      rw [er] at r1
      have ex2 : ∃ a, a < (rowsL g A).length ∧ hasN (xaK g (rowsL g A) ((rowsL g E).getD J []) Z (rkV2 g (rowsL g A) ((rowsL g E).getD J []) Z (vC A E p) - 1) a) (vC A E p) = true := by
        rw [er]; exact (lvK_has hv).1 r1
      have := (leastN_spec ex2).1.1
      rw [hal]; exact Nat.lt_of_lt_of_eq this lA
    have w6 := w5.ring (m := mC A) (t := al) (f := iC A E) (M := MA A E) hal2 (fun a _ => cg_i h) (fun a b ha hb e => (cg_step h ha.1.1.1.1.1.1.1 e.1).2.2.2.1) (fun a ha e hM => by
      have hv := cg_v h ha.1.1.1.1.1.1.1
      rw [MA, met_eq hv (cg_i h), e, ha.2] at hM
      cases hM)
    exact w6.fst.2 ((cg_two h hp).2.2.1 hodd)
end
end Go.Par
