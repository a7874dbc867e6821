/- The lifter's memory; container/heap with a pile. -/
import Derived.Test.YtihlpchiomkinaaSpA
import Derived.Test.YtihlpchiomkinaaRkA
set_option linter.unusedSimpArgs false
set_option linter.unusedVariables false
set_option maxRecDepth 8000
set_option maxHeartbeats 1000000
namespace Go.Par
open Go.Proofs
attribute [local simp] plF_len

/-- The names of a lifter: itself, measures, what waits, what is to do. -/
structure LN where
  s : Nat
  m : Nat
  w : Nat
  o : Nat
  nn : Bool

def obL (g : G) (P : List Int) (mo : Mo) (k : LN) (n : Nat) : Ob := ⟨[.ro false (ints g.owner), .ro false (rows g.next), .ro false (ints P), .int .i64 mo.a, .int .i64 mo.b, .int .i64 mo.c, .mu k.m g.owner.length, .mu k.o n, .mu k.w g.owner.length], 86, 9, true⟩
@[simp] theorem obL_cells (g : G) (P : List Int) (mo : Mo) (k : LN) (n : Nat) : (obL g P mo k n).cells = [.ro false (ints g.owner), .ro false (rows g.next), .ro false (ints P), .int .i64 mo.a, .int .i64 mo.b, .int .i64 mo.c, .mu k.m g.owner.length, .mu k.o n, .mu k.w g.owner.length] := rfl
@[simp] theorem obL_ty (g : G) (P : List Int) (mo : Mo) (k : LN) (n : Nat) : (obL g P mo k n).ty = 86 := rfl
@[simp] theorem obL_sz (g : G) (P : List Int) (mo : Mo) (k : LN) (n : Nat) : (obL g P mo k n).sz = 9 := rfl
@[simp] theorem obL_nn (g : G) (P : List Int) (mo : Mo) (k : LN) (n : Nat) : (obL g P mo k n).nn = true := rfl

def LHl (k : LN) (g : G) (P : List Int) (mo : Mo) (R : List Ms) (W : List Bool) (T : List Nat) : List (Nat × Ob) := [(k.s, obL g P mo k T.length), (k.m, obR 69 R), (k.w, obB W), (k.o, obP T k.nn)]
def LH (h0 : Heap) (k : LN) (g : G) (P : List Int) (mo : Mo) (R : List Ms) (W : List Bool) (T : List Nat) : Heap := HL h0 (LHl k g P mo R W T)
abbrev LNok (h0 : Heap) (k : LN) : Prop := HN h0 [k.s, k.m, k.w, k.o]

section
variable {h0 : Heap} {k : LN} (N : LNok h0 k) (g : G) (P : List Int) (mo : Mo) (R : List Ms) (W : List Bool) (T : List Nat)
include N
theorem LH.s : LH h0 k g P mo R W T k.s = some (obL g P mo k T.length) := HL.at (k := 0) N.nd rfl
theorem LH.m : LH h0 k g P mo R W T k.m = some (obR 69 R) := HL.at (k := 1) N.nd rfl
theorem LH.w : LH h0 k g P mo R W T k.w = some (obB W) := HL.at (k := 2) N.nd rfl
theorem LH.o : LH h0 k g P mo R W T k.o = some (obP T k.nn) := HL.at (k := 3) N.nd rfl
theorem LH.putM (R' : List Ms) : upd (LH h0 k g P mo R W T) k.m (some (obR 69 R')) = LH h0 k g P mo R' W T := HL.put (k := 1) N.nd rfl
theorem LH.putW (W' : List Bool) : upd (LH h0 k g P mo R W T) k.w (some (obB W')) = LH h0 k g P mo R W' T := HL.put (k := 2) N.nd rfl
theorem LH.putT (T' : List Nat) (h : T'.length = T.length) : upd (LH h0 k g P mo R W T) k.o (some (obP T' k.nn)) = LH h0 k g P mo R W T' := by
  have := HL.put (h0 := h0) (A' := obP T' k.nn) (l := LHl k g P mo R W T) (k := 3) N.nd rfl
  rw [LH, this]
  simp only [LH, LHl, List.set_cons_succ, List.set_cons_zero, h]
theorem LH.push (v : Nat) {o' : Nat} (ho : LH h0 k g P mo R W T o' = none) :
    LNok h0 ⟨k.s, k.m, k.w, o', true⟩ ∧ upd (upd (LH h0 k g P mo R W T) k.o none) o' (some (obP (T ++ [v]) true)) k.s = some (obL g P mo k T.length) ∧
    upd (upd (upd (LH h0 k g P mo R W T) k.o none) o' (some (obP (T ++ [v]) true))) k.s (some (obL g P mo ⟨k.s, k.m, k.w, o', true⟩ (T.length + 1))) = LH h0 ⟨k.s, k.m, k.w, o', true⟩ g P mo R W (T ++ [v]) := by
  obtain ⟨h1, h2⟩ := HL.ren (h0 := h0) (A' := obP (T ++ [v]) true) (a' := o') (l := LHl k g P mo R W T) (k := 3) N rfl ho
  have h2' : LNok h0 ⟨k.s, k.m, k.w, o', true⟩ := h2
  refine ⟨h2', ?_, ?_⟩
  · rw [LH, h1]; exact HL.at (k := 0) h2.nd rfl
  · rw [LH, h1, HL.put (k := 0) h2.nd rfl]
    simp only [LH, LHl, List.set_cons_zero, List.length_append, List.length_singleton]
    rfl
theorem LH.cut (n : Nat) (hn : n ≤ T.length) : upd (upd (LH h0 k g P mo R W T) k.s (some (obL g P mo k n))) k.o (some (obP (T.take n) k.nn)) = LH h0 k g P mo R W (T.take n) := by
  have h1 := HL.put (h0 := h0) (A' := obL g P mo k n) (l := LHl k g P mo R W T) (k := 0) N.nd rfl
  have N' : HN h0 (nms ((LHl k g P mo R W T).set 0 (k.s, obL g P mo k n))) := N
  have h2 := HL.put (h0 := h0) (A' := obP (T.take n) k.nn) (l := (LHl k g P mo R W T).set 0 (k.s, obL g P mo k n)) (k := 3) N'.nd rfl
  rw [LH, h1, h2]
  simp only [LH, LHl, List.set_cons_zero, List.set_cons_succ, List.length_take, Nat.min_eq_left hn]
end

abbrev pileI (k : LN) : AV := .ifc 107 (.ptr k.s 7)

theorem pile_Push {h0 : Heap} {k : LN} (N : LNok h0 k) (g : G) (P : List Int) (mo : Mo) (R : List Ms) (W : List Bool) (T : List Nat) (v : Nat) (ht : T.length ≤ 1099511627776) :
    AC Try.prog 126 [.ptr k.s 7, .ifc 3 (.int .i64 v)] (LH h0 k g P mo R W T) fun _ h' => ∃ o', LNok h0 ⟨k.s, k.m, k.w, o', true⟩ ∧ h' = LH h0 ⟨k.s, k.m, k.w, o', true⟩ g P mo R W (T ++ [v]) := by
  have hs := LH.s N g P mo R W T
  have ho := LH.o N g P mo R W T
  have hl := plF_len T
  have ha := plF_append T v
  refine AC.body Θ_ok Try.func126 rfl rfl (Nat.le_of_ble_eq_true rfl) ?_
  refine AW.seq fun _ k1 => AW.region [] Θ_ok ?_
  simp
  refine k1 _ ?_
  refine AW.seq fun _ k1 => AW.region [] Θ_ok ?_
  simp
  refine k1 _ ?_
  refine AW.cond true (by simp [Int.natCast_inj]) (fun _ => ?_) (fun h => by cases h)
  refine AW.region [] Θ_ok ?_
  simp [hs, ho, appendA, hl]
  refine ⟨rfl, ⟨by omega, by omega⟩, fun o' ho' => ?_⟩
  obtain ⟨N', h1, h2⟩ := LH.push N g P mo R W T v ho'
  rw [show List.take T.length (plF T) = plF T by rw [plF_take, List.take_length], ha]
  rw [show (⟨plF (T ++ [v]), 3, 1, true⟩ : Ob) = obP (T ++ [v]) true from rfl, h1]
  simp
  exact Fin.refl ⟨o', N', h2⟩

theorem pheap_up {h0 : Heap} {k : LN} (N : LNok h0 k) (g : G) (P : List Int) (mo : Mo) (R : List Ms) (W : List Bool) (T : List Nat) (j : Nat) (hj : j < T.length) (ht : T.length ≤ 1099511627776) :
    AC Try.prog 97 [pileI k, .int .i64 j] (LH h0 k g P mo R W T) fun _ h' => ∃ T', T'.Perm T ∧ h' = LH h0 k g P mo R W T' := by
  refine AC.body Θ_ok Try.func97 rfl rfl (Nat.le_of_ble_eq_true rfl) ?_
  refine AW.block ?_
  refine AW.loopI (X := List Nat × Nat) (fun x => x.1.Perm T ∧ x.2 < T.length) (fun x => ⟨23, [(0, pileI k), (1, .int .i64 x.2)], LH h0 k g P mo R W x.1⟩) (fun x => x.2) (T, j) ⟨.refl _, hj⟩ (GStep.eq (by simp) (subH.refl _)) ?_
  rintro ⟨X, i⟩ ⟨hX, hi⟩
  simp only at hX hi ⊢
  have hl := hX.length_eq
  have hs := LH.s N g P mo R W X
  have ho := LH.o N g P mo R W X
  refine AW.block ?_
  obtain ⟨q, hq⟩ : ∃ q, q = (i - 1) / 2 := ⟨_, rfl⟩
  have w1 : IntKind.i64.wrap ((IntKind.i64.wrap ((i : Int) - 1)).tdiv 2) = (q : Int) := by
    by_cases e : i = 0
    · subst e; subst hq; rfl
    · have e1 : IntKind.i64.wrap ((i : Int) - 1) = ((i - 1 : Nat) : Int) := by
        rw [show ((i : Int) - 1) = ((i - 1 : Nat) : Int) by omega]; exact wrap_nat (by omega)
      rw [e1, show (((i - 1 : Nat) : Int).tdiv 2) = (((i - 1) / 2 : Nat) : Int) by rw [Int.tdiv_eq_ediv_of_nonneg (by omega)]; omega, ← hq]
      exact wrap_nat (by omega)
  refine AW.seq fun _ k1 => AW.region [] Θ_ok ?_
  simp [w1]
  refine k1 _ ?_
  refine AW.seq fun _ k1 => ?_
  by_cases hc : i = 0
  · subst hc
    have : q = 0 := by omega
    subst this
    refine AW.seq fun _ k2 => AW.region [] Θ_ok ?_
    simp
    refine k2 _ ?_
    refine AW.cond true (by simp [Int.natCast_inj]) (fun _ => ?_) (fun h => by cases h)
    refine AW.exit ?_
    simp [Try.f97]
    exact Fin.refl ⟨X, hX, rfl⟩
  · have hqi : q < i := by omega
    have n1 : ((q : Int) == (i : Int)) = false := by simp; omega
    have n2 : ¬ (q : Int) = (i : Int) := by omega
    refine AW.seq fun _ k2 => AW.regionAt 8 [] Θ_ok fun B hB => ?_
    simp [n1, n2]
    refine ⟨_, _, pmeth_Less, ?_⟩
    simp [recvA, hs]
    refine (pile_Less ho rfl (by omega) (by omega)).mono ?_
    rintro r h' ⟨rfl, rfl⟩
    generalize decide (plat X i < plat X q) = b at *
    refine hB _ ?_
    clear hB B
    simp [n1, n2]
    refine k2 _ ?_
    cases b
    · refine AW.cond true (by simp [Int.natCast_inj]) (fun _ => ?_) (fun h => by cases h)
      refine AW.exit ?_
      simp [Try.f97]
      exact Fin.refl ⟨X, hX, rfl⟩
    · refine AW.cond false (by simp [Int.natCast_inj]) (fun h => by cases h) (fun _ => ?_)
      refine AW.skip ?_
      simp
      refine k1 _ ?_
      refine AW.seq fun _ k2 => AW.regionAt 4 [] Θ_ok fun B hB => ?_
      simp
      refine ⟨_, _, pmeth_Swap, ?_⟩
      simp [recvA, hs]
      refine (pile_Swap ho rfl (by omega) (by omega)).mono ?_
      rintro r h' rfl
      refine hB _ ?_
      clear hB B
      simp
      refine k2 _ ?_
      refine AW.region [] Θ_ok ?_
      simp
      exact ⟨plswap X q i, q, ⟨(plswap_perm (by omega) (by omega)).trans hX, by omega⟩, hqi, GStep.eq (by simp) (subH_of_eq (LH.putT N g P mo R W X _ (plswap_len _ _ _)))⟩

theorem pheap_Push {h0 : Heap} {k : LN} (N : LNok h0 k) (g : G) (P : List Int) (mo : Mo) (R : List Ms) (W : List Bool) (T : List Nat) (v : Nat) (ht : T.length < 1099511627776) :
    AC Try.prog 91 [pileI k, .ifc 3 (.int .i64 v)] (LH h0 k g P mo R W T) fun _ h' => ∃ o' T', T'.Perm (v :: T) ∧ LNok h0 ⟨k.s, k.m, k.w, o', true⟩ ∧ h' = LH h0 ⟨k.s, k.m, k.w, o', true⟩ g P mo R W T' := by
  refine AC.body Θ_ok Try.func91 rfl rfl (Nat.le_of_ble_eq_true rfl) ?_
  refine AW.seq fun _ k1 => AW.regionAt 3 [] Θ_ok fun B hB => ?_
  simp
  refine ⟨_, _, pmeth_Push, ?_⟩
  simp [recvA]
  refine (pile_Push N g P mo R W T v (by omega)).mono ?_
  rintro r h' ⟨o', N', rfl⟩
  have hs := LH.s N' g P mo R W (T ++ [v])
  simp only at hs
  refine hB _ ?_
  clear hB B
  simp
  refine k1 _ ?_
  refine AW.regionAt 3 [] Θ_ok fun B hB => ?_
  simp
  refine ⟨_, _, pmeth_Len, ?_⟩
  simp [recvA, hs]
  refine (pile_Len _ _ _).mono ?_
  rintro r h' ⟨rfl, rfl⟩
  have w1 : IntKind.i64.wrap (T.length : Int) = (T.length : Int) := wrap_nat (by omega)
  refine hB _ ?_
  clear hB B
  simp [w1]
  refine (pheap_up N' g P mo R W (T ++ [v]) T.length (by simp) (by simp; omega)).mono ?_
  rintro r h' ⟨T', p, rfl⟩
  exact Fin.refl ⟨o', T', p.trans (List.perm_append_comm (l₁ := T) (l₂ := [v])), N', rfl⟩

theorem pile_Pop {h0 : Heap} {k : LN} (N : LNok h0 k) (g : G) (P : List Int) (mo : Mo) (R : List Ms) (W : List Bool) (T : List Nat) (n : Nat) (hn : T.length = n + 1) (ht : T.length ≤ 1099511627776) :
    AC Try.prog 125 [.ptr k.s 7] (LH h0 k g P mo R W T) fun r h' => r = .ifc 3 (.int .i64 (plat T n)) ∧ h' = LH h0 k g P mo R W (T.take n) := by
  have hs := LH.s N g P mo R W T
  have ho := LH.o N g P mo R W T
  have hl := plF_len T
  have w1 : IntKind.i64.wrap (n : Int) = (n : Int) := wrap_nat (by omega)
  have d1 := plF_drop T n (by omega)
  have hc := LH.cut N g P mo R W T n (by omega)
  refine AC.body Θ_ok Try.func125 rfl rfl (Nat.le_of_ble_eq_true rfl) ?_
  refine AW.seq fun _ k1 => AW.region [] Θ_ok ?_
  simp
  refine k1 _ ?_
  refine AW.seq fun _ k1 => AW.region [] Θ_ok ?_
  simp [hs, hn, w1]
  refine k1 _ ?_
  refine AW.seq fun _ k1 => AW.region [] Θ_ok ?_
  simp [hs, ho, hn, d1]
  refine ⟨by omega, k1 _ ?_⟩
  refine AW.seq fun _ k1 => AW.region [] Θ_ok ?_
  simp [hs, hn]
  refine ⟨by omega, k1 _ ?_⟩
  refine AW.seq fun _ kr => AW.region [] Θ_ok ?_
  simp
  refine kr _ (AW.ret ?_)
  simp [Try.f125]
  refine Fin.gv (GV.trunc (o := k.o) (x := obP T k.nn) ?_ n) (Fin.refl ⟨rfl, ?_⟩)
  · have hne : k.o ≠ k.s := by
      intro e
      have := N.nd
      rw [e] at this
      simp at this
    rw [upd_ne _ _ hne]; exact ho
  · simp only [obP_cells, obP_ty, obP_sz, obP_nn, plF_take]
    exact hc

theorem pheap_down {h0 : Heap} {k : LN} (N : LNok h0 k) (g : G) (P : List Int) (mo : Mo) (R : List Ms) (W : List Bool) (T : List Nat) (i0 n : Nat) (hi0 : i0 < T.length) (hn : n < T.length) (ht : T.length ≤ 1099511627776) :
    AC Try.prog 92 [pileI k, .int .i64 i0, .int .i64 n] (LH h0 k g P mo R W T) fun _ h' => ∃ T', T'.Perm T ∧ h' = LH h0 k g P mo R W T' := by
  refine AC.body Θ_ok Try.func92 rfl rfl (Nat.le_of_ble_eq_true rfl) ?_
  refine AW.seq fun _ k1 => AW.region [] Θ_ok ?_
  simp
  refine k1 _ ?_
  refine AW.seq fun _ k1 => AW.region [] Θ_ok ?_
  simp
  refine k1 _ ?_
  refine AW.seq fun _ k1 => ?_
  refine AW.block ?_
  refine AW.loopI (X := List Nat × Nat) (fun x => x.1.Perm T ∧ x.2 < T.length) (fun x => ⟨48, [(0, pileI k), (1, .int .i64 i0), (2, .int .i64 n), (7, .int .i64 x.2)], LH h0 k g P mo R W x.1⟩) (fun x => n - x.2) (T, i0) ⟨.refl _, hi0⟩ (GStep.eq (by simp) (subH.refl _)) ?_
  rintro ⟨X, i⟩ ⟨hX, hi⟩
  simp only at hX hi ⊢
  have hl := hX.length_eq
  have hs := LH.s N g P mo R W X
  have ho := LH.o N g P mo R W X
  have w1 : IntKind.i64.wrap (2 * (i : Int)) = 2 * (i : Int) := wrap_id (by omega) (by omega)
  have w2 : IntKind.i64.wrap (2 * (i : Int) + 1) = ((2 * i + 1 : Nat) : Int) := by rw [wrap_id (by omega) (by omega)]; omega
  have w3 : IntKind.i64.wrap (((2 * i + 1 : Nat) : Int) + 1) = ((2 * i + 2 : Nat) : Int) := wrap_succ (by omega)
  obtain ⟨j1, hj1⟩ : ∃ j1, j1 = 2 * i + 1 := ⟨_, rfl⟩
  obtain ⟨j2, hj2⟩ : ∃ j2, j2 = 2 * i + 2 := ⟨_, rfl⟩
  rw [← hj1] at w2 w3
  rw [← hj2] at w3
  refine AW.block ?_
  refine AW.seq fun _ k2 => AW.region [] Θ_ok ?_
  simp [w1, w2]
  refine k2 _ ?_
  refine AW.seq fun _ k2 => ?_
  have n1 : ¬ (j1 : Int) < 0 := by omega
  have n1' : (0 : Int) ≤ (j1 : Int) := by omega
  by_cases hc : j1 < n
  · have n2 : (j1 : Int) < (n : Int) := by omega
    have n2' : ¬ (n : Int) ≤ (j1 : Int) := by omega
    have n2'' : ¬ n ≤ j1 := by omega
    refine AW.seq fun _ k3 => AW.region [] Θ_ok ?_
    simp [n1, n1', n2, n2', n2'', hc]
    refine k3 _ ?_
    refine AW.cond false (by simp [Int.natCast_inj, n1, n1', n2, n2', n2'', hc]) (fun h => by cases h) (fun _ => ?_)
    refine AW.skip ?_
    simp
    refine k2 _ ?_
    refine AW.seq fun _ k2 => AW.region [] Θ_ok ?_
    simp
    refine k2 _ ?_
    obtain ⟨c, hcd, hcn⟩ : ∃ c, (j2 < n ∧ plat X j2 < plat X j1 → c = j2) ∧ (¬ (j2 < n ∧ plat X j2 < plat X j1) → c = j1) := by
      by_cases q : j2 < n ∧ plat X j2 < plat X j1
      · exact ⟨j2, fun _ => rfl, fun z => absurd q z⟩
      · exact ⟨j1, fun z => absurd z q, fun _ => rfl⟩
    have hk : i < c ∧ c < n := by
      by_cases q : j2 < n ∧ plat X j2 < plat X j1
      · have := hcd q; omega
      · have := hcn q; omega
    refine AW.seqTo ⟨48, [(0, pileI k), (1, .int .i64 i0), (2, .int .i64 n), (7, .int .i64 i), (9, .int .i64 c)], LH h0 k g P mo R W X⟩ (fun _ k3 => ?_) ?_
    · refine AW.seq fun _ k2 => AW.region [] Θ_ok ?_
      simp [w3]
      refine k2 _ ?_
      by_cases hc2 : j2 < n
      · have n3 : (j2 : Int) < (n : Int) := by omega
        refine AW.seq fun _ k4 => AW.regionAt 8 [] Θ_ok fun B hB => ?_
        simp [n3, hc2]
        refine ⟨_, _, pmeth_Less, ?_⟩
        simp [recvA, hs]
        refine (pile_Less ho rfl (by omega) (by omega)).mono ?_
        rintro r h' ⟨rfl, rfl⟩
        generalize hb : decide (plat X j2 < plat X j1) = b at *
        refine hB _ ?_
        clear hB B
        simp [n3, hc2]
        refine k4 _ ?_
        cases b
        · have hb' := of_decide_eq_false hb
          have e := hcn fun z => hb' z.2
          refine AW.cond false (by simp [Int.natCast_inj]) (fun h => by cases h) (fun _ => ?_)
          refine AW.skip ?_
          simp
          exact k3 _ (GStep.eq (by simp [e]) (subH.refl _))
        · have hb' := of_decide_eq_true hb
          have e := hcd ⟨hc2, hb'⟩
          refine AW.cond true (by simp [Int.natCast_inj]) (fun _ => ?_) (fun h => by cases h)
          refine AW.region [] Θ_ok ?_
          simp
          exact k3 _ (GStep.eq (by simp [e]) (subH.refl _))
      · have n3 : ¬ (j2 : Int) < (n : Int) := by omega
        have e := hcn fun z => hc2 z.1
        refine AW.seq fun _ k4 => AW.region [] Θ_ok ?_
        simp [n3, hc2]
        refine k4 _ ?_
        refine AW.cond false (by simp [Int.natCast_inj]) (fun h => by cases h) (fun _ => ?_)
        refine AW.skip ?_
        simp
        exact k3 _ (GStep.eq (by simp [e]) (subH.refl _))
    · refine AW.seq fun _ k2 => ?_
      refine AW.seq fun _ k3 => AW.regionAt 4 [] Θ_ok fun B hB => ?_
      simp
      refine ⟨_, _, pmeth_Less, ?_⟩
      simp [recvA, hs]
      refine (pile_Less ho rfl (by omega) (by omega)).mono ?_
      rintro r h' ⟨rfl, rfl⟩
      generalize decide (plat X c < plat X i) = b at *
      refine hB _ ?_
      clear hB B
      simp
      refine k3 _ ?_
      cases b
      · refine AW.cond true (by simp [Int.natCast_inj]) (fun _ => ?_) (fun h => by cases h)
        refine AW.exit ?_
        simp
        refine k1 _ ?_
        refine AW.seq fun _ kr => AW.region [] Θ_ok ?_
        simp
        refine kr _ (AW.ret ?_)
        simp [Try.f92]
        exact Fin.refl ⟨X, hX, rfl⟩
      · refine AW.cond false (by simp [Int.natCast_inj]) (fun h => by cases h) (fun _ => ?_)
        refine AW.skip ?_
        simp
        refine k2 _ ?_
        refine AW.seq fun _ k2 => AW.regionAt 4 [] Θ_ok fun B hB => ?_
        simp
        refine ⟨_, _, pmeth_Swap, ?_⟩
        simp [recvA, hs]
        refine (pile_Swap ho rfl (by omega) (by omega)).mono ?_
        rintro r h' rfl
        refine hB _ ?_
        clear hB B
        simp
        refine k2 _ ?_
        refine AW.region [] Θ_ok ?_
        simp
        exact ⟨plswap X i c, c, ⟨(plswap_perm (by omega) (by omega)).trans hX, by omega⟩, by omega, GStep.eq (by simp) (subH_of_eq (LH.putT N g P mo R W X _ (plswap_len _ _ _)))⟩
  · have n2 : ¬ (j1 : Int) < (n : Int) := by omega
    have n2' : (n : Int) ≤ (j1 : Int) := by omega
    have n2'' : n ≤ j1 := by omega
    refine AW.seq fun _ k3 => AW.region [] Θ_ok ?_
    simp [n1, n1', n2, n2', n2'', hc]
    refine k3 _ ?_
    refine AW.cond true (by simp [Int.natCast_inj, n1, n1', n2, n2', n2'', hc]) (fun _ => ?_) (fun h => by cases h)
    refine AW.exit ?_
    simp
    refine k1 _ ?_
    refine AW.seq fun _ kr => AW.region [] Θ_ok ?_
    simp
    refine kr _ (AW.ret ?_)
    simp [Try.f92]
    exact Fin.refl ⟨X, hX, rfl⟩

theorem pheap_Pop {h0 : Heap} {k : LN} (N : LNok h0 k) (g : G) (P : List Int) (mo : Mo) (R : List Ms) (W : List Bool) (T : List Nat) (hn : 0 < T.length) (ht : T.length ≤ 1099511627776) :
    AC Try.prog 82 [pileI k] (LH h0 k g P mo R W T) fun r h' => ∃ v T', T.Perm (v :: T') ∧ r = .ifc 3 (.int .i64 (v : Nat)) ∧ h' = LH h0 k g P mo R W T' := by
  obtain ⟨n, hn1⟩ : ∃ n, T.length = n + 1 := ⟨T.length - 1, by omega⟩
  have hs := LH.s N g P mo R W T
  have ho := LH.o N g P mo R W T
  have w1 : IntKind.i64.wrap (n : Int) = (n : Int) := wrap_nat (by omega)
  have hl1 : (plswap T 0 n).length = n + 1 := by rw [plswap_len, hn1]
  refine AC.body Θ_ok Try.func82 rfl rfl (Nat.le_of_ble_eq_true rfl) ?_
  refine AW.seq fun _ k1 => AW.region [] Θ_ok ?_
  simp
  refine k1 _ ?_
  refine AW.seq fun _ k1 => AW.regionAt 2 [] Θ_ok fun B hB => ?_
  simp
  refine ⟨_, _, pmeth_Len, ?_⟩
  simp [recvA, hs]
  refine (pile_Len _ _ _).mono ?_
  rintro r h' ⟨rfl, rfl⟩
  refine hB _ ?_
  clear hB B
  simp [hn1, w1]
  refine k1 _ ?_
  refine AW.seq fun _ k1 => AW.regionAt 3 [] Θ_ok fun B hB => ?_
  simp
  refine ⟨_, _, pmeth_Swap, ?_⟩
  simp [recvA, hs]
  refine (pile_Swap (i := 0) (j := n) ho rfl (by omega) (by omega)).mono ?_
  rintro r h' rfl
  rw [LH.putT N g P mo R W T _ (plswap_len _ _ _)]
  refine hB _ ?_
  clear hB B
  simp
  refine k1 _ ?_
  refine AW.seq fun _ k1 => AW.region [] Θ_ok ?_
  simp
  refine (pheap_down N g P mo R W (plswap T 0 n) 0 n (by omega) (by omega) (by omega)).mono ?_
  rintro r h' ⟨X, hX, rfl⟩
  have hl2 : X.length = n + 1 := by rw [hX.length_eq, hl1]
  refine k1 _ ?_
  refine AW.seq fun _ k1 => AW.regionAt 2 [] Θ_ok fun B hB => ?_
  simp
  refine ⟨_, _, pmeth_Pop, ?_⟩
  simp [recvA]
  refine (pile_Pop N g P mo R W _ n hl2 (by omega)).mono ?_
  rintro r h' ⟨rfl, rfl⟩
  refine hB _ ?_
  clear hB B
  simp
  refine k1 _ (AW.ret ?_)
  simp [Try.f82]
  refine Fin.refl ⟨plat X n, X.take n, ?_, rfl, rfl⟩
  have hp : X.Perm T := hX.trans (plswap_perm (by omega) (by omega))
  refine hp.symm.trans ?_
  have e : X = X.take n ++ [plat X n] := by
    rw [plat_lt (show n < X.length by omega)]
    conv => lhs; rw [← List.take_length (l := X), hl2]
    rw [List.take_succ_eq_append_getElem (by omega)]
  conv => lhs; rw [e]
  exact List.perm_append_comm (l₁ := X.take n) (l₂ := [plat X n])
end Go.Par
