import Derived.Test.YtlpfokngocdanaaAtA
import Derived.Test.YtlpfokngocdanaaMaZ
set_option linter.unusedSimpArgs false
set_option linter.unusedVariables false
set_option maxRecDepth 8000
namespace Go.Par
open Go.Proofs

/-- The names of a search: the search, what is left, ranks, what is to do. -/
structure SN where
  s : Nat
  l : Nat
  r : Nat
  o : Nat
  nn : Bool

def obS (g : G) (who : Int) (k : SN) (n : Nat) : Ob := ⟨[.ro false (ints g.owner), .ro false (rows g.next), .int .i64 who, .mu k.l g.owner.length, .mu k.r g.owner.length, .mu k.o n], 53, 6, true⟩
@[simp] theorem obS_cells (g : G) (who : Int) (k : SN) (n : Nat) : (obS g who k n).cells = [.ro false (ints g.owner), .ro false (rows g.next), .int .i64 who, .mu k.l g.owner.length, .mu k.r g.owner.length, .mu k.o n] := rfl
@[simp] theorem obS_ty (g : G) (who : Int) (k : SN) (n : Nat) : (obS g who k n).ty = 53 := rfl
@[simp] theorem obS_sz (g : G) (who : Int) (k : SN) (n : Nat) : (obS g who k n).sz = 6 := rfl
@[simp] theorem obS_nn (g : G) (who : Int) (k : SN) (n : Nat) : (obS g who k n).nn = true := rfl
def obI (L : List Int) : Ob := ⟨L.map (.int .i64), 3, 1, true⟩
@[simp] theorem obI_cells (L : List Int) : (obI L).cells = L.map (.int .i64) := rfl
@[simp] theorem obI_ty (L : List Int) : (obI L).ty = 3 := rfl
@[simp] theorem obI_sz (L : List Int) : (obI L).sz = 1 := rfl
@[simp] theorem obI_nn (L : List Int) : (obI L).nn = true := rfl

def SHl (k : SN) (g : G) (who : Int) (L R : List Int) (T : List Pr) : List (Nat × Ob) := [(k.s, obS g who k T.length), (k.l, obI L), (k.r, obI R), (k.o, obT T k.nn)]
def SH (h0 : Heap) (k : SN) (g : G) (who : Int) (L R : List Int) (T : List Pr) : Heap := HL h0 (SHl k g who L R T)
abbrev SNok (h0 : Heap) (k : SN) : Prop := HN h0 [k.s, k.l, k.r, k.o]

section
variable {h0 : Heap} {k : SN} (N : SNok h0 k) (g : G) (who : Int) (L R : List Int) (T : List Pr)
include N
theorem SH.s : SH h0 k g who L R T k.s = some (obS g who k T.length) := HL.at (k := 0) N.nd rfl
theorem SH.l : SH h0 k g who L R T k.l = some (obI L) := HL.at (k := 1) N.nd rfl
theorem SH.r : SH h0 k g who L R T k.r = some (obI R) := HL.at (k := 2) N.nd rfl
theorem SH.o : SH h0 k g who L R T k.o = some (obT T k.nn) := HL.at (k := 3) N.nd rfl
theorem SH.putL (L' : List Int) : upd (SH h0 k g who L R T) k.l (some (obI L')) = SH h0 k g who L' R T := HL.put (k := 1) N.nd rfl
theorem SH.putR (R' : List Int) : upd (SH h0 k g who L R T) k.r (some (obI R')) = SH h0 k g who L R' T := HL.put (k := 2) N.nd rfl
theorem SH.putT (T' : List Pr) (h : T'.length = T.length) : upd (SH h0 k g who L R T) k.o (some (obT T' k.nn)) = SH h0 k g who L R T' := by
  have := HL.put (h0 := h0) (A' := obT T' k.nn) (l := SHl k g who L R T) (k := 3) N.nd rfl
  rw [SH, this]
  simp only [SH, SHl, List.set_cons_succ, List.set_cons_zero, h]
theorem SH.push (p : Pr) {o' : Nat} (ho : SH h0 k g who L R T o' = none) :
    SNok h0 ⟨k.s, k.l, k.r, o', true⟩ ∧ upd (upd (SH h0 k g who L R T) k.o none) o' (some (obT (T ++ [p]) true)) k.s = some (obS g who k T.length) ∧
    upd (upd (upd (SH h0 k g who L R T) k.o none) o' (some (obT (T ++ [p]) true))) k.s (some (obS g who ⟨k.s, k.l, k.r, o', true⟩ (T.length + 1))) = SH h0 ⟨k.s, k.l, k.r, o', true⟩ g who L R (T ++ [p]) := by
  obtain ⟨h1, h2⟩ := HL.ren (h0 := h0) (A' := obT (T ++ [p]) true) (a' := o') (l := SHl k g who L R T) (k := 3) N rfl ho
  have h2' : SNok h0 ⟨k.s, k.l, k.r, o', true⟩ := h2
  refine ⟨h2', ?_, ?_⟩
  · rw [SH, h1]; exact HL.at (k := 0) h2.nd rfl
  · rw [SH, h1, HL.put (k := 0) h2.nd rfl]
    simp only [SH, SHl, List.set_cons_zero, List.length_append, List.length_singleton]
    rfl
theorem SH.cut (n : Nat) (hn : n ≤ T.length) : upd (upd (SH h0 k g who L R T) k.s (some (obS g who k n))) k.o (some (obT (T.take n) k.nn)) = SH h0 k g who L R (T.take n) := by
  have h1 := HL.put (h0 := h0) (A' := obS g who k n) (l := SHl k g who L R T) (k := 0) N.nd rfl
  have N' : HN h0 (nms ((SHl k g who L R T).set 0 (k.s, obS g who k n))) := N
  have h2 := HL.put (h0 := h0) (A' := obT (T.take n) k.nn) (l := (SHl k g who L R T).set 0 (k.s, obS g who k n)) (k := 3) N'.nd rfl
  rw [SH, h1, h2]
  simp only [SH, SHl, List.set_cons_zero, List.set_cons_succ, List.length_take, Nat.min_eq_left hn]
end

abbrev rowI (k : SN) : AV := .ifc 60 (.ptr k.s 5)

theorem row_Push {h0 : Heap} {k : SN} (N : SNok h0 k) (g : G) (who : Int) (L R : List Int) (T : List Pr) (p : Pr) (ht : T.length ≤ 1099511627776) :
    AC Try.prog 81 [.ptr k.s 5, .ifc 57 (prV p)] (SH h0 k g who L R T) fun _ h' => ∃ o', SNok h0 ⟨k.s, k.l, k.r, o', true⟩ ∧ h' = SH h0 ⟨k.s, k.l, k.r, o', true⟩ g who L R (T ++ [p]) := by
  have hs := SH.s N g who L R T
  have ho := SH.o N g who L R T
  have hl := prF_len T
  have ha := prF_append T p
  refine AC.body Θ_ok Try.func81 rfl rfl (Nat.le_of_ble_eq_true rfl) ?_
  refine AW.seq fun _ k1 => AW.region [4] Θ_ok ?_
  simp [prV, newA]
  intro n4 hn4
  refine k1 _ ?_
  refine AW.box 4 (o := n4) rfl (upd_same _ _ _) ?_
  simp only [upd_upd, upd_none_id hn4]
  refine AW.seq fun _ k1 => AW.region [] Θ_ok ?_
  simp
  refine k1 _ ?_
  refine AW.cond true (by simp [Int.natCast_inj]) (fun _ => ?_) (fun h => by cases h)
  refine AW.draw [] 6 [4] Θ_ok mixed (by kernel_rfl) (by kernel_rfl) ?_
  simp [vcDraw, vcPre, vcTail, callA, isAlloc, isLoad, effOp, obl, obA, mkOK, valA, hs, ho]
  simp [appendA, ho, hl]
  refine ⟨rfl, ⟨by omega, by omega, by omega⟩, fun o' ho' => ?_⟩
  obtain ⟨N', h1, h2⟩ := SH.push N g who L R T p ho'
  rw [show List.take (T.length * 2) (prF T) = prF T by rw [prF_take, List.take_length], ha]
  rw [show (⟨prF (T ++ [p]), 57, 2, true⟩ : Ob) = obT (T ++ [p]) true from rfl, h1]
  simp
  exact Fin.refl ⟨o', N', h2⟩

theorem heap_up {h0 : Heap} {k : SN} (N : SNok h0 k) (g : G) (who : Int) (L R : List Int) (T : List Pr) (j : Nat) (hj : j < T.length) (ht : T.length ≤ 1099511627776) :
    AC Try.prog 60 [rowI k, .int .i64 j] (SH h0 k g who L R T) fun _ h' => h' = SH h0 k g who L R (upL T j) := by
  refine AC.body Θ_ok Try.func60 rfl rfl (Nat.le_of_ble_eq_true rfl) ?_
  refine AW.block ?_
  refine AW.loopI (X := List Pr × Nat) (fun x => upL x.1 x.2 = upL T j ∧ x.1.length = T.length ∧ x.2 < T.length) (fun x => ⟨23, [(0, rowI k), (1, .int .i64 x.2)], SH h0 k g who L R x.1⟩) (fun x => x.2) (T, j) ⟨rfl, rfl, hj⟩ (GStep.eq (by simp) (subH.refl _)) ?_
  rintro ⟨X, i⟩ ⟨hX, hl, hi⟩
  simp only at hX hl hi ⊢
  have hs := SH.s N g who L R X
  have ho := SH.o N g who L R X
  refine AW.block ?_
  obtain ⟨q, hq⟩ : ∃ q, q = (i - 1) / 2 := ⟨_, rfl⟩
  have w1 : IntKind.i64.wrap ((IntKind.i64.wrap ((i : Int) - 1)).tdiv 2) = (q : Int) := by
    by_cases e : i = 0
    · subst e; subst hq; rfl
    · have e1 : IntKind.i64.wrap ((i : Int) - 1) = ((i - 1 : Nat) : Int) := by
        rw [show ((i : Int) - 1) = ((i - 1 : Nat) : Int) by omega]; exact wrap_nat (by omega)
      rw [e1, show (((i - 1 : Nat) : Int).tdiv 2) = (((i - 1) / 2 : Nat) : Int) by rw [Int.tdiv_eq_ediv_of_nonneg (by omega)]; omega, ← hq]
      exact wrap_nat (by omega)
  refine AW.seq fun _ k1 => AW.region [] Θ_ok ?_
  simp [w1]
  refine k1 _ ?_
  refine AW.seq fun _ k1 => ?_
  by_cases hc : i = 0
  · subst hc
    have : q = 0 := by omega
    subst this
    refine AW.seq fun _ k2 => AW.region [] Θ_ok ?_
    simp
    refine k2 _ ?_
    refine AW.cond true (by simp [Int.natCast_inj]) (fun _ => ?_) (fun h => by cases h)
    refine AW.exit ?_
    simp [Try.f60]
    refine Fin.refl ?_
    rw [← hX, upL, if_pos rfl]
  · have hqi : q < i := by omega
    have n1 : ((q : Int) == (i : Int)) = false := by simp; omega
    have n2 : ¬ (q : Int) = (i : Int) := by omega
    refine AW.seq fun _ k2 => AW.regionAt 8 [] Θ_ok fun B hB => ?_
    simp [n1, n2]
    refine ⟨_, _, meth_Less, ?_⟩
    simp [recvA, hs]
    refine (row_Less ho rfl (by omega) (by omega)).mono ?_
    rintro r h' ⟨rfl, rfl⟩
    have hu : upL X i = if lessP (pat X i) (pat X q) = true then upL (swapL X q i) q else X := by rw [upL, if_neg hc, ← hq]
    rw [hX] at hu
    generalize lessP (pat X i) (pat X q) = b at *
    refine hB _ ?_
    clear hB B
    simp [n1, n2]
    refine k2 _ ?_
    cases b
    · refine AW.cond true (by simp [Int.natCast_inj]) (fun _ => ?_) (fun h => by cases h)
      refine AW.exit ?_
      simp [Try.f60]
      refine Fin.refl ?_
      rw [hu]; rfl
    · refine AW.cond false (by simp [Int.natCast_inj]) (fun h => by cases h) (fun _ => ?_)
      refine AW.skip ?_
      simp
      refine k1 _ ?_
      rw [if_pos rfl] at hu
      refine AW.seq fun _ k2 => AW.regionAt 4 [] Θ_ok fun B hB => ?_
      simp
      refine ⟨_, _, meth_Swap, ?_⟩
      simp [recvA, hs]
      refine (row_Swap ho rfl (by omega) (by omega)).mono ?_
      rintro r h' rfl
      refine hB _ ?_
      clear hB B
      simp
      refine k2 _ ?_
      refine AW.region [] Θ_ok ?_
      simp
      exact ⟨swapL X q i, q, ⟨hu.symm, by rw [swap_len]; exact hl, by omega⟩, hqi, GStep.eq (by simp) (subH_of_eq (SH.putT N g who L R X _ (swap_len _ _ _)))⟩

theorem heap_Push {h0 : Heap} {k : SN} (N : SNok h0 k) (g : G) (who : Int) (L R : List Int) (T : List Pr) (p : Pr) (ht : T.length < 1099511627776) :
    AC Try.prog 57 [rowI k, .ifc 57 (prV p)] (SH h0 k g who L R T) fun _ h' => ∃ o', SNok h0 ⟨k.s, k.l, k.r, o', true⟩ ∧ h' = SH h0 ⟨k.s, k.l, k.r, o', true⟩ g who L R (pushL T p) := by
  refine AC.body Θ_ok Try.func57 rfl rfl (Nat.le_of_ble_eq_true rfl) ?_
  refine AW.seq fun _ k1 => AW.regionAt 3 [] Θ_ok fun B hB => ?_
  simp
  refine ⟨_, _, meth_Push, ?_⟩
  simp [recvA]
  refine (row_Push N g who L R T p (by omega)).mono ?_
  rintro r h' ⟨o', N', rfl⟩
  have hs := SH.s N' g who L R (T ++ [p])
  simp only at hs
  refine hB _ ?_
  clear hB B
  simp
  refine k1 _ ?_
  refine AW.regionAt 3 [] Θ_ok fun B hB => ?_
  simp
  refine ⟨_, _, meth_Len, ?_⟩
  simp [recvA, hs]
  refine (row_Len _ _ _).mono ?_
  rintro r h' ⟨rfl, rfl⟩
  have w1 : IntKind.i64.wrap (T.length : Int) = (T.length : Int) := wrap_nat (by omega)
  refine hB _ ?_
  clear hB B
  simp [w1]
  refine (heap_up N' g who L R (T ++ [p]) T.length (by simp) (by simp; omega)).mono ?_
  rintro r h' rfl
  exact Fin.refl ⟨o', N', rfl⟩

theorem row_Pop {h0 : Heap} {k : SN} (N : SNok h0 k) (g : G) (who : Int) (L R : List Int) (T : List Pr) (n : Nat) (hn : T.length = n + 1) (ht : T.length ≤ 1099511627776) :
    AC Try.prog 80 [.ptr k.s 5] (SH h0 k g who L R T) fun r h' => r = .ifc 57 (prV (pat T n)) ∧ h' = SH h0 k g who L R (T.take n) := by
  have hs := SH.s N g who L R T
  have ho := SH.o N g who L R T
  have hl := prF_len T
  have w1 : IntKind.i64.wrap (n : Int) = (n : Int) := wrap_nat (by omega)
  have d1 := prF_drop T n (by omega)
  have hc := SH.cut N g who L R T n (by omega)
  refine AC.body Θ_ok Try.func80 rfl rfl (Nat.le_of_ble_eq_true rfl) ?_
  refine AW.seq fun _ k1 => AW.region [] Θ_ok ?_
  simp
  refine k1 _ ?_
  refine AW.seq fun _ k1 => AW.region [] Θ_ok ?_
  simp [hs, hn, w1]
  refine k1 _ ?_
  refine AW.seq fun _ k1 => AW.region [4] Θ_ok ?_
  simp [hs, ho, hn, d1, newA]
  refine ⟨by omega, fun n4 hn4 => k1 _ ?_⟩
  refine AW.box 4 (o := n4) rfl (upd_same _ _ _) ?_
  simp only [upd_upd, upd_none_id hn4]
  refine AW.seq fun _ k1 => AW.region [] Θ_ok ?_
  simp [hs, hn]
  refine ⟨by omega, k1 _ ?_⟩
  refine AW.seq fun _ kr => AW.region [] Θ_ok ?_
  simp
  refine kr _ (AW.ret ?_)
  simp [Try.f80]
  refine Fin.gv (GV.trunc (o := k.o) (x := obT T k.nn) ?_ (n * 2)) (Fin.refl ⟨rfl, ?_⟩)
  · have hne : k.o ≠ k.s := by
      intro e
      have := N.nd
      rw [e] at this
      simp at this
    rw [upd_ne _ _ hne]; exact ho
  · simp only [obT_cells, obT_ty, obT_sz, obT_nn, prF_take]
    exact hc

theorem heap_down {h0 : Heap} {k : SN} (N : SNok h0 k) (g : G) (who : Int) (L R : List Int) (T : List Pr) (i0 n : Nat) (hi0 : i0 < T.length) (hn : n < T.length) (ht : T.length ≤ 1099511627776) :
    AC Try.prog 58 [rowI k, .int .i64 i0, .int .i64 n] (SH h0 k g who L R T) fun _ h' => h' = SH h0 k g who L R (downL T i0 n) := by
  refine AC.body Θ_ok Try.func58 rfl rfl (Nat.le_of_ble_eq_true rfl) ?_
  refine AW.seq fun _ k1 => AW.region [] Θ_ok ?_
  simp
  refine k1 _ ?_
  refine AW.seq fun _ k1 => AW.region [] Θ_ok ?_
  simp
  refine k1 _ ?_
  refine AW.seq fun _ k1 => ?_
  refine AW.block ?_
  refine AW.loopI (X := List Pr × Nat) (fun x => downL x.1 x.2 n = downL T i0 n ∧ x.1.length = T.length ∧ x.2 < T.length) (fun x => ⟨48, [(0, rowI k), (1, .int .i64 i0), (2, .int .i64 n), (7, .int .i64 x.2)], SH h0 k g who L R x.1⟩) (fun x => n - x.2) (T, i0) ⟨rfl, rfl, hi0⟩ (GStep.eq (by simp) (subH.refl _)) ?_
  rintro ⟨X, i⟩ ⟨hX, hl, hi⟩
  simp only at hX hl hi ⊢
  have hs := SH.s N g who L R X
  have ho := SH.o N g who L R X
  have w1 : IntKind.i64.wrap (2 * (i : Int)) = 2 * (i : Int) := wrap_id (by omega) (by omega)
  have w2 : IntKind.i64.wrap (2 * (i : Int) + 1) = ((2 * i + 1 : Nat) : Int) := by rw [wrap_id (by omega) (by omega)]; omega
  have w3 : IntKind.i64.wrap (((2 * i + 1 : Nat) : Int) + 1) = ((2 * i + 2 : Nat) : Int) := wrap_succ (by omega)
  have hk := kid_bounds X i n
  have hkd : kidL X i n = if 2 * i + 2 < n ∧ lessP (pat X (2 * i + 2)) (pat X (2 * i + 1)) = true then 2 * i + 2 else 2 * i + 1 := rfl
  have hd : downL X i n = if 2 * i + 1 < n then if lessP (pat X (kidL X i n)) (pat X i) = true then downL (swapL X i (kidL X i n)) (kidL X i n) n else X else X := by rw [downL]
  rw [hX] at hd
  obtain ⟨j1, hj1⟩ : ∃ j1, j1 = 2 * i + 1 := ⟨_, rfl⟩
  obtain ⟨j2, hj2⟩ : ∃ j2, j2 = 2 * i + 2 := ⟨_, rfl⟩
  rw [← hj1] at w2 w3 hk hkd hd
  rw [← hj2] at w3 hkd
  refine AW.block ?_
  refine AW.seq fun _ k2 => AW.region [] Θ_ok ?_
  simp [w1, w2]
  refine k2 _ ?_
  refine AW.seq fun _ k2 => ?_
  have n1 : ¬ (j1 : Int) < 0 := by omega
  have n1' : (0 : Int) ≤ (j1 : Int) := by omega
  by_cases hc : j1 < n
  · rw [if_pos hc] at hd
    have n2 : (j1 : Int) < (n : Int) := by omega
    have n2' : ¬ (n : Int) ≤ (j1 : Int) := by omega
    have n2'' : ¬ n ≤ j1 := by omega
    refine AW.seq fun _ k3 => AW.region [] Θ_ok ?_
    simp [n1, n1', n2, n2', n2'', hc]
    refine k3 _ ?_
    refine AW.cond false (by simp [Int.natCast_inj, n1, n1', n2, n2', n2'', hc]) (fun h => by cases h) (fun _ => ?_)
    refine AW.skip ?_
    simp
    refine k2 _ ?_
    refine AW.seq fun _ k2 => AW.region [] Θ_ok ?_
    simp
    refine k2 _ ?_
    obtain ⟨c, hcd⟩ : ∃ c, c = kidL X i n := ⟨_, rfl⟩
    rw [← hcd] at hk hkd hd
    refine AW.seqTo ⟨48, [(0, rowI k), (1, .int .i64 i0), (2, .int .i64 n), (7, .int .i64 i), (9, .int .i64 c)], SH h0 k g who L R X⟩ (fun _ k3 => ?_) ?_
    · refine AW.seq fun _ k2 => AW.region [] Θ_ok ?_
      simp [w3]
      refine k2 _ ?_
      by_cases hc2 : j2 < n
      · have n3 : (j2 : Int) < (n : Int) := by omega
        have hb : (j2 < n ∧ lessP (pat X j2) (pat X j1) = true) ↔ lessP (pat X j2) (pat X j1) = true := ⟨fun h => h.2, fun h => ⟨hc2, h⟩⟩
        refine AW.seq fun _ k4 => AW.regionAt 8 [] Θ_ok fun B hB => ?_
        simp [n3, hc2]
        refine ⟨_, _, meth_Less, ?_⟩
        simp [recvA, hs]
        refine (row_Less ho rfl (by omega) (by omega)).mono ?_
        rintro r h' ⟨rfl, rfl⟩
        simp only [hb] at hkd
        generalize lessP (pat X j2) (pat X j1) = b at *
        refine hB _ ?_
        clear hB B
        simp [n3, hc2]
        refine k4 _ ?_
        cases b
        · simp at hkd
          refine AW.cond false (by simp [Int.natCast_inj]) (fun h => by cases h) (fun _ => ?_)
          refine AW.skip ?_
          simp
          exact k3 _ (GStep.eq (by simp [hkd]) (subH.refl _))
        · simp at hkd
          refine AW.cond true (by simp [Int.natCast_inj]) (fun _ => ?_) (fun h => by cases h)
          refine AW.region [] Θ_ok ?_
          simp
          exact k3 _ (GStep.eq (by simp [hkd]) (subH.refl _))
      · have n3 : ¬ (j2 : Int) < (n : Int) := by omega
        rw [if_neg (fun h => hc2 h.1)] at hkd
        refine AW.seq fun _ k4 => AW.region [] Θ_ok ?_
        simp [n3, hc2]
        refine k4 _ ?_
        refine AW.cond false (by simp [Int.natCast_inj]) (fun h => by cases h) (fun _ => ?_)
        refine AW.skip ?_
        simp
        exact k3 _ (GStep.eq (by simp [hkd]) (subH.refl _))
    · refine AW.seq fun _ k2 => ?_
      refine AW.seq fun _ k3 => AW.regionAt 4 [] Θ_ok fun B hB => ?_
      simp
      refine ⟨_, _, meth_Less, ?_⟩
      simp [recvA, hs]
      refine (row_Less ho rfl (by omega) (by omega)).mono ?_
      rintro r h' ⟨rfl, rfl⟩
      generalize lessP (pat X c) (pat X i) = b at *
      refine hB _ ?_
      clear hB B
      simp
      refine k3 _ ?_
      cases b
      · refine AW.cond true (by simp [Int.natCast_inj]) (fun _ => ?_) (fun h => by cases h)
        refine AW.exit ?_
        simp
        refine k1 _ ?_
        refine AW.seq fun _ kr => AW.region [] Θ_ok ?_
        simp
        refine kr _ (AW.ret ?_)
        simp [Try.f58]
        exact Fin.refl (by rw [hd]; rfl)
      · rw [if_pos rfl] at hd
        refine AW.cond false (by simp [Int.natCast_inj]) (fun h => by cases h) (fun _ => ?_)
        refine AW.skip ?_
        simp
        refine k2 _ ?_
        refine AW.seq fun _ k2 => AW.regionAt 4 [] Θ_ok fun B hB => ?_
        simp
        refine ⟨_, _, meth_Swap, ?_⟩
        simp [recvA, hs]
        refine (row_Swap ho rfl (by omega) (by omega)).mono ?_
        rintro r h' rfl
        refine hB _ ?_
        clear hB B
        simp
        refine k2 _ ?_
        refine AW.region [] Θ_ok ?_
        simp
        exact ⟨swapL X i c, c, ⟨hd.symm, by rw [swap_len]; exact hl, by omega⟩, by omega, GStep.eq (by simp) (subH_of_eq (SH.putT N g who L R X _ (swap_len _ _ _)))⟩
  · rw [if_neg hc] at hd
    have n2 : ¬ (j1 : Int) < (n : Int) := by omega
    have n2' : (n : Int) ≤ (j1 : Int) := by omega
    have n2'' : n ≤ j1 := by omega
    refine AW.seq fun _ k3 => AW.region [] Θ_ok ?_
    simp [n1, n1', n2, n2', n2'', hc]
    refine k3 _ ?_
    refine AW.cond true (by simp [Int.natCast_inj, n1, n1', n2, n2', n2'', hc]) (fun _ => ?_) (fun h => by cases h)
    refine AW.exit ?_
    simp
    refine k1 _ ?_
    refine AW.seq fun _ kr => AW.region [] Θ_ok ?_
    simp
    refine kr _ (AW.ret ?_)
    simp [Try.f58]
    exact Fin.refl (by rw [hd])

theorem heap_Pop {h0 : Heap} {k : SN} (N : SNok h0 k) (g : G) (who : Int) (L R : List Int) (T : List Pr) (hn : 0 < T.length) (ht : T.length ≤ 1099511627776) :
    AC Try.prog 42 [rowI k] (SH h0 k g who L R T) fun r h' => r = .ifc 57 (prV (popV T)) ∧ h' = SH h0 k g who L R (popL T) := by
  obtain ⟨n, hn1⟩ : ∃ n, T.length = n + 1 := ⟨T.length - 1, by omega⟩
  have hs := SH.s N g who L R T
  have ho := SH.o N g who L R T
  have w1 : IntKind.i64.wrap (n : Int) = (n : Int) := wrap_nat (by omega)
  have e1 : popV T = pat (downL (swapL T 0 n) 0 n) n := by rw [popV, hn1]; rfl
  have e2 : popL T = (downL (swapL T 0 n) 0 n).take n := by rw [popL, hn1]; rfl
  have hl1 : (swapL T 0 n).length = n + 1 := by rw [swap_len, hn1]
  have hl2 : (downL (swapL T 0 n) 0 n).length = n + 1 := by rw [downL_len n _ _ _ rfl, hl1]
  refine AC.body Θ_ok Try.func42 rfl rfl (Nat.le_of_ble_eq_true rfl) ?_
  refine AW.seq fun _ k1 => AW.region [] Θ_ok ?_
  simp
  refine k1 _ ?_
  refine AW.seq fun _ k1 => AW.regionAt 2 [] Θ_ok fun B hB => ?_
  simp
  refine ⟨_, _, meth_Len, ?_⟩
  simp [recvA, hs]
  refine (row_Len _ _ _).mono ?_
  rintro r h' ⟨rfl, rfl⟩
  refine hB _ ?_
  clear hB B
  simp [hn1, w1]
  refine k1 _ ?_
  refine AW.seq fun _ k1 => AW.regionAt 3 [] Θ_ok fun B hB => ?_
  simp
  refine ⟨_, _, meth_Swap, ?_⟩
  simp [recvA, hs]
  refine (row_Swap (i := 0) (j := n) ho rfl (by omega) (by omega)).mono ?_
  rintro r h' rfl
  rw [SH.putT N g who L R T _ (swap_len _ _ _)]
  refine hB _ ?_
  clear hB B
  simp
  refine k1 _ ?_
  refine AW.seq fun _ k1 => AW.region [] Θ_ok ?_
  simp
  refine (heap_down N g who L R (swapL T 0 n) 0 n (by omega) (by omega) (by omega)).mono ?_
  rintro r h' rfl
  refine k1 _ ?_
  refine AW.seq fun _ k1 => AW.regionAt 2 [] Θ_ok fun B hB => ?_
  simp
  refine ⟨_, _, meth_Pop, ?_⟩
  simp [recvA]
  refine (row_Pop N g who L R _ n hl2 (by omega)).mono ?_
  rintro r h' ⟨rfl, rfl⟩
  refine hB _ ?_
  clear hB B
  simp
  refine k1 _ (AW.ret ?_)
  simp [Try.f42]
  exact Fin.refl ⟨by rw [e1], by rw [e2]⟩
end Go.Par
