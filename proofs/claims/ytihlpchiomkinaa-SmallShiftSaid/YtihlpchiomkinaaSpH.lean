/- The lifter: lift. -/
import Derived.Test.YtihlpchiomkinaaSpF
import Derived.Test.YtihlpchiomkinaaSpG
set_option linter.unusedSimpArgs false
set_option linter.unusedVariables false
set_option maxRecDepth 8000
set_option maxHeartbeats 2000000
namespace Go.Par
open Go.Proofs

structure LX where
  k : LN
  R : List Ms
  W : List Bool
  T : List Nat
  x : Nat
/-- The same lifter. -/
structure LSame (h0 : Heap) (k k' : LN) : Prop where
  s : k'.s = k.s
  m : k'.m = k.m
  w : k'.w = k.w
  ok : LNok h0 k'
/-- What lift leaves. -/
structure LiftR (h0 : Heap) (k : LN) (g : G) (P : List Int) (h' : Heap) : Prop where
  ex : ∃ k' : LN, ∃ W, LSame h0 k k' ∧ h' = LH h0 k' g P (moL P) (measL g P) W []

theorem lift_lend {h0 : Heap} {k : LN} (N : LNok h0 k) (g : G) (P : List Int) (mo : Mo) (R : List Ms) (W : List Bool) (T : List Nat) (hR : R.length = g.owner.length) (v : Int) : LendPs (LH h0 k g P mo R W T) [.ptr k.s 0, .int .i64 v] [.rop (lifC g P mo R), .int .i64 v] := by
  have lm : Lend (LH h0 k g P mo R W T) (.mu k.m g.owner.length) (.ro true (mss R)) := by
    refine .mu (LH.m N g P mo R W T) (fun _ => rfl) (by rw [mss_len, hR]) (fun y hy => ?_) ?_
    · obtain ⟨m, _, rfl⟩ := List.mem_map.1 hy
      rfl
    · rw [mss_flat]
      exact (List.take_of_length_le (by have q := obR_len 69 R; rw [hR] at q; exact Nat.le_of_eq q)).symm
  refine .cons (.obj (fun j => (obL g P mo k T.length).cells.getD j .any) (LH.s N g P mo R W T) (fun j u' hj => ?_) (fun j u' hj => ?_)) (.cons (.base (.same (wk_refl _))) .nil)
  · have hj9 : j < 9 := (List.getElem?_eq_some_iff.1 hj).1
    have h2 : j < (obL g P mo k T.length).cells.length := hj9
    rw [List.getD_eq_getElem?_getD, List.getElem?_eq_getElem h2]; rfl
  · have hj9 : j < 9 := (List.getElem?_eq_some_iff.1 hj).1
    match j, hj9 with
    | 0, _ => cases hj; exact .inr (.same (wk_refl _))
    | 1, _ => cases hj; exact .inr (.same (wk_refl _))
    | 2, _ => cases hj; exact .inr (.same (wk_refl _))
    | 3, _ => cases hj; exact .inr (.same (wk_refl _))
    | 4, _ => cases hj; exact .inr (.same (wk_refl _))
    | 5, _ => cases hj; exact .inr (.same (wk_refl _))
    | 6, _ => cases hj; exact .inr lm
    | 7, _ => cases hj; exact .inl rfl
    | 8, _ => cases hj; exact .inl rfl

/-- With one measure beside. -/
def LJ (h0 : Heap) (k : LN) (g : G) (P : List Int) (R : List Ms) (W : List Bool) (T : List Nat) (a : Nat) (m : M4) : Heap := HL h0 ((a, obM 69 m) :: LHl k g P (moL P) R W T)
section
variable {h0 : Heap} {k : LN} {a : Nat} (N : HN h0 [a, k.s, k.m, k.w, k.o]) (g : G) (P : List Int) (R : List Ms) (W : List Bool) (T : List Nat) (m : M4)
include N
theorem LJ.ga : LJ h0 k g P R W T a m a = some (obM 69 m) := HL.at (k := 0) N.nd rfl
theorem LJ.gs : LJ h0 k g P R W T a m k.s = some (obL g P (moL P) k T.length) := HL.at (k := 1) N.nd rfl
theorem LJ.gm : LJ h0 k g P R W T a m k.m = some (obR 69 R) := HL.at (k := 2) N.nd rfl
theorem LJ.putM (R' : List Ms) : upd (LJ h0 k g P R W T a m) k.m (some (obR 69 R')) = LJ h0 k g P R' W T a m := HL.put (k := 2) N.nd rfl
theorem LJ.forget : subH (LH h0 k g P (moL P) R W T) (LJ h0 k g P R W T a m) := HL.forget (by
  have nd := N.nd
  simp only [List.nodup_cons, List.mem_cons, not_or, List.not_mem_nil, not_false_iff, and_true] at nd
  rw [HL.out (by simp [LHl, nms, nd])]
  exact N.free a (by simp))
end

theorem small_lift {h0 : Heap} {k : LN} (N : LNok h0 k) (g : G) (hf : g.fits) (P : List Int) (ok : MG g P) :
    AC Try.prog 71 [.ptr k.s 0] (LH h0 k g P (moL P) (zeroM g.owner.length) (tab g.owner.length fun _ => false) []) fun _ h' => LiftR h0 k g P h' := by
  have hn := (may_ok ok.m).1
  have sB := graph_Before g hf
  rw [befA, if_pos ok.m] at sB
  obtain ⟨BL, lB, gB⟩ : ∃ BL : List (List Int), BL.length = g.owner.length ∧ (befL g = BL ∧ ∀ a (h : a < BL.length), BL[a] = bef g a) := ⟨befL g, befL_len g, rfl, fun a h => befL_get g h⟩
  obtain ⟨eBL, gB⟩ := gB
  rw [eBL] at sB
  clear eBL
  have hs := LH.s N g P (moL P) (zeroM g.owner.length) (tab g.owner.length fun _ => false) []
  refine AC.body Θ_ok Try.func71 rfl rfl (Nat.le_of_ble_eq_true rfl) ?_
  refine AW.seq fun _ k1 => AW.regionAt 5 [] Θ_ok fun B hB => ?_
  simp [hs]
  refine sB.use (by simp [G.av]) ?_
  refine hB _ ?_
  clear hB B
  simp
  refine k1 _ ?_
  refine AW.seq fun _ k1 => ?_
  refine AW.seq fun _ k2 => AW.region [] Θ_ok ?_
  simp [hs]
  refine k2 _ ?_
  refine AW.block ?_
  refine AW.loopI (X := LX) (fun z => z.x ≤ g.owner.length ∧ LSame h0 k z.k ∧ Wt g.owner.length z.W z.T ∧ ∀ u, u < z.x → u ∈ z.T) (fun z => ⟨80, [(0, .ptr k.s 0), (2, .ro true (rows BL)), (18, .int .i64 g.owner.length), (19, .int .i64 z.x)], LH h0 z.k g P (moL P) (zeroM g.owner.length) z.W z.T⟩) (fun z => g.owner.length - z.x) ⟨k, [], tab g.owner.length fun _ => false, [], 0⟩ ⟨Nat.zero_le _, ⟨rfl, rfl, rfl, N⟩, Wt.none _, fun u hu => absurd hu (Nat.not_lt_zero _)⟩ (GStep.eq (by simp) (subH.refl _)) ?_
  rintro ⟨k', _, W, T, x⟩ ⟨hx, S, wt, hall⟩
  simp only at hx S wt hall ⊢
  have N' := S.ok
  refine AW.seq fun _ k2 => AW.region [] Θ_ok ?_
  simp
  refine k2 _ ?_
  by_cases hlt : x < g.owner.length
  · have inc := wrap_succ (show x < 9223372036854775807 by omega)
    have sz := wt.size
    have sP := small_put N' g P (moL P) (zeroM g.owner.length) W T x wt.len (by rw [wt.len]; exact hlt) (by omega)
    rw [S.s] at sP
    refine AW.seq fun _ k2 => AW.cond true (by simp [Int.natCast_inj, hlt]) (fun _ => ?_) (fun h => by cases h)
    refine AW.skip ?_
    simp
    refine k2 _ ?_
    refine AW.seq fun _ k2 => ?_
    refine AW.block ?_
    refine AW.seq fun _ k3 => AW.region [] Θ_ok ?_
    simp
    refine k3 _ ?_
    refine AW.region [] Θ_ok ?_
    simp
    refine sP.mono ?_
    rintro r h' ⟨k2', T', ⟨e1, e2, e3⟩, N2, rfl, q1, q2⟩
    refine k2 _ ?_
    obtain ⟨wt', hm⟩ := wt.put hlt q1 q2
    refine AW.region [] Θ_ok ?_
    simp
    exact ⟨⟨k2', [], W.set x true, T', x + 1⟩, ⟨by simp only; omega, ⟨by rw [e1, S.s], by rw [e2, S.m], by rw [e3, S.w], N2⟩, wt', fun u hu => by
      simp only at hu ⊢
      rw [hm]
      by_cases e : u = x
      · exact .inl e
      · exact .inr (hall u (by omega))⟩, by simp only; omega, GStep.eq (by simp [inc]) (subH.refl _)⟩
  have hxx : x = g.owner.length := by omega
  subst hxx
  refine AW.seq fun _ k2 => AW.cond false (by simp [Int.natCast_inj]) (fun h => by cases h) (fun _ => ?_)
  refine AW.exit ?_
  simp
  refine k1 _ ?_
  clear sB hs
  refine AW.block ?_
  refine AW.loopI (X := LX) (fun z => LSame h0 k z.k ∧ Wt g.owner.length z.W z.T ∧ Lfw g P z.R z.T) (fun z => ⟨80, [(0, .ptr z.k.s 0), (2, .ro true (rows BL))], LH h0 z.k g P (moL P) z.R z.W z.T⟩) (fun z => slackM z.R * (g.owner.length + 1) + z.T.length) ⟨k', zeroM g.owner.length, W, T, 0⟩ ⟨S, wt, ⟨Lfi.zero, fun u hu q => absurd (hall u hu) q⟩⟩ (GStep.eq (by simp [S.s]) (subH.refl _)) ?_
  clear hall wt S N' hx
  rintro ⟨k3, R, W3, T3, _⟩ ⟨S3, wt3, lf⟩
  simp only at S3 wt3 lf ⊢
  have N3 := S3.ok
  have hs3 := LH.s N3 g P (moL P) R W3 T3
  have sz3 := wt3.size
  refine AW.seq fun _ k1 => ?_
  refine AW.seq fun _ k2 => AW.region [] Θ_ok ?_
  simp [hs3]
  refine k2 _ ?_
  by_cases ht : 0 < T3.length
  · have ht1 : ¬ T3 = [] := fun e => by rw [e] at ht; exact absurd ht (by decide)
    have sPop := pheap_Pop N3 g P (moL P) R W3 T3 ht (by omega)
    refine AW.cond true (by simp [Int.natCast_inj, ht, ht1]) (fun _ => ?_) (fun h => by cases h)
    refine AW.skip ?_
    simp
    refine k1 _ ?_
    refine AW.block ?_
    refine AW.seq fun _ k2 => AW.regionAt 5 [] Θ_ok fun B hB => ?_
    simp [hs3]
    refine sPop.mono ?_
    rintro r h' ⟨v, T', p, rfl, rfl⟩
    refine hB _ ?_
    clear hB B
    simp
    refine k2 _ ?_
    obtain ⟨wt', hv, hm⟩ := wt3.pop p
    have lT := p.length_eq
    simp only [List.length_cons] at lT
    have hvW : v < W3.length := by rw [wt3.len]; exact hv
    have ms := map_set_bool W3 v false
    have pw := LH.putW N3 g P (moL P) R W3 T' (W3.set v false)
    have hs4 := LH.s N3 g P (moL P) R W3 T'
    have hw4 := LH.w N3 g P (moL P) R W3 T'
    have lW := wt3.len
    obtain ⟨W', hW'⟩ : ∃ W', W' = W3.set v false := ⟨_, rfl⟩
    rw [← hW'] at ms pw wt'
    refine AW.seq fun _ k2 => AW.region [] Θ_ok ?_
    simp [hs4, hw4, hv, lW, ms, obB_mk, pw]
    refine ⟨by omega, k2 _ ?_⟩
    clear hs4 hw4 ms pw hs3
    have hR := lf.lfi.ok
    have sS := AC.lendObj (lift_lend N3 g P (moL P) R W' T' hR.1 v) (small_should g hf P ok R hR v hv) rfl
    have sok := should_ok ok hR hv
    have hlift := fun T2 h1 h2 => lf.lift (T2 := T2) ok hv hm h1 h2
    have hskip := lf.skip hm
    obtain ⟨m, hmd⟩ : ∃ m, m = shouldM g P R v := ⟨_, rfl⟩
    rw [← hmd] at sS sok hlift hskip
    refine AW.seq fun _ k2 => AW.regionAt 3 [6] Θ_ok fun B hB => ?_
    simp
    refine sS.mono ?_
    rintro r h' ⟨rfl, rfl⟩
    refine hB _ ?_
    clear hB B
    simp [newA, M4.llen, M4.one, M4.over0, avM]
    refine fun a ha => k2 _ ?_
    rw [M4.mkL, show upd (LH h0 k3 g P (moL P) R W' T') a (some (obM 69 (msN m))) = LJ h0 k3 g P R W' T' a (msN m) from rfl]
    have NJ : HN h0 [a, k3.s, k3.m, k3.w, k3.o] := HL.new (l := LHl k3 g P (moL P) R W' T') N3 ha
    clear ha sS
    have js := LJ.gs NJ g P R W' T' (msN m)
    have jm := LJ.gm NJ g P R W' T' (msN m)
    have ja := LJ.ga NJ g P R W' T' (msN m)
    have hvR : v < R.length := by rw [hR.1]; exact hv
    have lR := hR.1
    have exv : xM R v = R[v] := by simp [xM, hvR]
    have vok := hR.2 v hv
    rw [exv] at vok
    have sC : Pure Try.prog 86 [.agg (msN R[v]).l, .agg (msN m).l] (.int .i64 (cmpM R[v] m)) := small_compare (moL P) ok.mo R[v] m vok sok
    have c1 := cmpM_lt (x := R[v]) (y := m)
    have tR := obR_take 69 R hvR
    have lR4 := obR_len 69 R
    have room : 4 ≤ R.length * 4 - v * 4 := by omega
    have oR := obR_over 69 R hvR m
    have pR := LJ.putM NJ g P R W' T' (msN m) (R.set v m)
    refine AW.seq fun _ k2 => ?_
    refine AW.seq fun _ kk => AW.draw [] 10 [] Θ_ok mixed (by kernel_rfl) (by kernel_rfl) ?_
    refine vcDraw_split 8 fun B hB => ?_
    simp [vcPre, vcTail, callA, isAlloc, isLoad, effOp, obl, obA, mkOK, valA, js, jm, ja, hv, hvR, lR, lR4, tR, room, M4.take, M4.len]
    refine ⟨by omega, hB _ _ _ ?_⟩
    clear hB B
    simp [vcPre, vcTail, callA, isAlloc, isLoad, effOp, obl, obA, mkOK, valA, newA]
    refine ⟨_, sC.wk (by simp), ?_⟩
    try simp
    refine kk _ ?_
    generalize cmpM R[v] m = q at *
    by_cases hc : mcode R[v] < mcode m
    · have q1 := c1.2 hc
      have q1' : ¬ 0 ≤ q := by omega
      have hc2 : mcode (xM R v) < mcode m := by rw [exv]; exact hc
      have hsl := slack_lift hvR hc2 (mcode_top ok.mo sok).1
      refine AW.cond false (by simp [Int.natCast_inj, q1, q1']) (fun h => by cases h) (fun _ => ?_)
      refine AW.skip ?_
      simp
      refine k2 _ ?_
      refine AW.seq fun _ k2 => AW.draw [] 7 [] Θ_ok mixed (by kernel_rfl) (by kernel_rfl) ?_
      simp [vcDraw, vcPre, vcTail, callA, isAlloc, isLoad, effOp, obl, obA, mkOK, valA, newA, js, jm, ja, hv, hvR, lR, lR4, room, M4.take, M4.len, M4.llen, M4.one, oR, pR]
      refine ⟨by omega, k2 _ ?_⟩
      have gBv := gB v (by omega)
      have mb := fun u => mem_bef (g := g) (a := v) (u := u) ok.m
      have lbn : (bef g v).length ≤ g.owner.length := by
        have := nodup_len (n := g.owner.length) (l := (bef g v).map Int.toNat) ?_ ?_
        · rwa [List.length_map] at this
        · refine List.pairwise_map.2 (List.Pairwise.imp_of_mem (fun {a b} ha hb q e => q ?_) (nodup_bef (g := g) (a := v)))
          obtain ⟨i, hi, _⟩ := (mb a).1 ha
          obtain ⟨j, hj, _⟩ := (mb b).1 hb
          omega
        · intro x hx
          obtain ⟨b, hb, rfl⟩ := List.mem_map.1 hx
          obtain ⟨j, hj, hj2, _⟩ := (mb b).1 hb
          omega
      refine AW.seq fun _ k2 => AW.region [] Θ_ok ?_
      simp [hv, lB, gBv]
      refine k2 _ ?_
      refine AW.block ?_
      refine AW.loopI (X := LX) (fun z => z.x ≤ (bef g v).length ∧ LSame h0 k z.k ∧ Wt g.owner.length z.W z.T ∧ (∀ u ∈ T', u ∈ z.T) ∧ ∀ i (h : i < (bef g v).length), i < z.x → ∃ u : Nat, (bef g v)[i] = u ∧ u ∈ z.T) (fun z => ⟨80, [(0, .ptr z.k.s 0), (2, .ro true (rows BL)), (70, .ro false (ints (bef g v))), (71, .int .i64 (bef g v).length), (72, .int .i64 z.x)], LH h0 z.k g P (moL P) (R.set v m) z.W z.T⟩) (fun z => (bef g v).length - z.x) ⟨k3, [], W', T', 0⟩ ⟨Nat.zero_le _, S3, wt', fun u hu => hu, fun i h q => absurd q (Nat.not_lt_zero _)⟩ (GStep.eq (by simp) (LJ.forget NJ g P (R.set v m) W' T' (msN m))) ?_
      rintro ⟨k4, _, W4, T4, y⟩ ⟨hy, S4, wt4, hT4, hB4⟩
      simp only at hy S4 wt4 hT4 hB4 ⊢
      have sz4 := wt4.size
      refine AW.seq fun _ k2 => AW.region [] Θ_ok ?_
      simp
      refine k2 _ ?_
      by_cases hlt : y < (bef g v).length
      · have inc := wrap_succ (show y < 9223372036854775807 by omega)
        obtain ⟨u, hu, hun, hun2⟩ := (mb _).1 (List.getElem_mem hlt)
        have sP := small_put S4.ok g P (moL P) (R.set v m) W4 T4 u wt4.len (by rw [wt4.len]; exact hun) (by omega)
        refine AW.seq fun _ k2 => AW.cond true (by simp [Int.natCast_inj, hlt]) (fun _ => ?_) (fun h => by cases h)
        refine AW.skip ?_
        simp
        refine k2 _ ?_
        refine AW.seq fun _ k2 => ?_
        refine AW.block ?_
        refine AW.seq fun _ kk => AW.region [] Θ_ok ?_
        simp [hlt, hu]
        refine kk _ ?_
        refine AW.region [] Θ_ok ?_
        simp
        refine sP.mono ?_
        rintro r h' ⟨k5, T5, ⟨e1, e2, e3⟩, N5, rfl, q1, q2⟩
        refine k2 _ ?_
        obtain ⟨wt5, hm5⟩ := wt4.put hun q1 q2
        refine AW.region [] Θ_ok ?_
        simp
        exact ⟨⟨k5, [], W4.set u true, T5, y + 1⟩, ⟨by simp only; omega, ⟨by rw [e1, S4.s], by rw [e2, S4.m], by rw [e3, S4.w], N5⟩, wt5, fun w hw => (hm5 w).2 (.inr (hT4 w hw)), fun i hi q => by
          simp only at q
          by_cases e : i = y
          · subst e; exact ⟨u, hu, (hm5 u).2 (.inl rfl)⟩
          · obtain ⟨u', e1, e2⟩ := hB4 i hi (by omega)
            exact ⟨u', e1, (hm5 u').2 (.inr e2)⟩⟩, by simp only; omega, GStep.eq (by simp [inc, e1]) (subH.refl _)⟩
      have hyy : y = (bef g v).length := by omega
      subst hyy
      refine AW.seq fun _ k2 => AW.cond false (by simp [Int.natCast_inj]) (fun h => by cases h) (fun _ => ?_)
      refine AW.exit ?_
      simp
      have lf4 := hlift T4 hT4 fun u hu q => by
        obtain ⟨i, hi, e⟩ := List.mem_iff_getElem.1 ((mb u).2 ⟨u, rfl, hu, q⟩)
        obtain ⟨u', e1, e2⟩ := hB4 i hi hi
        rw [show u = u' by omega]; exact e2
      refine ⟨⟨k4, R.set v m, W4, T4, 0⟩, ⟨S4, wt4, lf4⟩, ?_, GStep.eq (by simp) (subH.refl _)⟩
      simp only
      have := Nat.mul_le_mul_right (g.owner.length + 1) (Nat.succ_le_of_lt hsl)
      rw [Nat.succ_mul] at this
      omega
    · have q1 : ¬ q < 0 := fun z => hc (c1.1 z)
      have q1' := Int.not_lt.1 q1
      refine AW.cond true (by simp [Int.natCast_inj, q1, q1']) (fun _ => ?_) (fun h => by cases h)
      refine AW.exit ?_
      simp
      exact ⟨⟨k3, R, W', T', 0⟩, ⟨S3, wt', hskip (by rw [exv]; exact Nat.not_lt.1 hc)⟩, by simp only; omega, GStep.eq (by simp) (LJ.forget NJ g P R W' T' (msN m))⟩
  have ht0 : T3 = [] := List.eq_nil_of_length_eq_zero (by omega)
  subst ht0
  have eR := lf.done ok
  subst eR
  refine AW.cond false (by simp [Int.natCast_inj, ht]) (fun h => by cases h) (fun _ => ?_)
  refine AW.exit ?_
  simp [Try.f71]
  exact Fin.refl ⟨k3, W3, S3, rfl⟩
end Go.Par
