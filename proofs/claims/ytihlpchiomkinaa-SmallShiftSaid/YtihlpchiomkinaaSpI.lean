/- The lifter: lifted. -/
import Derived.Test.YtihlpchiomkinaaSpH
import Derived.Test.YtihlpchiomkinaaPyC
import Derived.Test.YtihlpchiomkinaaSmE
set_option linter.unusedSimpArgs false
set_option linter.unusedVariables false
set_option maxRecDepth 8000
set_option maxHeartbeats 2000000
namespace Go.Par
open Go.Proofs

noncomputable def liftedA (g : G) (P : List Int) : AV := if mayP g P then .tup [.ro true (mss (measL g P)), .bool true] else .tup [.nils, .bool false]
def moP (P : List Int) (x : Nat) : Mo := ⟨(P.take x).count 1, (P.take x).count 3, (P.take x).count 5⟩
theorem moP_full (P : List Int) : moP P P.length = moL P := by simp [moP, moL]
theorem moP_count {P : List Int} {x : Nat} (hx : x < P.length) (c : Int) : (P.take (x + 1)).count c = (P.take x).count c + if P[x] = c then 1 else 0 := by
  rw [List.take_add_one, List.getElem?_eq_getElem hx, List.count_append]
  simp [List.count_cons]
theorem moP_succ {P : List Int} {x : Nat} (hx : x < P.length) : moP P (x + 1) = ⟨(moP P x).a + if P[x] = 1 then 1 else 0, (moP P x).b + if P[x] = 3 then 1 else 0, (moP P x).c + if P[x] = 5 then 1 else 0⟩ := by
  simp only [moP, moP_count hx]
theorem moP_le {P : List Int} (x : Nat) : (moP P x).a ≤ P.length ∧ (moP P x).b ≤ P.length ∧ (moP P x).c ≤ P.length := by
  have h : ∀ c : Int, (P.take x).count c ≤ P.length := fun c => Nat.le_trans List.count_le_length (by rw [List.length_take]; omega)
  exact ⟨h 1, h 3, h 5⟩
theorem LH.putMo {h0 : Heap} {k : LN} (N : LNok h0 k) (g : G) (P : List Int) (mo : Mo) (R : List Ms) (W : List Bool) (T : List Nat) (mo' : Mo) : upd (LH h0 k g P mo R W T) k.s (some (obL g P mo' k T.length)) = LH h0 k g P mo' R W T := HL.put (k := 0) N.nd rfl

theorem LH.start {h : Heap} {nw nm ns nq : Nat} (g : G) (P : List Int) (R : List Ms) (W : List Bool) {S0 : Ob} (hnm : h nm = none) (hnw : upd h nm (some (obR 69 R)) nw = none) (hns : upd (upd h nm (some (obR 69 R))) nw (some (obB W)) ns = none)
    (hnq : upd (upd (upd h nm (some (obR 69 R))) nw (some (obB W))) ns (some S0) nq = none) :
    LNok h ⟨ns, nm, nw, nq, false⟩ ∧ upd (upd (upd (upd (upd h nm (some (obR 69 R))) nw (some (obB W))) ns (some S0)) ns (some (obL g P ⟨0, 0, 0⟩ ⟨ns, nm, nw, nq, false⟩ 0))) nq (some (obP [] false)) = LH h ⟨ns, nm, nw, nq, false⟩ g P ⟨0, 0, 0⟩ R W [] := by
  have N1 : HN h (nms [(nm, obR 69 R)]) := HL.new (l := []) ⟨List.nodup_nil, fun o ho => by cases ho⟩ hnm
  have N2 : HN h (nms [(nw, obB W), (nm, obR 69 R)]) := HL.new (l := [(nm, obR 69 R)]) N1 hnw
  have N3 : HN h (nms [(ns, S0), (nw, obB W), (nm, obR 69 R)]) := HL.new (l := [(nw, obB W), (nm, obR 69 R)]) N2 hns
  have N4 : HN h (nms [(nq, obP [] false), (ns, obL g P ⟨0, 0, 0⟩ ⟨ns, nm, nw, nq, false⟩ 0), (nw, obB W), (nm, obR 69 R)]) := HL.new (l := [(ns, S0), (nw, obB W), (nm, obR 69 R)]) N3 hnq
  have p : List.Perm [(nq, obP [] false), (ns, obL g P ⟨0, 0, 0⟩ ⟨ns, nm, nw, nq, false⟩ 0), (nw, obB W), (nm, obR 69 R)] (LHl ⟨ns, nm, nw, nq, false⟩ g P ⟨0, 0, 0⟩ R W []) := by
    refine (List.Perm.swap _ _ _).trans (List.Perm.cons _ ?_)
    exact List.reverse_perm [(nm, obR 69 R), (nw, obB W), (nq, obP [] false)]
  have pn := p.map Prod.fst
  refine ⟨⟨pn.nodup_iff.1 N4.nd, fun o ho => N4.free o (pn.mem_iff.2 ho)⟩, ?_⟩
  rw [upd_upd]
  exact HL.perm p N4.nd

theorem small_lifted (g : G) (hf : g.fits) (P : List Int) (hP : P.length ≤ 1152921504606846976) : Pure Try.prog 57 [g.av, .ro false (ints P)] (liftedA g P) := by
  have sM := graph_May g hf
  intro h
  refine AC.body Θ_ok Try.func57 rfl rfl (Nat.le_of_ble_eq_true rfl) ?_
  refine AW.seq fun _ k1 => AW.region [] Θ_ok ?_
  simp
  refine k1 _ ?_
  refine AW.seq fun _ k1 => ?_
  by_cases hm : mayE g = 0
  · rw [hm] at sM
    by_cases hl : P.length = g.owner.length
    · have hn := (may_ok hm).1
      refine AW.seq fun _ k2 => AW.regionAt 2 [] Θ_ok fun B hB => ?_
      simp
      refine sM.use (by simp [G.av]) ?_
      refine hB _ ?_
      clear hB B
      simp [hl]
      refine k2 _ ?_
      refine AW.cond false (by simp [Int.natCast_inj]) (fun h => by cases h) (fun _ => ?_)
      refine AW.skip ?_
      simp
      refine k1 _ ?_
      refine AW.seq fun _ k1 => AW.draw [24, 27, 29] 8 [0] Θ_ok mixed (by kernel_rfl) (by kernel_rfl) ?_
      simp [vcDraw, vcPre, vcTail, callA, isAlloc, isLoad, effOp, obl, obA, mkOK, valA, newA]
      have b1 : 32 * (P.length : Int) ≤ 140737488355328 := by omega
      have b2 : (P.length : Int) ≤ 140737488355328 := by omega
      have e1 : (List.replicate P.length (AV.agg [AV.int IntKind.i64 0, AV.int IntKind.i64 0, AV.int IntKind.i64 0, AV.bool false])).flatMap AV.flat = (obR 69 (zeroM g.owner.length)).cells := by
        rw [replicate_tab, hl, show (tab g.owner.length fun _ => AV.agg [AV.int IntKind.i64 0, AV.int IntKind.i64 0, AV.int IntKind.i64 0, AV.bool false]) = mss (zeroM g.owner.length) by simp only [mss, zeroM, map_tab]; rfl, mss_flat]
        rfl
      have e2 : (List.replicate P.length (AV.bool false)).flatMap AV.flat = (tab g.owner.length fun _ => false).map AV.bool := by
        rw [replicate_tab, flat_tab (fun _ _ => rfl), hl]; simp
      rw [e1, e2]
      refine ⟨⟨b1, b2⟩, fun nm hnm => ⟨b2, fun nw hnw ns hns => k1 _ ?_⟩⟩
      rw [hl]
      refine AW.mineCell ns 7 ⟨[.ro false (ints g.owner), .ro false (rows g.next), .ro false (ints P), .int .i64 0, .int .i64 0, .int .i64 0, .mu nm g.owner.length, .nils, .mu nw g.owner.length], 86, 9, true⟩ 3 1 (upd_same _ _ _) rfl fun nq hnq => ?_
      obtain ⟨N, hH⟩ := LH.start g P (zeroM g.owner.length) (tab g.owner.length fun _ => false) hnm hnw hns hnq
      simp only [List.set_cons_succ, List.set_cons_zero]
      rw [show (⟨[.ro false (ints g.owner), .ro false (rows g.next), .ro false (ints P), .int .i64 0, .int .i64 0, .int .i64 0, .mu nm g.owner.length, .mu nq 0, .mu nw g.owner.length], 86, 9, true⟩ : Ob) = obL g P ⟨0, 0, 0⟩ ⟨ns, nm, nw, nq, false⟩ 0 from rfl]
      rw [show (⟨[], 3, 1, false⟩ : Ob) = obP [] false from rfl]
      simp only [obB_mk]
      rw [show (⟨(obR 69 (zeroM g.owner.length)).cells, 69, 4, true⟩ : Ob) = obR 69 (zeroM g.owner.length) from rfl]
      rw [hH]
      obtain ⟨k, hk⟩ : ∃ k : LN, k = ⟨ns, nm, nw, nq, false⟩ := ⟨_, rfl⟩
      have hks : ns = k.s := by rw [hk]
      rw [← hk] at N ⊢
      rw [hks]
      clear hk hks hH hns hnm hnw hnq e1 e2 b1 b2
      refine AW.seq fun _ k1 => ?_
      refine AW.seq fun _ k2 => AW.region [] Θ_ok ?_
      simp
      refine k2 _ ?_
      refine AW.block ?_
      refine AW.loopI (X := Nat) (fun x => x ≤ P.length ∧ ∀ i (h : i < P.length), i < x → 0 ≤ P[i] ∧ P[i] < 6) (fun x => ⟨63, [(2, .rop [.ro false (ints g.owner), .ro false (rows g.next)]), (6, .ptr k.s 0), (30, .ro false (ints P)), (31, .int .i64 P.length), (32, .int .i64 x)], LH h k g P (moP P x) (zeroM g.owner.length) (tab g.owner.length fun _ => false) []⟩) (fun x => P.length - x) 0 ⟨Nat.zero_le _, fun i h q => absurd q (Nat.not_lt_zero _)⟩ (GStep.eq (by simp) (subH.refl _)) ?_
      rintro x ⟨hx, hall⟩
      have hs := LH.s N g P (moP P x) (zeroM g.owner.length) (tab g.owner.length fun _ => false) []
      have pu := fun mo' => LH.putMo N g P (moP P x) (zeroM g.owner.length) (tab g.owner.length fun _ => false) [] mo'
      refine AW.seq fun _ k2 => AW.region [] Θ_ok ?_
      simp
      refine k2 _ ?_
      by_cases hlt : x < P.length
      · have inc := wrap_succ (show x < 9223372036854775807 by omega)
        refine AW.seq fun _ k2 => AW.cond true (by simp [Int.natCast_inj, hlt]) (fun _ => ?_) (fun h => by cases h)
        refine AW.skip ?_
        simp
        refine k2 _ ?_
        refine AW.seq fun _ k2 => ?_
        refine AW.block ?_
        refine AW.seq fun _ k3 => AW.region [] Θ_ok ?_
        simp [hlt]
        refine k3 _ ?_
        have early : ¬ (0 ≤ P[x] ∧ P[x] < 6) → liftedA g P = .tup [.nils, .bool false] := fun q => by
          have : mayP g P = false := by
            cases e : mayP g P with
            | false => rfl
            | true =>
              simp only [mayP, Bool.and_eq_true, decide_eq_true_eq, List.all_eq_true] at e
              exact absurd (e.2 _ (List.getElem_mem hlt)) q
          rw [liftedA, this]; rfl
        refine AW.seq fun _ k3 => ?_
        by_cases p0 : P[x] < 0
        · have p0' : ¬ 0 ≤ P[x] := by omega
          refine AW.seq fun _ k4 => AW.region [] Θ_ok ?_
          simp [p0, p0']
          refine k4 _ ?_
          refine AW.cond true (by simp [Int.natCast_inj, p0, p0']) (fun _ => ?_) (fun h => by cases h)
          refine AW.seq fun _ kr => AW.region [] Θ_ok ?_
          simp
          refine kr _ (AW.ret ?_)
          simp [Try.f57]
          refine Fin.gv (GV.sub (HL.sub (l := LHl k g P (moP P x) (zeroM g.owner.length) (tab g.owner.length fun _ => false) []) N)) (Fin.refl ⟨(early fun z => p0' z.1).symm, rfl⟩)
        have p0' : 0 ≤ P[x] := by omega
        by_cases p6 : 6 ≤ P[x]
        · have p6' : ¬ P[x] < 6 := by omega
          refine AW.seq fun _ k4 => AW.region [] Θ_ok ?_
          simp [p0, p0', p6, p6']
          refine k4 _ ?_
          refine AW.cond true (by simp [Int.natCast_inj, p0, p0', p6, p6']) (fun _ => ?_) (fun h => by cases h)
          refine AW.seq fun _ kr => AW.region [] Θ_ok ?_
          simp
          refine kr _ (AW.ret ?_)
          simp [Try.f57]
          refine Fin.gv (GV.sub (HL.sub (l := LHl k g P (moP P x) (zeroM g.owner.length) (tab g.owner.length fun _ => false) []) N)) (Fin.refl ⟨(early fun z => p6' z.2).symm, rfl⟩)
        have p6' : P[x] < 6 := by omega
        have hall' : ∀ i (h : i < P.length), i < x + 1 → 0 ≤ P[i] ∧ P[i] < 6 := fun i h q => by
          by_cases e : i = x
          · subst e; exact ⟨p0', p6'⟩
          · exact hall i h (by omega)
        refine AW.seq fun _ k4 => AW.region [] Θ_ok ?_
        simp [p0, p0', p6, p6']
        refine k4 _ ?_
        refine AW.cond false (by simp [Int.natCast_inj, p0, p0', p6, p6']) (fun h => by cases h) (fun _ => ?_)
        refine AW.skip ?_
        simp
        refine k3 _ ?_
        refine AW.seq fun _ k3 => AW.region [] Θ_ok ?_
        simp
        refine k3 _ ?_
        clear early
        have ms := moP_succ hlt
        have mle := moP_le (P := P) x
        by_cases ho : P[x] % 2 = 1
        · have h3 : P[x] = 1 ∨ P[x] = 3 ∨ P[x] = 5 := by omega
          rcases h3 with e | e | e
          · have w1 := wrap_succ (show (moP P x).a < 9223372036854775807 by omega)
            rw [e, if_pos rfl, if_neg (by decide), if_neg (by decide)] at ms
            refine AW.cond true (by simp [Int.natCast_inj, e]) (fun _ => ?_) (fun h => by cases h)
            refine AW.draw [] 11 [] Θ_ok mixed (by kernel_rfl) (by kernel_rfl) ?_
            simp [vcDraw, vcPre, vcTail, callA, isAlloc, isLoad, effOp, obl, obA, mkOK, valA, newA, e, hs, w1, show IntKind.i64.wrap 0 = 0 from rfl, show IntKind.i64.wrap 1 = 1 from rfl, show IntKind.i64.wrap 2 = 2 from rfl]
            refine k2 _ ?_
            refine AW.region [] Θ_ok ?_
            simp
            exact ⟨x + 1, ⟨by omega, hall'⟩, by omega, GStep.eq (by simp [inc]) (subH_of_eq (by rw [ms]; exact pu ⟨(moP P x).a + 1, (moP P x).b + 0, (moP P x).c + 0⟩))⟩
          · have w1 := wrap_succ (show (moP P x).b < 9223372036854775807 by omega)
            rw [e, if_neg (by decide), if_pos rfl, if_neg (by decide)] at ms
            refine AW.cond true (by simp [Int.natCast_inj, e]) (fun _ => ?_) (fun h => by cases h)
            refine AW.draw [] 11 [] Θ_ok mixed (by kernel_rfl) (by kernel_rfl) ?_
            simp [vcDraw, vcPre, vcTail, callA, isAlloc, isLoad, effOp, obl, obA, mkOK, valA, newA, e, hs, w1, show IntKind.i64.wrap 0 = 0 from rfl, show IntKind.i64.wrap 1 = 1 from rfl, show IntKind.i64.wrap 2 = 2 from rfl]
            refine k2 _ ?_
            refine AW.region [] Θ_ok ?_
            simp
            exact ⟨x + 1, ⟨by omega, hall'⟩, by omega, GStep.eq (by simp [inc]) (subH_of_eq (by rw [ms]; exact pu ⟨(moP P x).a + 0, (moP P x).b + 1, (moP P x).c + 0⟩))⟩
          · have w1 := wrap_succ (show (moP P x).c < 9223372036854775807 by omega)
            rw [e, if_neg (by decide), if_neg (by decide), if_pos rfl] at ms
            refine AW.cond true (by simp [Int.natCast_inj, e]) (fun _ => ?_) (fun h => by cases h)
            refine AW.draw [] 11 [] Θ_ok mixed (by kernel_rfl) (by kernel_rfl) ?_
            simp [vcDraw, vcPre, vcTail, callA, isAlloc, isLoad, effOp, obl, obA, mkOK, valA, newA, e, hs, w1, show IntKind.i64.wrap 0 = 0 from rfl, show IntKind.i64.wrap 1 = 1 from rfl, show IntKind.i64.wrap 2 = 2 from rfl]
            refine k2 _ ?_
            refine AW.region [] Θ_ok ?_
            simp
            exact ⟨x + 1, ⟨by omega, hall'⟩, by omega, GStep.eq (by simp [inc]) (subH_of_eq (by rw [ms]; exact pu ⟨(moP P x).a + 0, (moP P x).b + 0, (moP P x).c + 1⟩))⟩
        · have tm : P[x].tmod 2 = 0 := by rw [Int.tmod_eq_emod_of_nonneg p0']; omega
          refine AW.cond false (by simp [Int.natCast_inj, tm]) (fun h => by cases h) (fun _ => ?_)
          refine AW.skip ?_
          simp
          refine k2 _ ?_
          refine AW.region [] Θ_ok ?_
          simp
          exact ⟨x + 1, ⟨by omega, hall'⟩, by omega, GStep.eq (by simp [inc]) (subH_of_eq (by rw [ms, if_neg (by omega), if_neg (by omega), if_neg (by omega)]; rfl))⟩
      have hxx : x = P.length := by omega
      subst hxx
      refine AW.seq fun _ k2 => AW.cond false (by simp [Int.natCast_inj]) (fun h => by cases h) (fun _ => ?_)
      refine AW.exit ?_
      simp
      refine k1 _ ?_
      have hmp : mayP g P = true := by
        simp only [mayP, Bool.and_eq_true, decide_eq_true_eq, List.all_eq_true]
        refine ⟨⟨hm, hl⟩, fun p hp => ?_⟩
        obtain ⟨i, hi, rfl⟩ := List.mem_iff_getElem.1 hp
        exact hall i hi hi
      have hfin : liftedA g P = .tup [.ro true (mss (measL g P)), .bool true] := if_pos hmp
      have ok := mayP_mg hmp
      rw [moP_full]
      clear hall hs pu
      have sL := small_lift N g hf P ok
      refine AW.seq fun _ k1 => AW.region [] Θ_ok ?_
      simp
      refine sL.mono ?_
      rintro r h' ⟨k', W, S, rfl⟩
      try simp
      refine k1 _ ?_
      have hs := LH.s S.ok g P (moL P) (measL g P) W []
      rw [S.s] at hs
      have hM := LH.m S.ok g P (moL P) (measL g P) W []
      have hsub : subH h (LH h k' g P (moL P) (measL g P) W []) := HL.sub (l := LHl k' g P (moL P) (measL g P) W []) S.ok
      have fm : h k'.m = none := S.ok.free _ (by simp)
      have lM : (measL g P).length = g.owner.length := meas_len ok
      generalize LH h k' g P (moL P) (measL g P) W [] = H at *
      refine AW.seq fun _ kr => AW.region [] Θ_ok ?_
      simp [hs]
      refine kr _ ?_
      refine AW.ghost (GStep.slot (t := 4) (v := .mu k'.m g.owner.length) (S := ⟨63, _, H⟩) rfl (GV.freeze (n := g.owner.length) (k := true) (xs := mss (measL g P)) hM (fun _ => rfl) (by simp [mss, lM]) (fun y hy => ?_) ?_)) ?_
      · obtain ⟨m, _, rfl⟩ := List.mem_map.1 hy
        rfl
      · rw [mss_flat]
        exact (List.take_of_length_le (by have q := obR_len 69 (measL g P); rw [lM] at q; exact Nat.le_of_eq q)).symm
      refine AW.ghost (GStep.eq (S := ⟨63, _, _⟩) (tm := [(4, .ro true (mss (measL g P))), (5, .bool true)]) (h := h) (by simp [EqAll]) fun o x hx => ?_) ?_
      · have e1 : o ≠ k'.m := fun e => by rw [e, fm] at hx; cases hx
        simp only
        rw [upd_ne _ _ e1]
        exact hsub o x hx
      refine AW.ret ?_
      simp [Try.f57]
      exact Fin.refl ⟨hfin.symm, rfl⟩
    · have e : mayP g P = false := by simp [mayP, hl]
      refine AW.seq fun _ k2 => AW.regionAt 2 [] Θ_ok fun B hB => ?_
      simp
      refine sM.use (by simp [G.av]) ?_
      refine hB _ ?_
      clear hB B
      simp
      refine k2 _ ?_
      refine AW.cond true (by simp [Int.natCast_inj, hl]) (fun _ => ?_) (fun h => by cases h)
      refine AW.seq fun _ kr => AW.region [] Θ_ok ?_
      simp
      refine kr _ (AW.ret ?_)
      simp [Try.f57]
      exact Fin.refl ⟨by rw [liftedA, e]; rfl, rfl⟩
  · have e : mayP g P = false := by simp [mayP, hm]
    refine AW.seq fun _ k2 => AW.regionAt 2 [] Θ_ok fun B hB => ?_
    simp
    refine sM.use (by simp [G.av]) ?_
    refine hB _ ?_
    clear hB B
    simp [hm]
    refine k2 _ ?_
    refine AW.cond true (by simp [Int.natCast_inj]) (fun _ => ?_) (fun h => by cases h)
    refine AW.seq fun _ kr => AW.region [] Θ_ok ?_
    simp
    refine kr _ (AW.ret ?_)
    simp [Try.f57]
    exact Fin.refl ⟨by rw [liftedA, e]; rfl, rfl⟩
end Go.Par
