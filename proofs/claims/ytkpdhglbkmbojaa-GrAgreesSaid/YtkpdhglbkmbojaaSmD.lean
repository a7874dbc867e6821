/- parryref9.Measures. -/
import Derived.Test.YtkpdhglbkmbojaaSmC
set_option linter.unusedSimpArgs false
set_option linter.unusedVariables false
set_option maxRecDepth 8000
set_option maxHeartbeats 2000000
namespace Go.Par
open Go.Proofs

noncomputable def measRA (g : G) (P : List Int) : AV := if mayP g P then .ro true (mss (measL g P)) else .nils
theorem mayP_mg {g : G} {P : List Int} (h : mayP g P = true) : MG g P := by
  have ok := mayP_ok h
  exact ⟨ok.m, ok.len, fun v _ => ok.lo v, fun v _ => ok.hi v⟩
def CQ (a b : Nat) (L : List Ms) (m : Ms) : List (Nat × Ob) := [(b, obM 69 (msN m)), (a, obR 69 L)]
def CY (a b c : Nat) (L : List Ms) (m y : Ms) : List (Nat × Ob) := (c, obM 69 (msN y)) :: CQ a b L m
def CA (a : Nat) (L : List Ms) : List (Nat × Ob) := [(a, obR 69 L)]
def CAH (h : Heap) (a : Nat) (L : List Ms) : Heap := HL h (CA a L)
def CQH (h : Heap) (a b : Nat) (L : List Ms) (m : Ms) : Heap := HL h (CQ a b L m)
def CYH (h : Heap) (a b c : Nat) (L : List Ms) (m y : Ms) : Heap := HL h (CY a b c L m y)
section
variable {h : Heap} {a b c : Nat}
theorem CAH.ga (N : HN h [a]) (L : List Ms) : CAH h a L a = some (obR 69 L) := HL.at (k := 0) N.nd rfl
theorem CQH.ga (N : HN h [b, a]) (L : List Ms) (m : Ms) : CQH h a b L m a = some (obR 69 L) := HL.at (k := 1) N.nd rfl
theorem CQH.gb (N : HN h [b, a]) (L : List Ms) (m : Ms) : CQH h a b L m b = some (obM 69 (msN m)) := HL.at (k := 0) N.nd rfl
theorem CQH.putA (N : HN h [b, a]) (L L' : List Ms) (m : Ms) : upd (CQH h a b L m) a (some (obR 69 L')) = CQH h a b L' m := HL.put (k := 1) N.nd rfl
theorem CYH.gb (N : HN h [c, b, a]) (L : List Ms) (m y : Ms) : CYH h a b c L m y b = some (obM 69 (msN m)) := HL.at (k := 1) N.nd rfl
theorem CYH.gc (N : HN h [c, b, a]) (L : List Ms) (m y : Ms) : CYH h a b c L m y c = some (obM 69 (msN y)) := HL.at (k := 0) N.nd rfl
theorem CYH.putB (N : HN h [c, b, a]) (L : List Ms) (m y m' : Ms) : upd (CYH h a b c L m y) b (some (obM 69 (msN m'))) = CYH h a b c L m' y := HL.put (k := 1) N.nd rfl
end
theorem CQH.forget {h : Heap} {a b : Nat} (N : HN h [b, a]) (L : List Ms) (m : Ms) : subH (CAH h a L) (CQH h a b L m) := HL.forget (by
  have nd := N.nd
  simp only [List.nodup_cons, List.mem_cons, not_or, List.not_mem_nil, not_false_iff, and_true] at nd
  rw [HL.out (by simp [CA, nms, nd])]
  exact N.free b (by simp))
structure VS where
  L : List Ms
  x : Nat
  more : Bool

theorem r9_Measures (g : G) (hf : g.fits) (P : List Int) (hP : P.length ≤ 1152921504606846976) : Pure Try.prog 53 [g.av, .ro false (ints P)] (measRA g P) := by
  have sM := r9_MayPrio g hf P hP
  intro h
  refine AC.body Θ_ok Try.func53 rfl rfl (Nat.le_of_ble_eq_true rfl) ?_
  refine AW.seq fun _ k1 => AW.region [] Θ_ok ?_
  simp
  refine k1 _ ?_
  refine AW.seq fun _ k1 => ?_
  by_cases hmp : mayP g P = true
  · have hfin : measRA g P = .ro true (mss (measL g P)) := if_pos hmp
    have ok := mayP_mg hmp
    rw [hmp] at sM
    have hn := (may_ok ok.m).1
    have hn2 := (may_ok ok.m).2.1
    have hlP := ok.len
    refine AW.seq fun _ k2 => AW.regionAt 3 [] Θ_ok fun B hB => ?_
    simp
    refine sM.use (by simp [G.av]) ?_
    refine hB _ ?_
    clear hB B
    simp
    refine k2 _ ?_
    refine AW.cond false (by simp [Int.natCast_inj]) (fun h => by cases h) (fun _ => ?_)
    refine AW.skip ?_
    simp
    refine k1 _ ?_
    refine AW.seq fun _ k1 => AW.region [5] Θ_ok ?_
    simp [newA]
    refine fun t ht => k1 _ ?_
    have e0 : (⟨[.int .i64 0, .int .i64 0, .int .i64 0], 67, 3, true⟩ : Ob) = obV 67 (cF P 0) := rfl
    rw [e0]
    refine AW.seq fun _ k1 => ?_
    refine AW.seq fun _ k2 => AW.region [] Θ_ok ?_
    simp
    refine k2 _ ?_
    refine AW.block ?_
    refine AW.loopI (X := Nat) (fun x => x ≤ P.length) (fun x => ⟨110, [(1, .ro false (ints P)), (2, .rop [.ro false (ints g.owner), .ro false (rows g.next)]), (5, .ptr t 0), (19, .ro false (ints P)), (20, .int .i64 P.length), (21, .int .i64 x)], upd h t (some (obV 67 (cF P x)))⟩) (fun x => P.length - x) 0 (Nat.zero_le _) (GStep.eq (by simp) (subH.refl _)) fun x hx => ?_
    refine AW.seq fun _ k2 => AW.region [] Θ_ok ?_
    simp
    refine k2 _ ?_
    by_cases hlt : x < P.length
    · have inc := wrap_succ (show x < 9223372036854775807 by omega)
      have p0 := ok.lo x (by omega)
      have p5 := ok.hi x (by omega)
      have ep : P.getD x 0 = P[x] := by simp [hlt]
      rw [ep] at p0 p5
      refine AW.seq fun _ k2 => AW.cond true (by simp [Int.natCast_inj, hlt]) (fun _ => ?_) (fun h => by cases h)
      refine AW.skip ?_
      simp
      refine k2 _ ?_
      refine AW.seq fun _ k2 => ?_
      refine AW.block ?_
      refine AW.seq fun _ k3 => AW.region [] Θ_ok ?_
      simp [hlt]
      refine k3 _ ?_
      refine AW.seq fun _ k3 => AW.region [] Θ_ok ?_
      simp
      refine k3 _ ?_
      by_cases ho : P[x] % 2 = 1
      · obtain ⟨k, hk⟩ : ∃ k : Nat, P[x] = ((2 * k + 1 : Nat) : Int) := ⟨(P[x] / 2).toNat, by omega⟩
        have hk3 : k < 3 := by omega
        have hk3' : (k : Int) < 3 := by omega
        have tm : P[x].tmod 2 = 1 := by rw [Int.tmod_eq_emod_of_nonneg p0]; exact ho
        have td : P[x].tdiv 2 = (k : Int) := by rw [Int.tdiv_eq_ediv_of_nonneg p0]; omega
        have wk : IntKind.i64.wrap (k : Int) = (k : Int) := wrap_id (by omega) (by omega)
        have dx := obV_drop 67 (cF P x) hk3
        have sx := obV_set 67 (cF P x) hk3 (cF P x k + 1)
        have cl := cF_le P x k
        have wc : IntKind.i64.wrap (cF P x k + 1) = cF P x k + 1 := wrap_id (by omega) (by omega)
        have ecf : (obV 67 fun j => if j = k then cF P x k + 1 else cF P x j) = obV 67 (cF P (x + 1)) := by
          congr 1
          funext j
          rw [cF_succ P hlt, hk]
          by_cases e : j = k
          · subst e; simp
          · rw [if_neg e, if_neg (by omega)]; omega
        rw [ecf] at sx
        refine AW.cond true (by simp [Int.natCast_inj, tm]) (fun _ => ?_) (fun h => by cases h)
        refine AW.region [] Θ_ok ?_
        simp [td, wk, hk3, hk3', dx, wc, sx]
        refine ⟨by omega, k2 _ ?_⟩
        refine AW.region [] Θ_ok ?_
        simp
        exact ⟨x + 1, by omega, by omega, GStep.eq (by simp [inc]) (subH.refl _)⟩
      · have tm : P[x].tmod 2 = 0 := by rw [Int.tmod_eq_emod_of_nonneg p0]; omega
        have ecf : (obV 67 (cF P x)) = obV 67 (cF P (x + 1)) := by
          congr 1
          funext j
          rw [cF_succ P hlt, if_neg (by omega)]; omega
        refine AW.cond false (by simp [Int.natCast_inj, tm]) (fun h => by cases h) (fun _ => ?_)
        refine AW.skip ?_
        simp
        refine k2 _ ?_
        refine AW.region [] Θ_ok ?_
        simp
        exact ⟨x + 1, by omega, by omega, GStep.eq (by simp [inc]) (subH_of_eq (by rw [ecf]))⟩
    obtain rfl : x = P.length := by omega
    refine AW.seq fun _ k2 => AW.cond false (by simp [Int.natCast_inj]) (fun h => by cases h) (fun _ => ?_)
    refine AW.exit ?_
    simp
    refine k1 _ ?_
    refine AW.box 5 (o := t) rfl (upd_same _ _ _) ?_
    simp only [upd_upd, upd_none_id ht]
    rw [show (obV 67 (cF P P.length)).cells = moC (moL P) from cF_full P]
    refine AW.seq fun _ k1 => AW.region [37] Θ_ok ?_
    simp
    refine ⟨⟨by omega, by omega⟩, fun a ha => k1 _ ?_⟩
    have z0 : ((List.replicate P.length (AV.agg [AV.int IntKind.i64 0, AV.int IntKind.i64 0, AV.int IntKind.i64 0, AV.bool false])).flatMap AV.flat) = (zeroM g.owner.length).flatMap fun m => (msN m).l := by
      rw [zeroM, ← hlP, ← replicate_tab, List.flatMap_replicate, List.flatMap_replicate]
      rfl
    rw [z0, show (⟨(zeroM g.owner.length).flatMap fun m => (msN m).l, 69, 4, true⟩ : Ob) = obR 69 (zeroM g.owner.length) from rfl, show upd h a (some (obR 69 (zeroM g.owner.length))) = CAH h a (zeroM g.owner.length) from rfl]
    have NA : HN h [a] := HL.new (l := []) ⟨List.nodup_nil, fun o ho => by cases ho⟩ ha
    clear z0 ha
    refine AW.block ?_
    refine AW.loopI (X := List Ms) (fun L => Lfi g P L) (fun L => ⟨110, [(1, .ro false (ints P)), (2, .rop [.ro false (ints g.owner), .ro false (rows g.next)]), (5, .rop (moC (moL P))), (8, .mu a P.length)], CAH h a L⟩) (fun L => slackM L) (zeroM g.owner.length) Lfi.zero (GStep.eq (by simp) (subH.refl _)) fun L0 F0 => ?_
    refine AW.block ?_
    refine AW.seq fun _ k2 => AW.region [] Θ_ok ?_
    simp
    refine k2 _ ?_
    refine AW.seq fun _ k2 => ?_
    refine AW.seq fun _ k3 => AW.region [] Θ_ok ?_
    simp
    refine k3 _ ?_
    refine AW.block ?_
    refine AW.loopI (X := VS) (fun z => z.x ≤ P.length ∧ Lfi g P z.L ∧ (z.more = true → slackM z.L < slackM L0) ∧ (z.more = false → z.L = L0 ∧ ∀ u, u < z.x → mcode (shouldM g P L0 u) ≤ mcode (xM L0 u))) (fun z => ⟨110, [(1, .ro false (ints P)), (2, .rop [.ro false (ints g.owner), .ro false (rows g.next)]), (5, .rop (moC (moL P))), (8, .mu a P.length), (9, .bool z.more), (39, .int .i64 P.length), (40, .int .i64 z.x)], CAH h a z.L⟩) (fun z => P.length - z.x) ⟨L0, 0, false⟩ ⟨Nat.zero_le _, F0, fun q => by (cases q), fun _ => ⟨rfl, fun u hu => absurd hu (Nat.not_lt_zero _)⟩⟩ (GStep.eq (by simp) (subH.refl _)) ?_
    rintro ⟨L, v, more⟩ ⟨hv, F, hm1, hm2⟩
    simp only at hv F hm1 hm2 ⊢
    refine AW.seq fun _ k3 => AW.region [] Θ_ok ?_
    simp
    refine k3 _ ?_
    by_cases hlt : v < P.length
    · have inc := wrap_succ (show v < 9223372036854775807 by omega)
      have hvn : v < g.owner.length := by omega
      have hvn' : v < g.next.length := by omega
      have hLl : L.length = g.owner.length := F.ok.1
      have hvL : v < L.length := by omega
      have eo : ow g v = g.owner[v] := by simp [ow, hvn]
      have en : nx g v = g.next[v] := by simp [nx, hvn']
      have oo := ow_ok ok.m hvn
      have p0 := ok.lo v hvn
      have p5 := ok.hi v hvn
      have ep : P.getD v 0 = P[v] := by simp [hlt]
      have epn : prP P v = P[v].toNat := by rw [prP, ep]
      rw [ep] at p0 p5
      obtain ⟨p, hp⟩ : ∃ p : Nat, P[v] = p := ⟨P[v].toNat, by omega⟩
      have hp5 : p ≤ 5 := by omega
      have epp : prP P v = p := by rw [epn, hp]; omega
      have hrow := hf.row _ (List.getElem_mem hvn')
      refine AW.seq fun _ k3 => AW.cond true (by simp [Int.natCast_inj, hlt]) (fun _ => ?_) (fun h => by cases h)
      refine AW.skip ?_
      simp
      refine k3 _ ?_
      refine AW.seq fun _ k3 => ?_
      refine AW.block ?_
      refine AW.seq fun _ k4 => AW.region [] Θ_ok ?_
      simp
      refine k4 _ ?_
      refine AW.seq fun _ k4 => AW.region [11] Θ_ok ?_
      simp [newA, hvn, fillA, setAt]
      refine fun b hb => k4 _ ?_
      have ei : (⟨[AV.int .i64 0, .int .i64 0, .int .i64 0, .bool (g.owner[v] == 1)], 69, 4, true⟩ : Ob) = obM 69 (msN (accM g P L v 0)) := by
        rw [accM_zero, eo]
        rw [eo] at oo
        rcases oo with q | q <;> rw [q] <;> rfl
      have N2 : HN h [b, a] := HL.new (l := CA a L) NA hb
      rw [ei, show upd (CAH h a L) b (some (obM 69 (msN (accM g P L v 0)))) = CQH h a b L (accM g P L v 0) from rfl]
      clear ei
      have fgb : ∀ m, subH (CAH h a L) (CQH h a b L m) := fun m => HL.forget hb
      clear hb
      have aok := accM_ok (P := P) ok F.ok hvn
      refine AW.seq fun _ k4 => ?_
      refine AW.seq fun _ k5 => AW.region [] Θ_ok ?_
      simp [hvn']
      refine k5 _ ?_
      refine AW.block ?_
      refine AW.loopI (X := Nat) (fun j => j ≤ (g.next[v]).length) (fun j => ⟨110, [(1, .ro false (ints P)), (2, .rop [.ro false (ints g.owner), .ro false (rows g.next)]), (5, .rop (moC (moL P))), (8, .mu a P.length), (9, .bool more), (10, .int .i64 v), (11, .ptr b 0), (39, .int .i64 P.length), (40, .int .i64 v), (54, .ro false (ints g.next[v])), (55, .int .i64 (g.next[v]).length), (56, .int .i64 j)], CQH h a b L (accM g P L v j)⟩) (fun j => (g.next[v]).length - j) 0 (Nat.zero_le _) (GStep.eq (by simp) (subH.refl _)) fun j hj => ?_
      refine AW.seq fun _ k5 => AW.region [] Θ_ok ?_
      simp
      refine k5 _ ?_
      by_cases hlt2 : j < (g.next[v]).length
      · have inc2 := wrap_succ (show j < 9223372036854775807 by omega)
        have hjn : j < (nx g v).length := by rw [en]; exact hlt2
        have hwm := (nx_ok ok.m hvn).2 (nx g v)[j] (List.getElem_mem _)
        have es := accM_succ (P := P) (L := L) hjn
        have e1 : (nx g v)[j] = (g.next[v])[j] := by simp only [en]
        rw [e1] at hwm es
        obtain ⟨u, hu⟩ : ∃ u : Nat, (g.next[v])[j] = u := ⟨(g.next[v])[j].toNat, by omega⟩
        rw [hu] at hwm es
        have hun : u < g.owner.length := by omega
        have huL : u < L.length := by omega
        have huP : u < P.length := by omega
        have exm : xM L u = L[u] := by simp [xM, huL]
        have uok := F.ok.2 u hun
        have sN := r9_next (moL P) ok.mo p hp5 (xM L u) uok
        have yok := next_ok (p := p) uok
        rw [show ((u : Nat) : Int).toNat = u by omega, epp] at es
        obtain ⟨y, hy⟩ : ∃ y, y = nextM (moL P) p (xM L u) := ⟨_, rfl⟩
        rw [← hy] at sN yok es
        have mok := aok j (by omega)
        obtain ⟨m, hm⟩ : ∃ m, m = accM g P L v j := ⟨_, rfl⟩
        rw [← hm] at mok es ⊢
        have sN' : Pure Try.prog 63 [.agg (msN L[u]).l, .int .i64 p, .agg (moC (moL P))] (.agg (msN y).l) := by rw [← exm]; exact sN
        have ga := CQH.ga N2 L m
        have dL := obR_drop 69 L huL
        have tL := obR_take 69 L huL
        have lL := obR_len 69 L
        have room : 4 ≤ L.length * 4 - u * 4 := by omega
        have mt : (moC (moL P)).take 3 = moC (moL P) := rfl
        have ml : (moC (moL P)).length = 3 := rfl
        refine AW.seq fun _ k5 => AW.cond true (by simp [Int.natCast_inj, hlt2]) (fun _ => ?_) (fun h => by cases h)
        refine AW.skip ?_
        simp
        refine k5 _ ?_
        refine AW.seq fun _ k5 => ?_
        refine AW.block ?_
        refine AW.seq fun _ k6 => AW.region [] Θ_ok ?_
        simp [hlt2]
        refine k6 _ ?_
        refine AW.seq fun _ k6 => AW.draw [14] 11 [] Θ_ok mixed (by kernel_rfl) (by kernel_rfl) ?_
        refine vcDraw_split 9 fun B hB => ?_
        simp [vcPre, vcTail, callA, isAlloc, isLoad, effOp, obl, obA, mkOK, valA, newA, ga, hu, huP, hlt, hp, tL, lL, room, mt, ml]
        refine hB _ _ _ ?_
        clear hB B
        simp [vcPre, vcTail, callA, isAlloc, isLoad, effOp, obl, obA, mkOK, valA, newA]
        refine ⟨_, sN'.wk (by simp), ?_⟩
        simp [vcPre, vcTail, callA, isAlloc, isLoad, effOp, obl, obA, mkOK, valA, newA, M4.llen, M4.one, M4.over0]
        refine fun c hc => k6 _ ?_
        rw [M4.mkL, show upd (CQH h a b L m) c (some (obM 69 (msN y))) = CYH h a b c L m y from rfl]
        have N3 : HN h [c, b, a] := HL.new (l := CQ a b L m) N2 hc
        have fgc : ∀ m', subH (CQH h a b L m') (CYH h a b c L m' y) := fun m' => HL.forget (by
          have nd := N3.nd
          simp only [List.nodup_cons, List.mem_cons, not_or, List.not_mem_nil, not_false_iff, and_true] at nd
          rw [HL.out (by simp [CQ, nms, nd.1.1, nd.1.2])]
          exact N3.free c (by simp))
        have gc := CYH.gc N3 L m y
        have gb := CYH.gb N3 L m y
        have pb := CYH.putB N3 L m y y
        have gb2 := CYH.gb N3 L y y
        have s1 : Pure Try.prog 64 [.agg (msN y).l, .agg (msN m).l] (.bool (decide (mcode y < mcode m))) := r9_below (moL P) ok.mo y m yok mok
        have s2 : Pure Try.prog 64 [.agg (msN m).l, .agg (msN y).l] (.bool (decide (mcode m < mcode y))) := r9_below (moL P) ok.mo m y mok yok
        clear hc ga dL tL lL room mt ml sN sN' uok exm hy hm sM
        rw [eo] at es oo
        rcases oo with ho | ho
        · rw [ho, stepS, if_neg (by decide)] at es
          refine AW.seq fun _ k6 => AW.regionAt 22 [] Θ_ok fun B hB => ?_
          simp [hvn, ho, gc, gb, M4.take, M4.len]
          refine s2.use (by simp) ?_
          by_cases hc : mcode m < mcode y
          · rw [decide_eq_true hc]
            rw [if_pos hc] at es
            refine hB _ ?_
            clear hB B
            simp [hvn, ho]
            refine k6 _ ?_
            refine AW.cond true (by simp [Int.natCast_inj, hc]) (fun _ => ?_) (fun h => by cases h)
            refine AW.region [] Θ_ok ?_
            simp [gc, gb, M4.take, M4.len, M4.llen, M4.one, M4.overL, M4.mkL, pb]
            refine k5 _ ?_
            refine AW.region [] Θ_ok ?_
            simp
            exact ⟨j + 1, by omega, by omega, GStep.eq (by simp [inc2]) (by rw [es]; exact fgc y)⟩
          · rw [decide_eq_false hc]
            rw [if_neg hc] at es
            refine hB _ ?_
            clear hB B
            simp [hvn, ho]
            refine k6 _ ?_
            refine AW.cond false (by simp [Int.natCast_inj, hc]) (fun h => by cases h) (fun _ => ?_)
            refine AW.skip ?_
            simp
            refine k5 _ ?_
            refine AW.region [] Θ_ok ?_
            simp
            exact ⟨j + 1, by omega, by omega, GStep.eq (by simp [inc2]) (by rw [es]; exact fgc m)⟩
        · rw [ho, stepS, if_pos rfl] at es
          refine AW.seq fun _ k6 => AW.regionAt 10 [] Θ_ok fun B hB => ?_
          simp [hvn, ho, gc, gb, M4.take, M4.len]
          refine s1.use (by simp) ?_
          by_cases hc : mcode y < mcode m
          · rw [decide_eq_true hc]
            rw [if_pos hc] at es
            refine hB _ ?_
            clear hB B
            simp [hvn, ho]
            refine k6 _ ?_
            refine AW.cond true (by simp [Int.natCast_inj, hc]) (fun _ => ?_) (fun h => by cases h)
            refine AW.region [] Θ_ok ?_
            simp [gc, gb, M4.take, M4.len, M4.llen, M4.one, M4.overL, M4.mkL, pb]
            refine k5 _ ?_
            refine AW.region [] Θ_ok ?_
            simp
            exact ⟨j + 1, by omega, by omega, GStep.eq (by simp [inc2]) (by rw [es]; exact fgc y)⟩
          · rw [decide_eq_false hc]
            rw [if_neg hc] at es
            refine hB _ ?_
            clear hB B
            simp [hvn, ho]
            refine k6 _ ?_
            refine AW.cond false (by simp [Int.natCast_inj, hc]) (fun h => by cases h) (fun _ => ?_)
            refine AW.skip ?_
            simp
            refine k5 _ ?_
            refine AW.region [] Θ_ok ?_
            simp
            exact ⟨j + 1, by omega, by omega, GStep.eq (by simp [inc2]) (by rw [es]; exact fgc m)⟩
      have hjj : j = (g.next[v]).length := by omega
      subst hjj
      refine AW.seq fun _ k5 => AW.cond false (by simp [Int.natCast_inj]) (fun h => by cases h) (fun _ => ?_)
      refine AW.exit ?_
      simp
      refine k4 _ ?_
      have en2 : (nx g v).length = (g.next[v]).length := by rw [en]
      rw [← en2, accM_full]
      have oks := should_ok ok F.ok hvn
      have hlift := F.lift ok hvn
      obtain ⟨m, hm⟩ : ∃ m, m = shouldM g P L v := ⟨_, rfl⟩
      rw [← hm] at oks hlift ⊢
      have exv : xM L v = L[v] := by simp [xM, hvL]
      have vok := F.ok.2 v hvn
      have s1 : Pure Try.prog 64 [.agg (msN L[v]).l, .agg (msN m).l] (.bool (decide (mcode L[v] < mcode m))) := by exact r9_below (moL P) ok.mo L[v] m (by rw [← exv]; exact vok) oks
      have ga := CQH.ga N2 L m
      have gb := CQH.gb N2 L m
      have tL := obR_take 69 L hvL
      have lL := obR_len 69 L
      have room : 4 ≤ L.length * 4 - v * 4 := by omega
      have oL := obR_over 69 L hvL m
      have pA := CQH.putA N2 L (L.set v m) m
      refine AW.seq fun _ k4 => AW.draw [] 6 [] Θ_ok mixed (by kernel_rfl) (by kernel_rfl) ?_
      refine vcDraw_split 5 fun B hB => ?_
      simp [vcPre, vcTail, callA, isAlloc, isLoad, effOp, obl, obA, mkOK, valA, newA, ga, gb, hlt, tL, lL, room, M4.take, M4.len]
      refine hB _ _ _ ?_
      clear hB B
      simp [vcPre, vcTail, callA, isAlloc, isLoad, effOp, obl, obA, mkOK, valA, newA]
      refine ⟨_, s1.wk (by simp), ?_⟩
      try simp
      refine k4 _ ?_
      by_cases hc : mcode L[v] < mcode m
      · have hc2 : mcode (xM L v) < mcode m := by rw [exv]; exact hc
        have hsl := slack_lift hvL hc2 (mcode_top ok.mo oks).1
        refine AW.cond true (by simp [Int.natCast_inj, hc]) (fun _ => ?_) (fun h => by cases h)
        refine AW.region [] Θ_ok ?_
        simp [ga, gb, hlt, M4.take, M4.len, M4.llen, M4.one, lL, oL, pA]
        refine ⟨by omega, k3 _ ?_⟩
        refine AW.region [] Θ_ok ?_
        simp
        exact ⟨⟨L.set v m, v + 1, true⟩, ⟨by simp only; omega, hlift, fun _ => by
          cases more with
          | true => have := hm1 rfl; simp only; omega
          | false => rw [(hm2 rfl).1] at hsl ⊢; exact hsl, fun q => by cases q⟩, by simp only; omega, GStep.eq (by simp [inc]) (CQH.forget N2 _ _)⟩
      · have hc2 : ¬ mcode (xM L v) < mcode m := by rw [exv]; exact hc
        have hc3 := Nat.not_lt.1 hc
        refine AW.cond false (by simp [Int.natCast_inj, hc, hc3]) (fun h => by cases h) (fun _ => ?_)
        refine AW.skip ?_
        simp
        refine k3 _ ?_
        refine AW.region [] Θ_ok ?_
        simp
        exact ⟨⟨L, v + 1, more⟩, ⟨by simp only; omega, F, hm1, fun q => ⟨(hm2 q).1, fun w hw => by
          by_cases e : w = v
          · subst e; rw [← (hm2 q).1, ← hm]; exact Nat.not_lt.1 hc2
          · exact (hm2 q).2 w (by simp only at hw; omega)⟩⟩, by simp only; omega, GStep.eq (by simp [inc]) (fgb m)⟩
    · obtain rfl : v = P.length := by omega
      refine AW.seq fun _ k3 => AW.cond false (by simp [Int.natCast_inj]) (fun h => by cases h) (fun _ => ?_)
      refine AW.exit ?_
      simp
      refine k2 _ ?_
      cases more with
      | true =>
        refine AW.seq fun _ k3 => AW.region [] Θ_ok ?_
        simp
        refine k3 _ ?_
        refine AW.cond false (by simp [Int.natCast_inj]) (fun h => by cases h) (fun _ => ?_)
        refine AW.skip ?_
        simp
        exact ⟨L, F, hm1 rfl, GStep.eq (by simp) (subH.refl _)⟩
      | false =>
        obtain ⟨rfl, hpre⟩ := hm2 rfl
        have hL := Lfi.done F fun u hu => hpre u (by omega)
        have e := meas_eq ok hL
        refine AW.seq fun _ k3 => AW.region [] Θ_ok ?_
        simp
        refine k3 _ ?_
        refine AW.cond true (by simp [Int.natCast_inj]) (fun _ => ?_) (fun h => by cases h)
        refine AW.seq fun _ kr => AW.region [] Θ_ok ?_
        simp
        refine kr _ (AW.ret ?_)
        simp [Try.f53]
        refine Fin.gv (GV.freeze (k := true) (xs := mss L) (CAH.ga NA L) (fun _ => rfl) (by simp [mss, F.ok.1, hlP]) (fun y hy => ?_) ?_) (Fin.refl ⟨?_, ?_⟩)
        · obtain ⟨m, _, rfl⟩ := List.mem_map.1 hy
          rfl
        · rw [mss_flat]
          exact (List.take_of_length_le (by have q := obR_len 69 L; rw [F.ok.1, ← hlP] at q; exact Nat.le_of_eq q)).symm
        · rw [hfin, e]
        · exact HL.del (k := 0) NA rfl
  · have hfin : measRA g P = .nils := if_neg hmp
    rw [show mayP g P = false by simpa using hmp] at sM
    refine AW.seq fun _ k2 => AW.regionAt 3 [] Θ_ok fun B hB => ?_
    simp
    refine sM.use (by simp [G.av]) ?_
    refine hB _ ?_
    clear hB B
    simp
    refine k2 _ ?_
    refine AW.cond true (by simp [Int.natCast_inj]) (fun _ => ?_) (fun h => by cases h)
    refine AW.seq fun _ kr => AW.region [] Θ_ok ?_
    simp
    refine kr _ (AW.ret ?_)
    simp [Try.f53]
    exact Fin.refl ⟨hfin.symm, rfl⟩
end Go.Par
