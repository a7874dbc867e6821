/- small.Measures. -/
import Derived.Test.YtihlpchiomkinaaSpI
set_option linter.unusedSimpArgs false
set_option linter.unusedVariables false
set_option maxRecDepth 8000
set_option maxHeartbeats 2000000
namespace Go.Par
open Go.Proofs

def numM : Ms → List Int
  | none => [0, 0, 0]
  | some (a, b, c) => [a, b, c]
def topM : Ms → Bool
  | none => true
  | some _ => false
noncomputable def smA (g : G) (P : List Int) : AV := if mayP g P then .tup [.ro true (rows ((measL g P).map numM)), .ro true (bools ((measL g P).map topM))] else .tup [.nils, .nils]
def outC (L : List Ms) (v : Nat) : List AV := tab L.length fun i => if i < v then .ro false (ints (numM (xM L i))) else .nils
def topW (L : List Ms) (v : Nat) : List Bool := tab L.length fun i => decide (i < v) && topM (xM L i)
def obO (L : List Ms) (v : Nat) : Ob := ⟨outC L v, 22, 1, true⟩

def MH (h : Heap) (a b : Nat) (L : List Ms) (v : Nat) : Heap := HL h [(b, obB (topW L v)), (a, obO L v)]
section
variable {h : Heap} {a b : Nat} (N : HN h [b, a]) (L : List Ms) (v : Nat)
include N
theorem MH.ga : MH h a b L v a = some (obO L v) := HL.at (k := 1) N.nd rfl
theorem MH.gb : MH h a b L v b = some (obB (topW L v)) := HL.at (k := 0) N.nd rfl
end
theorem outC_set {L : List Ms} {x : Nat} (hx : x < L.length) (u : AV) : ((outC L x).set x u).set x (.ro false (ints (numM L[x]))) = outC L (x + 1) := by
  rw [List.set_set]
  refine List.ext_getElem (by simp [outC]) fun i h1 h2 => ?_
  have hi : i < L.length := by simpa [outC] using h2
  rw [List.getElem_set]
  simp only [outC, getElem_tab]
  by_cases e : x = i
  · subst e; rw [if_pos rfl, if_pos (Nat.lt_succ_self _)]; simp [xM, hx]
  · rw [if_neg e]
    by_cases q : i < x
    · rw [if_pos q, if_pos (by omega)]
    · rw [if_neg q, if_neg (by omega)]
theorem topW_set {L : List Ms} {x : Nat} (hx : x < L.length) : (topW L x).set x (topM L[x]) = topW L (x + 1) := by
  refine List.ext_getElem (by simp [topW]) fun i h1 h2 => ?_
  have hi : i < L.length := by simpa [topW] using h2
  rw [List.getElem_set]
  simp only [topW, getElem_tab]
  by_cases e : x = i
  · subst e; rw [if_pos rfl]; simp [xM, hx]
  · rw [if_neg e]
    by_cases q : i < x
    · simp [q, show i < x + 1 by omega]
    · simp [q, show ¬ i < x + 1 by omega]
def obX (L : List Ms) (x r : Nat) : Ob := ⟨(outC L x).set x (.mu r 3), 22, 1, true⟩
@[simp] theorem obX_ty (L : List Ms) (x r : Nat) : (obX L x r).ty = 22 := rfl
@[simp] theorem obX_sz (L : List Ms) (x r : Nat) : (obX L x r).sz = 1 := rfl
@[simp] theorem obX_nn (L : List Ms) (x r : Nat) : (obX L x r).nn = true := rfl
@[simp] theorem obX_len (L : List Ms) (x r : Nat) : (obX L x r).cells.length = L.length := by simp [obX, outC]
theorem obX_drop {L : List Ms} {x : Nat} (hx : x < L.length) (r : Nat) : (obX L x r).cells.drop x = .mu r 3 :: (obX L x r).cells.drop (x + 1) := by
  rw [List.drop_eq_getElem_cons (by rw [obX_len]; exact hx)]
  simp [obX]
@[simp] theorem obO_ty (L : List Ms) (x : Nat) : (obO L x).ty = 22 := rfl
@[simp] theorem obO_sz (L : List Ms) (x : Nat) : (obO L x).sz = 1 := rfl
@[simp] theorem obO_nn (L : List Ms) (x : Nat) : (obO L x).nn = true := rfl
@[simp] theorem obO_cells (L : List Ms) (x : Nat) : (obO L x).cells = outC L x := rfl
theorem outC_len (L : List Ms) (x : Nat) : (outC L x).length = L.length := length_tab _ _
theorem topW_len (L : List Ms) (x : Nat) : (topW L x).length = L.length := length_tab _ _
def obZ3 (ys : List Int) : Ob := ⟨ints ys, 3, 1, true⟩
@[simp] theorem obZ3_ty (ys : List Int) : (obZ3 ys).ty = 3 := rfl
@[simp] theorem obZ3_sz (ys : List Int) : (obZ3 ys).sz = 1 := rfl
@[simp] theorem obZ3_nn (ys : List Int) : (obZ3 ys).nn = true := rfl
@[simp] theorem obZ3_cells (ys : List Int) : (obZ3 ys).cells = ints ys := rfl
def MR (h : Heap) (a b r : Nat) (X A B : Ob) : Heap := HL h [(r, X), (b, B), (a, A)]
section
variable {h : Heap} {a b r : Nat} (N : HN h [r, b, a]) (X A B : Ob)
include N
theorem MR.gr : MR h a b r X A B r = some X := HL.at (k := 0) N.nd rfl
theorem MR.gb : MR h a b r X A B b = some B := HL.at (k := 1) N.nd rfl
theorem MR.ga : MR h a b r X A B a = some A := HL.at (k := 2) N.nd rfl
theorem MR.pr (X' : Ob) : upd (MR h a b r X A B) r (some X') = MR h a b r X' A B := HL.put (k := 0) N.nd rfl
theorem MR.pb (B' : Ob) : upd (MR h a b r X A B) b (some B') = MR h a b r X A B' := HL.put (k := 1) N.nd rfl
theorem MR.pa (A' : Ob) : upd (MR h a b r X A B) a (some A') = MR h a b r X A' B := HL.put (k := 2) N.nd rfl
theorem MR.fin {L : List Ms} {x : Nat} (hx : x < L.length) : upd (upd (MR h a b r X (obX L x r) (obB (topW L (x + 1)))) r none) a (some ⟨(obX L x r).cells.set x (.ro false (ints (numM L[x]))), 22, 1, true⟩) = MH h a b L (x + 1) := by
  have h1 : upd (MR h a b r X (obX L x r) (obB (topW L (x + 1)))) r none = HL h [(b, obB (topW L (x + 1))), (a, obX L x r)] := HL.del (k := 0) N rfl
  have nd := N.nd
  have N2 : (nms [(b, obB (topW L (x + 1))), (a, obX L x r)]).Nodup := (List.nodup_cons.1 nd).2
  rw [h1, HL.put (k := 1) N2 rfl]
  simp only [obX, outC_set hx]
  rfl
end
theorem rowDone {h : Heap} {a b r : Nat} (N : HN h [r, b, a]) {L : List Ms} {x : Nat} (hx : x < L.length) {sn : Nat} {tm : Tm} {ys : List Int} (hy : numM L[x] = ys) : GStep ⟨sn, tm, MR h a b r (obZ3 ys) (obX L x r) (obB (topW L (x + 1)))⟩ ⟨sn, tm, MH h a b L (x + 1)⟩ := by
  subst hy
  have l3 : (ints (numM L[x])).length = 3 := by cases L[x] with | none => rfl | some t => obtain ⟨_, _, _⟩ := t; rfl
  have o1 : ∀ u ∈ ints (numM L[x]), u.flat = [u] := fun u hu => by obtain ⟨_, _, rfl⟩ := List.mem_map.1 hu; rfl
  have nd := N.nd
  have hne : a ≠ r := by
    intro e; subst e; simp at nd
  have g := GV.freeze (n := 3) (k := false) (xs := ints (numM L[x])) (MR.gr N (obZ3 (numM L[x])) (obX L x r) (obB (topW L (x + 1)))) (fun e => by cases e) l3 (fun y hy => by rw [o1 y hy]; rfl) (by rw [flat_ones o1]; exact (List.take_of_length_le (by rw [l3]; exact Nat.le_refl _)).symm)
  have q := GStep.cell (S := ⟨sn, tm, MR h a b r (obZ3 (numM L[x])) (obX L x r) (obB (topW L (x + 1)))⟩) (p := a) (j := x) (MR.ga N _ _ _) (by simp [obX, outC, hx]) g (by rw [upd_ne _ _ hne]; exact MR.ga N _ _ _) (by intro e; have := congrArg List.length e; simp only [obX_len, List.length_nil] at this; omega)
  simp only [obX_ty, obX_sz, obX_nn] at q
  rw [MR.fin N _ hx] at q
  exact q
theorem updN {h : Heap} {c : Nat} (X : Ob) (hc : h c = none) : upd (upd h c (some X)) c none = h := by
  rw [upd_upd]
  funext o
  by_cases e : o = c
  · subst e; rw [upd_same, hc]
  · rw [upd_ne _ _ e]

theorem small_Measures (g : G) (hf : g.fits) (P : List Int) (hP : P.length ≤ 1152921504606846976) : Pure Try.prog 31 [g.av, .ro false (ints P)] (smA g P) := by
  have sL := small_lifted g hf P hP
  intro h
  refine AC.body Θ_ok Try.func31 rfl rfl (Nat.le_of_ble_eq_true rfl) ?_
  refine AW.seq fun _ k1 => AW.region [] Θ_ok ?_
  simp
  refine k1 _ ?_
  by_cases hmp : mayP g P = true
  · have hfin : smA g P = .tup [.ro true (rows ((measL g P).map numM)), .ro true (bools ((measL g P).map topM))] := if_pos hmp
    rw [liftedA, if_pos hmp] at sL
    have ok := mayP_mg hmp
    have hn := (may_ok ok.m).1
    have lL : (measL g P).length = g.owner.length := meas_len ok
    obtain ⟨L, hL⟩ : ∃ L, L = measL g P := ⟨_, rfl⟩
    rw [← hL] at hfin sL lL
    refine AW.seq fun _ k1 => AW.regionAt 3 [] Θ_ok fun B hB => ?_
    simp
    refine sL.use (by simp [G.av]) ?_
    refine hB _ ?_
    clear hB B
    simp
    refine k1 _ ?_
    refine AW.seq fun _ k1 => ?_
    refine AW.seq fun _ k2 => AW.region [] Θ_ok ?_
    simp
    refine k2 _ ?_
    refine AW.cond false (by simp [Int.natCast_inj]) (fun h => by cases h) (fun _ => ?_)
    refine AW.skip ?_
    simp
    refine k1 _ ?_
    have lm := mss_len L
    refine AW.seq fun _ k1 => AW.draw [22, 25] 8 [] Θ_ok mixed (by kernel_rfl) (by kernel_rfl) ?_
    simp [vcDraw, vcPre, vcTail, callA, isAlloc, isLoad, effOp, obl, obA, mkOK, valA, newA, lm]
    have b1 : 24 * (L.length : Int) ≤ 140737488355328 := by omega
    have b2 : (L.length : Int) ≤ 140737488355328 := by omega
    have e1 : (List.replicate L.length AV.nils).flatMap AV.flat = outC L 0 := by
      rw [replicate_tab, flat_tab (fun _ _ => rfl)]; exact tab_congr fun i _ => by rw [if_neg (Nat.not_lt_zero _)]
    have e2 : (List.replicate L.length (AV.bool false)).flatMap AV.flat = (topW L 0).map AV.bool := by
      rw [replicate_tab, flat_tab (fun _ _ => rfl)]; simp [topW]
    rw [e1, e2]
    refine ⟨⟨b1, b2⟩, fun a ha => ⟨b2, fun b hb => k1 _ ?_⟩⟩
    have N1 : HN h [a] := HL.new (l := []) ⟨List.nodup_nil, fun o ho => by cases ho⟩ ha
    have N : HN h [b, a] := HL.new (l := [(a, obO L 0)]) N1 hb
    simp only [obB_mk]
    rw [show upd (upd h a (some (⟨outC L 0, 22, 1, true⟩ : Ob))) b (some (obB (topW L 0))) = MH h a b L 0 from rfl]
    clear ha hb e1 e2 b1 b2 N1
    refine AW.seq fun _ k1 => ?_
    refine AW.seq fun _ k2 => AW.region [] Θ_ok ?_
    simp [lm]
    refine k2 _ ?_
    refine AW.block ?_
    refine AW.loopI (X := Nat) (fun x => x ≤ L.length) (fun x => ⟨55, [(8, .mu a L.length), (9, .mu b L.length), (26, .ro true (mss L)), (27, .int .i64 L.length), (28, .int .i64 x)], MH h a b L x⟩) (fun x => L.length - x) 0 (Nat.zero_le _) (GStep.eq (by simp [lm]) (subH.refl _)) fun x hx => ?_
    have ga := MH.ga N L x
    have gb := MH.gb N L x
    refine AW.seq fun _ k2 => AW.region [] Θ_ok ?_
    simp
    refine k2 _ ?_
    by_cases hlt : x < L.length
    · have inc := wrap_succ (show x < 9223372036854775807 by omega)
      have gm := mss_get hlt
      have tl : List.take 4 (msN L[x]).l = (msN L[x]).l := rfl
      have hltm : x < (mss L).length := by omega
      refine AW.seq fun _ k2 => AW.cond true (by simp [Int.natCast_inj, hlt]) (fun _ => ?_) (fun h => by cases h)
      refine AW.skip ?_
      simp
      refine k2 _ ?_
      refine AW.seq fun _ k2 => ?_
      refine AW.block ?_
      refine AW.seq fun _ k3 => AW.region [11] Θ_ok ?_
      simp [newA, hlt, lm, hltm, gm, agg_flat, tl, M4.llen, M4.one, M4.over0]
      refine fun c hc => k3 _ ?_
      refine AW.box 11 rfl (upd_same _ _ _) ?_
      simp only [updN _ hc]
      obtain ⟨m, hm⟩ : ∃ m, m = msN L[x] := ⟨_, rfl⟩
      rw [← hm]
      refine AW.seq fun _ k3 => AW.draw [37] 8 [] Θ_ok mixed (by kernel_rfl) (by kernel_rfl) ?_
      simp [vcDraw, vcPre, vcTail, callA, isAlloc, isLoad, effOp, obl, obA, mkOK, valA, newA, lm, M4.l]
      refine fun r hr => ?_
      have N3 : HN h [r, b, a] := HL.new (l := [(b, obB (topW L x)), (a, obO L x)]) N hr
      rw [show upd (MH h a b L x) r (some (⟨[AV.int IntKind.i64 0, AV.int IntKind.i64 0, AV.int IntKind.i64 0], 3, 1, true⟩ : Ob)) = MR h a b r (obZ3 [0, 0, 0]) (obO L x) (obB (topW L x)) from rfl]
      have r1 := MR.ga N3 (obZ3 [0, 0, 0]) (obO L x) (obB (topW L x))
      have r2 := MR.pa N3 (obZ3 [0, 0, 0]) (obO L x) (obB (topW L x)) (obX L x r)
      have r3 := MR.gb N3 (obZ3 [0, 0, 0]) (obX L x r) (obB (topW L x))
      have r4 := MR.pb N3 (obZ3 [0, 0, 0]) (obX L x r) (obB (topW L x)) (obB (topW L (x + 1)))
      have lo := outC_len L x
      have lt := topW_len L x
      have ts := topW_set hlt
      have mt : topM L[x] = m.t := by rw [hm]; cases L[x] <;> rfl
      rw [mt] at ts
      have tb := map_set_bool (topW L x) x m.t
      rw [ts] at tb
      simp only [r1, obO_cells, obO_ty, obO_sz, obO_nn, lo]
      rw [show (⟨(outC L x).set x (.mu r 3), 22, 1, true⟩ : Ob) = obX L x r from rfl, r2]
      simp only [r3, obB_cells, obB_ty, obB_sz, obB_nn, List.length_map, lt, tb, obB_mk, r4]
      refine ⟨hlt, ⟨trivial, by omega⟩, hlt, ⟨trivial, by omega⟩, k3 _ ?_⟩
      clear r1 r2 r3 r4 hr hc
      have ga := MR.ga N3 (obZ3 [0, 0, 0]) (obX L x r) (obB (topW L (x + 1)))
      have gr := MR.gr N3 (obZ3 [0, 0, 0]) (obX L x r) (obB (topW L (x + 1)))
      have xd := obX_drop hlt r
      cases hmx : L[x] with
      | none =>
        rw [hmx] at hm
        have hm' : m = ⟨0, 0, 0, true⟩ := hm
        subst hm'
        refine AW.seq fun _ k4 => AW.region [] Θ_ok ?_
        simp
        refine k4 _ ?_
        refine AW.cond false (by simp [Int.natCast_inj]) (fun h => by cases h) (fun _ => ?_)
        refine AW.skip ?_
        simp
        refine k2 _ ?_
        refine AW.ghost (rowDone N3 hlt (ys := [0, 0, 0]) (by rw [hmx]; rfl)) ?_
        refine AW.region [] Θ_ok ?_
        simp
        exact ⟨x + 1, by omega, by omega, GStep.eq (by simp [inc]) (subH.refl _)⟩
      | some t =>
        obtain ⟨p, q, s⟩ := t
        rw [hmx] at hm
        have hm' : m = ⟨p, q, s, false⟩ := hm
        subst hm'
        have pr := MR.pr N3 (obZ3 [0, 0, 0]) (obX L x r) (obB (topW L (x + 1))) (obZ3 [(p : Int), (q : Int), (s : Int)])
        refine AW.seq fun _ k4 => AW.region [] Θ_ok ?_
        simp
        refine k4 _ ?_
        refine AW.cond true (by simp [Int.natCast_inj]) (fun _ => ?_) (fun h => by cases h)
        refine AW.draw [] 6 [] Θ_ok mixed (by kernel_rfl) (by kernel_rfl) ?_
        simp [vcDraw, vcPre, vcTail, callA, isAlloc, isLoad, effOp, obl, obA, mkOK, valA, newA, ga, gr, xd, hlt]
        rw [show (⟨[AV.int IntKind.i64 (p : Int), AV.int IntKind.i64 (q : Int), AV.int IntKind.i64 (s : Int)], 3, 1, true⟩ : Ob) = obZ3 [(p : Int), (q : Int), (s : Int)] from rfl, pr]
        refine k2 _ ?_
        refine AW.ghost (rowDone N3 hlt (ys := [(p : Int), (q : Int), (s : Int)]) (by rw [hmx]; rfl)) ?_
        refine AW.region [] Θ_ok ?_
        simp
        exact ⟨x + 1, by omega, by omega, GStep.eq (by simp [inc]) (subH.refl _)⟩
    have hxx : x = L.length := by omega
    subst hxx
    refine AW.seq fun _ k2 => AW.cond false (by simp [Int.natCast_inj]) (fun h => by cases h) (fun _ => ?_)
    refine AW.exit ?_
    simp
    refine k1 _ ?_
    have nd := N.nd
    simp only [List.nodup_cons, List.mem_cons, not_or, List.not_mem_nil, not_false_iff, and_true] at nd
    have hsub : subH h (MH h a b L L.length) := HL.sub (l := [(b, obB (topW L L.length)), (a, obO L L.length)]) N
    have fa : h a = none := N.free _ (by simp)
    have fb : h b = none := N.free _ (by simp)
    generalize MH h a b L L.length = H at *
    refine AW.seq fun _ kr => AW.region [] Θ_ok ?_
    simp
    refine kr _ ?_
    refine AW.freeze 4 true rfl ga (fun _ => rfl) rfl (outC_len L _) (fun u hu => by obtain ⟨i, hi, rfl⟩ := mem_tab.1 hu; rw [if_pos hi]; rfl) ?_
    refine AW.freeze 5 true rfl (x := obB (topW L L.length)) (by simp only; rw [upd_ne _ _ nd.1]; exact gb) (fun _ => rfl) rfl (by simp [topW]) (fun u hu => by obtain ⟨z, _, rfl⟩ := List.mem_map.1 hu; rfl) ?_
    refine AW.ghost (GStep.eq (S := ⟨55, _, _⟩) (tm := [(4, .ro true (outC L L.length)), (5, .ro true ((topW L L.length).map AV.bool))]) (h := h) (by simp [EqAll]) fun o x hx => ?_) ?_
    · have e1 : o ≠ a := fun e => by rw [e, fa] at hx; cases hx
      have e2 : o ≠ b := fun e => by rw [e, fb] at hx; cases hx
      simp only
      rw [upd_ne _ _ e2, upd_ne _ _ e1]
      exact hsub o x hx
    refine AW.ret ?_
    simp [Try.f31]
    refine Fin.refl ⟨?_, rfl⟩
    rw [hfin]
    have q1 : outC L L.length = rows (L.map numM) := by
      refine List.ext_getElem (by simp [outC]) fun i h1 h2 => ?_
      have hi : i < L.length := by simpa [outC] using h1
      simp [outC, hi, xM]
    have q2 : topW L L.length = L.map topM := by
      refine List.ext_getElem (by simp [topW]) fun i h1 h2 => ?_
      have hi : i < L.length := by simpa [topW] using h1
      simp [topW, hi, xM]
    rw [q1, q2]
  · have hfin : smA g P = .tup [.nils, .nils] := if_neg hmp
    rw [liftedA, if_neg hmp] at sL
    refine AW.seq fun _ k1 => AW.regionAt 3 [] Θ_ok fun B hB => ?_
    simp
    refine sL.use (by simp [G.av]) ?_
    refine hB _ ?_
    clear hB B
    simp
    refine k1 _ ?_
    refine AW.seq fun _ k1 => ?_
    refine AW.seq fun _ k2 => AW.region [] Θ_ok ?_
    simp
    refine k2 _ ?_
    refine AW.cond true (by simp [Int.natCast_inj]) (fun _ => ?_) (fun h => by cases h)
    refine AW.seq fun _ kr => AW.region [] Θ_ok ?_
    simp
    refine kr _ (AW.ret ?_)
    simp [Try.f31]
    exact Fin.refl ⟨hfin.symm, rfl⟩
end Go.Par
