/- The lifter: should. -/
import Derived.Test.YtihlpchiomkinaaSpE
import Derived.Test.YtihlpchiomkinaaMaLo
import Derived.Test.YtihlpchiomkinaaSmE
set_option linter.unusedSimpArgs false
set_option linter.unusedVariables false
set_option maxRecDepth 8000
set_option maxHeartbeats 2000000
namespace Go.Par
open Go.Proofs

def lifC (g : G) (P : List Int) (mo : Mo) (R : List Ms) : List AV := [.ro false (ints g.owner), .ro false (rows g.next), .ro false (ints P), .int .i64 mo.a, .int .i64 mo.b, .int .i64 mo.c, .ro true (mss R), .any, .any]
theorem lifC_drop (g : G) (P : List Int) (mo : Mo) (R : List Ms) : ∀ x, x < 3 → (lifC g P mo R).drop (3 + x) = .int .i64 (moA mo x) :: (lifC g P mo R).drop (3 + x + 1) := by
  intro x h
  rcases three h with rfl | rfl | rfl <;> rfl
def outM (g : G) (P : List Int) (L : List Ms) (v j : Nat) : Ms := if j = 0 then some (0, 0, 0) else accM g P L v j
section
variable {g : G} {P : List Int} {L : List Ms} {v : Nat}
theorem out_one (ok : MG g P) {y : Ms} (hy : msOk (moL P) y) : stepS (ow g v) (initS (ow g v)) y = y := by
  unfold stepS initS
  by_cases h : ow g v = 1
  · rw [if_pos h, if_pos h]
    split
    · rfl
    · rename_i q
      have t := mcode_top ok.mo hy
      have : mcode none = 64000000000 := rfl
      exact (t.2 (by omega)).symm
  · rw [if_neg h, if_neg h]
    split
    · rfl
    · rename_i q
      have e : mcode (some (0, 0, 0)) = 0 := rfl
      exact mcode_inj ok.mo (by simp [msOk]) hy (by omega)
end

def SQH (h : Heap) (a b : Nat) (m : M4) : Heap := HL h [(b, obM 69 m), (a, obM 69 ⟨0, 0, 0, false⟩)]
def SRH (h : Heap) (a b c : Nat) (m y : M4) : Heap := HL h [(c, obM 69 y), (b, obM 69 m), (a, obM 69 ⟨0, 0, 0, false⟩)]
section
variable {h : Heap} {a b c : Nat}
theorem SQH.ga (N : HN h [b, a]) (m : M4) : SQH h a b m a = some (obM 69 ⟨0, 0, 0, false⟩) := HL.at (k := 1) N.nd rfl
theorem SQH.gb (N : HN h [b, a]) (m : M4) : SQH h a b m b = some (obM 69 m) := HL.at (k := 0) N.nd rfl
theorem SQH.putA (N : HN h [b, a]) (m x : M4) : upd (SQH h a b m) a (some (obM 69 x)) = HL h [(b, obM 69 m), (a, obM 69 x)] := HL.put (k := 1) N.nd rfl
theorem SQH.ga' (N : HN h [b, a]) (m x : M4) : HL h [(b, obM 69 m), (a, obM 69 x)] a = some (obM 69 x) := HL.at (k := 1) N.nd rfl
theorem SRH.gb (N : HN h [c, b, a]) (m y : M4) : SRH h a b c m y b = some (obM 69 m) := HL.at (k := 1) N.nd rfl
theorem SRH.gc (N : HN h [c, b, a]) (m y : M4) : SRH h a b c m y c = some (obM 69 y) := HL.at (k := 0) N.nd rfl
theorem SRH.putB (N : HN h [c, b, a]) (m y x : M4) : upd (SRH h a b c m y) b (some (obM 69 x)) = SRH h a b c x y := HL.put (k := 1) N.nd rfl
end

theorem small_should (g : G) (hf : g.fits) (P : List Int) (ok : MG g P) (R : List Ms) (hR : Mok g P R) (v : Nat) (hv : v < g.owner.length) : Pure Try.prog 85 [.rop (lifC g P (moL P) R), .int .i64 v] (avM (shouldM g P R v)) := by
  have hn := (may_ok ok.m).1
  have hn2 := (may_ok ok.m).2.1
  have hvn' : v < g.next.length := by omega
  have hvP : v < P.length := by rw [ok.len]; exact hv
  have eo : ow g v = g.owner[v] := by simp [ow, hv]
  have en : nx g v = g.next[v] := by simp [nx, hvn']
  have en2 : (nx g v).length = (g.next[v]).length := by rw [en]
  have oo := ow_ok ok.m hv
  have p0 := ok.lo v hv
  have p5 := ok.hi v hv
  have ep : P.getD v 0 = P[v] := by simp [hvP]
  rw [ep] at p0 p5
  obtain ⟨p, hp⟩ : ∃ p : Nat, P[v] = p := ⟨P[v].toNat, by omega⟩
  have hp5 : p ≤ 5 := by omega
  have epp : prP P v = p := by rw [prP, ep, hp]; omega
  have hrow := hf.row _ (List.getElem_mem hvn')
  have hCd := lifC_drop g P (moL P) R
  have lR := mss_len R
  have hRl : R.length = g.owner.length := hR.1
  intro h
  refine AC.body Θ_ok Try.func85 rfl rfl (Nat.le_of_ble_eq_true rfl) ?_
  refine AW.seq fun _ k1 => AW.region [4] Θ_ok ?_
  simp [newA]
  refine fun a ha => k1 _ ?_
  rw [obM_mk]
  have NA : HN h [a] := HL.new (l := []) ⟨List.nodup_nil, fun o ho => by cases ho⟩ ha
  rw [show upd h a (some (obM 69 ⟨0, 0, 0, false⟩)) = HL h [(a, obM 69 ⟨0, 0, 0, false⟩)] from rfl]
  clear ha
  have ga := HL.at (h0 := h) (l := [(a, obM 69 ⟨0, 0, 0, false⟩)]) (k := 0) NA.nd rfl
  refine AW.seq fun _ k1 => ?_
  by_cases h0 : (g.next[v]).length = 0
  · have e : shouldM g P R v = initS (ow g v) := by rw [← accM_full, en2, h0]; rfl
    have pa : ∀ x : M4, upd (HL h [(a, obM 69 ⟨0, 0, 0, false⟩)]) a (some (obM 69 x)) = HL h [(a, obM 69 x)] := fun x => HL.put (h0 := h) (A' := obM 69 x) (l := [(a, obM 69 ⟨0, 0, 0, false⟩)]) (k := 0) NA.nd rfl
    have ga2 : ∀ x : M4, HL h [(a, obM 69 x)] a = some (obM 69 x) := fun x => HL.at (h0 := h) (l := [(a, obM 69 x)]) (k := 0) NA.nd rfl
    have h0' : g.next[v] = [] := List.eq_nil_of_length_eq_zero h0
    refine AW.seq fun _ k2 => AW.region [] Θ_ok ?_
    simp [lifC, hvn', h0, h0']
    refine k2 _ ?_
    refine AW.cond true (by simp [Int.natCast_inj]) (fun _ => ?_) (fun h => by cases h)
    refine AW.seq fun _ kr => AW.region [] Θ_ok ?_
    simp [lifC, hv, ga, fillA, setAt, obM_mk, pa]
    refine kr _ (AW.ret ?_)
    simp [Try.f85, ga2]
    refine Fin.gv (GV.sub (HL.sub (l := [(a, obM 69 ⟨0, 0, 0, g.owner[v] == 1⟩)]) NA)) (Fin.refl ⟨?_, rfl⟩)
    rw [e, eo]
    rw [eo] at oo
    rcases oo with q | q <;> rw [q] <;> rfl
  · have h0' : ¬ (((g.next[v]).length : Nat) : Int) = 0 := by omega
    have h0'' : ¬ g.next[v] = [] := fun z => h0 (by rw [z]; rfl)
    refine AW.seq fun _ k2 => AW.region [] Θ_ok ?_
    simp [lifC, hvn', h0, h0', h0'']
    refine k2 _ ?_
    refine AW.cond false (by simp [Int.natCast_inj, h0, h0', h0'']) (fun h => by cases h) (fun _ => ?_)
    refine AW.skip ?_
    simp
    refine k1 _ ?_
    refine AW.seq fun _ k1 => AW.region [5] Θ_ok ?_
    simp [newA]
    refine fun b hb => k1 _ ?_
    rw [obM_mk]
    have N2 : HN h [b, a] := HL.new (l := [(a, obM 69 ⟨0, 0, 0, false⟩)]) NA hb
    rw [show upd (HL h [(a, obM 69 ⟨0, 0, 0, false⟩)]) b (some (obM 69 ⟨0, 0, 0, false⟩)) = SQH h a b (msN (outM g P R v 0)) from rfl]
    clear hb ga
    have aok := accM_ok (P := P) ok hR hv
    refine AW.seq fun _ k1 => ?_
    refine AW.seq fun _ k2 => AW.region [] Θ_ok ?_
    simp [hvn']
    refine k2 _ ?_
    refine AW.block ?_
    refine AW.loopI (X := Nat) (fun j => j ≤ (g.next[v]).length) (fun j => ⟨98, [(0, .rop (lifC g P (moL P) R)), (1, .int .i64 v), (4, .ptr a 0), (5, .ptr b 0), (37, .ro false (ints g.next[v])), (38, .int .i64 (g.next[v]).length), (39, .int .i64 j)], SQH h a b (msN (outM g P R v j))⟩) (fun j => (g.next[v]).length - j) 0 (Nat.zero_le _) (GStep.eq (by simp [lifC]) (subH.refl _)) fun j hj => ?_
    refine AW.seq fun _ k2 => AW.region [] Θ_ok ?_
    simp
    refine k2 _ ?_
    by_cases hlt2 : j < (g.next[v]).length
    · have inc2 := wrap_succ (show j < 9223372036854775807 by omega)
      have hjn : j < (nx g v).length := by rw [en]; exact hlt2
      have hwm := (nx_ok ok.m hv).2 (nx g v)[j] (List.getElem_mem _)
      have es := accM_succ (P := P) (L := R) hjn
      have e1 : (nx g v)[j] = (g.next[v])[j] := by simp only [en]
      rw [e1] at hwm es
      obtain ⟨u, hu⟩ : ∃ u : Nat, (g.next[v])[j] = u := ⟨(g.next[v])[j].toNat, by omega⟩
      rw [hu] at hwm es
      have hun : u < g.owner.length := by omega
      have huR : u < R.length := by omega
      have huR' : u < (mss R).length := by omega
      have exm : xM R u = R[u] := by simp [xM, huR]
      have uok := hR.2 u hun
      have sN := small_next (C := lifC g P (moL P) R) (moL P) hCd ok.mo p hp5 (xM R u) uok
      have yok := next_ok (p := p) uok
      rw [show ((u : Nat) : Int).toNat = u by omega, epp] at es
      obtain ⟨y, hy⟩ : ∃ y, y = nextM (moL P) p (xM R u) := ⟨_, rfl⟩
      rw [← hy] at sN yok es
      have mok : msOk (moL P) (outM g P R v j) := by
        unfold outM; split
        · simp [msOk]
        · exact aok j (by omega)
      have hout : outM g P R v (j + 1) = if j = 0 then y else stepS (ow g v) (outM g P R v j) y := by
        unfold outM
        rw [if_neg (by omega), es]
        by_cases q : j = 0
        · subst q; rw [if_pos rfl]; exact out_one ok yok
        · rw [if_neg q, if_neg q]
      obtain ⟨m, hm⟩ : ∃ m, m = outM g P R v j := ⟨_, rfl⟩
      rw [← hm] at mok hout ⊢
      have sN' : Pure Try.prog 93 [.rop (lifC g P (moL P) R), .agg (msN R[u]).l, .int .i64 p] (.agg (msN y).l) := by rw [← exm]; exact sN
      have gm := mss_get huR
      have tl : List.take 4 (msN R[u]).l = (msN R[u]).l := rfl
      refine AW.seq fun _ k2 => AW.cond true (by simp [Int.natCast_inj, hlt2]) (fun _ => ?_) (fun h => by cases h)
      refine AW.skip ?_
      simp
      refine k2 _ ?_
      refine AW.seq fun _ k2 => ?_
      refine AW.block ?_
      refine AW.seq fun _ k3 => AW.region [] Θ_ok ?_
      simp [hlt2]
      refine k3 _ ?_
      refine AW.seq fun _ k3 => AW.draw [8] 17 [] Θ_ok mixed (by kernel_rfl) (by kernel_rfl) ?_
      refine vcDraw_split 15 fun B hB => ?_
      simp [vcPre, vcTail, callA, isAlloc, isLoad, effOp, obl, obA, mkOK, valA, newA, lifC, hu, hvP, hp, huR, lR, gm, agg_flat, M4.llen, tl]
      refine hB _ _ _ ?_
      clear hB B
      simp [vcPre, vcTail, callA, isAlloc, isLoad, effOp, obl, obA, mkOK, valA, newA]
      refine ⟨_, sN'.wk (by simp [lifC]), ?_⟩
      simp [vcPre, vcTail, callA, isAlloc, isLoad, effOp, obl, obA, mkOK, valA, newA, M4.llen, M4.one, M4.over0]
      refine fun c hc => k3 _ ?_
      rw [M4.mkL, show upd (SQH h a b (msN m)) c (some (obM 69 (msN y))) = SRH h a b c (msN m) (msN y) from rfl]
      have N3 : HN h [c, b, a] := HL.new (l := [(b, obM 69 (msN m)), (a, obM 69 ⟨0, 0, 0, false⟩)]) N2 hc
      have fgc : ∀ m' y', subH (SQH h a b m') (SRH h a b c m' y') := fun m' y' => HL.forget (by
        have nd := N3.nd
        simp only [List.nodup_cons, List.mem_cons, not_or, List.not_mem_nil, not_false_iff, and_true] at nd
        rw [HL.out (by simp [nms, nd.1.1, nd.1.2])]
        exact N3.free c (by simp))
      have gc := SRH.gc N3 (msN m) (msN y)
      have gb := SRH.gb N3 (msN m) (msN y)
      have pb := SRH.putB N3 (msN m) (msN y) (msN y)
      have sC : Pure Try.prog 86 [.agg (msN y).l, .agg (msN m).l] (.int .i64 (cmpM y m)) := small_compare (moL P) ok.mo y m yok mok
      have c1 := cmpM_lt (x := y) (y := m)
      have c2 := cmpM_gt (x := y) (y := m)
      clear hc sN sN' uok exm hy hm gm tl aok
      refine AW.seq fun _ k3 => AW.regionAt 3 [] Θ_ok fun B hB => ?_
      simp [gc, gb, M4.take, M4.len]
      refine sC.use (by simp) ?_
      refine hB _ ?_
      clear hB B
      simp
      refine k3 _ ?_
      generalize cmpM y m = q at *
      rw [eo] at oo hout
      by_cases hj0 : j = 0
      · subst hj0
        rw [if_pos rfl] at hout
        refine AW.seq fun _ k3 => AW.region [] Θ_ok ?_
        simp
        refine k3 _ ?_
        refine AW.cond true (by simp [Int.natCast_inj]) (fun _ => ?_) (fun h => by cases h)
        refine AW.region [] Θ_ok ?_
        simp [gc, gb, M4.take, M4.len, M4.llen, M4.one, M4.overL, M4.mkL, pb]
        refine k2 _ ?_
        refine AW.region [] Θ_ok ?_
        simp
        exact ⟨0 + 1, by omega, by omega, GStep.eq (by simp [lifC, show IntKind.i64.wrap 1 = 1 from rfl]) (by rw [hout]; exact fgc _ _)⟩
      rw [if_neg hj0] at hout
      have hj0' : ¬ (j : Int) = 0 := by omega
      rcases oo with ho | ho
      · rw [ho, stepS, if_neg (by decide)] at hout
        by_cases hc : mcode m < mcode y
        · rw [if_pos hc] at hout
          have q1 := c2.2 hc
          refine AW.seq fun _ k3 => AW.region [] Θ_ok ?_
          simp [hj0, hj0', hv, ho, q1]
          refine k3 _ ?_
          refine AW.cond true (by simp [Int.natCast_inj, hj0, hj0', hv, ho, q1]) (fun _ => ?_) (fun h => by cases h)
          refine AW.region [] Θ_ok ?_
          simp [gc, gb, M4.take, M4.len, M4.llen, M4.one, M4.overL, M4.mkL, pb]
          refine k2 _ ?_
          refine AW.region [] Θ_ok ?_
          simp
          exact ⟨j + 1, by omega, by omega, GStep.eq (by simp [inc2, lifC]) (by rw [hout]; exact fgc _ _)⟩
        · rw [if_neg hc] at hout
          have q1 : ¬ 0 < q := fun z => hc (c2.1 z)
          have q1' := Int.not_lt.1 q1
          refine AW.seq fun _ k3 => AW.region [] Θ_ok ?_
          simp [hj0, hj0', hv, ho, q1, q1']
          refine k3 _ ?_
          refine AW.cond false (by simp [Int.natCast_inj, hj0, hj0', hv, ho, q1, q1']) (fun h => by cases h) (fun _ => ?_)
          refine AW.skip ?_
          simp
          refine k2 _ ?_
          refine AW.region [] Θ_ok ?_
          simp
          exact ⟨j + 1, by omega, by omega, GStep.eq (by simp [inc2, lifC]) (by rw [hout]; exact fgc _ _)⟩
      · rw [ho, stepS, if_pos rfl] at hout
        by_cases hc : mcode y < mcode m
        · rw [if_pos hc] at hout
          have q1 := c1.2 hc
          refine AW.seq fun _ k3 => AW.region [] Θ_ok ?_
          simp [hj0, hj0', hv, ho, q1]
          refine k3 _ ?_
          refine AW.cond true (by simp [Int.natCast_inj, hj0, hj0', hv, ho, q1]) (fun _ => ?_) (fun h => by cases h)
          refine AW.region [] Θ_ok ?_
          simp [gc, gb, M4.take, M4.len, M4.llen, M4.one, M4.overL, M4.mkL, pb]
          refine k2 _ ?_
          refine AW.region [] Θ_ok ?_
          simp
          exact ⟨j + 1, by omega, by omega, GStep.eq (by simp [inc2, lifC]) (by rw [hout]; exact fgc _ _)⟩
        · rw [if_neg hc] at hout
          have q1 : ¬ q < 0 := fun z => hc (c1.1 z)
          have q1' := Int.not_lt.1 q1
          refine AW.seq fun _ k3 => AW.region [] Θ_ok ?_
          simp [hj0, hj0', hv, ho, q1, q1']
          refine k3 _ ?_
          refine AW.cond false (by simp [Int.natCast_inj, hj0, hj0', hv, ho, q1, q1']) (fun h => by cases h) (fun _ => ?_)
          refine AW.skip ?_
          simp
          refine k2 _ ?_
          refine AW.region [] Θ_ok ?_
          simp
          exact ⟨j + 1, by omega, by omega, GStep.eq (by simp [inc2, lifC]) (by rw [hout]; exact fgc _ _)⟩
    have hjj : j = (g.next[v]).length := by omega
    subst hjj
    refine AW.seq fun _ k2 => AW.cond false (by simp [Int.natCast_inj]) (fun h => by cases h) (fun _ => ?_)
    refine AW.exit ?_
    simp
    refine k1 _ ?_
    have eF : outM g P R v (g.next[v]).length = shouldM g P R v := by
      unfold outM
      rw [if_neg h0, ← en2, accM_full]
    rw [eF]
    obtain ⟨m, hm⟩ : ∃ m, m = shouldM g P R v := ⟨_, rfl⟩
    rw [← hm]
    have ga := SQH.ga N2 (msN m)
    have gb := SQH.gb N2 (msN m)
    have pa := SQH.putA N2 (msN m) (msN m)
    have ga2 := SQH.ga' N2 (msN m) (msN m)
    refine AW.seq fun _ kr => AW.region [] Θ_ok ?_
    simp [ga, gb, M4.take, M4.len, M4.llen, M4.one, M4.over0, M4.mkL, pa]
    refine kr _ (AW.ret ?_)
    simp [Try.f85, ga2, M4.take]
    refine ⟨Nat.le_of_eq rfl, ?_⟩
    exact Fin.gv (GV.sub (HL.sub (l := [(b, obM 69 (msN m)), (a, obM 69 (msN m))]) N2)) (Fin.refl ⟨rfl, rfl⟩)
end Go.Par
