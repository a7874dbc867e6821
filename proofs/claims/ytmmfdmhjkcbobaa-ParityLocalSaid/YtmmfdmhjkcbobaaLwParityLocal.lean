import Derived.Test.YtmmfdmhjkcbobaaWpM
import Derived.Test.YtmmfdmhjkcbobaaWpN
import Derived.Test.YtmmfdmhjkcbobaaPhA
import Derived.Test.YtmmfdmhjkcbobaaPrG
import Derived.Test.YtmmfdmhjkcbobaaAgB
import Derived.Test.YtmmfdmhjkcbobaaKgA
set_option linter.unusedSimpArgs false
set_option linter.unusedVariables false
set_option maxRecDepth 8000
set_option maxHeartbeats 1000000
namespace Go.Par
open Go.Proofs

def obSn (K : List (List Int)) : Ob := ⟨seenK K, 42, 0, true⟩
theorem obSn_cells (K : List (List Int)) : (obSn K).cells = seenK K := rfl
theorem obSn_mk (K K' : List (List Int)) : (⟨seenK K', (obSn K).ty, (obSn K).sz, (obSn K).nn⟩ : Ob) = obSn K' := rfl
def LcH (h : Heap) (w m : Nat) (L : List Nat) (nn : Bool) (K : List (List Int)) : Heap := HL h [(w, obTd (nI L) nn), (m, obSn K)]
section
variable {h : Heap} {w m : Nat} (N : HN h [w, m]) (L : List Nat) (nn : Bool) (K : List (List Int))
include N
theorem LcH.gw : LcH h w m L nn K w = some (obTd (nI L) nn) := HL.at (k := 0) N.nd rfl
theorem LcH.gm : LcH h w m L nn K m = some (obSn K) := HL.at (k := 1) N.nd rfl
theorem LcH.pm (K' : List (List Int)) : upd (LcH h w m L nn K) m (some (obSn K')) = LcH h w m L nn K' := HL.put (k := 1) N.nd rfl
theorem LcH.grow {o' : Nat} (ho : LcH h w m L nn K o' = none) (L' : List Nat) : upd (upd (LcH h w m L nn K) w none) o' (some (obTd (nI L') true)) = LcH h o' m L' true K ∧ HN h [o', m] := by
  obtain ⟨h1, h2⟩ := HL.ren (h0 := h) (A' := obTd (nI L') true) (l := [(w, obTd (nI L) nn), (m, obSn K)]) (k := 0) N rfl ho
  exact ⟨h1, h2⟩
theorem LcH.sub : subH h (LcH h w m L nn K) := HL.sub N
end
def ctB (l : List Int) (x : Int) (y : Nat) : Bool := (l.take y).contains x
theorem ctB_step (l : List Int) (x : Int) {y : Nat} (hy : y < l.length) : ctB l x (y + 1) = (ctB l x y || (l[y] == x)) := by
  unfold ctB
  rw [List.take_succ_eq_append_getElem hy, Bool.eq_iff_iff]
  simp only [List.contains_iff_mem, List.mem_append, List.mem_singleton, Bool.or_eq_true, beq_iff_eq]
  constructor
  · rintro (h | h)
    · exact .inl h
    · exact .inr h.symm
  · rintro (h | h)
    · exact .inl h
    · exact .inr h.symm
structure LcX where
  way : List Nat
  v : Nat
  w : Nat
  nn : Bool

theorem law_ParityLocal (g : G) (hg : g.wide) (P : List Int) (hP : (DK.sl .int).fits P) (q : Int) (_ : DK.fits .int q) (wk : List Int) (_ : (DK.sl .int).fits wk) : Pure Try.prog 8 [g.av, .ro false (ints P), .int .i64 q, .ro false (ints wk)] (.bool true) := by
  have hf := hg.f
  have hPl : P.length ≤ 1152921504606846976 := by
    have : P.length * 8 ≤ reachBytes := hP.1
    unfold reachBytes at this
    omega
  have sH := l15_Heavy g hf P
  have sM := r9_MayPrio g hf P hPl
  have sS := parity_Solve g hf P hPl
  intro h
  refine AC.body Θ_ok Try.func8 rfl rfl (Nat.le_of_ble_eq_true rfl) ?_
  refine AW.seq fun _ k1 => AW.region [] Θ_ok ?_
  simp
  refine k1 _ ?_
  refine AW.seq fun _ k1 => ?_
  by_cases h1 : 0 < heavy15 g P
  · refine AW.seq fun _ k2 => AW.regionAt 3 [] Θ_ok fun B hB => ?_
    simp
    refine sH.use (by simp [G.av]) ?_
    refine hB _ ?_
    clear hB B
    simp [h1]
    refine k2 _ ?_
    refine AW.cond true (by simp [Int.natCast_inj]) (fun _ => ?_) (fun h => by cases h)
    refine AW.seq fun _ kr => AW.region [] Θ_ok ?_
    simp
    refine (l15_awake).use (by simp [G.av]) ?_
    try simp
    refine kr _ (AW.ret ?_)
    simp [Try.f8]
    exact Fin.refl ⟨rfl, rfl⟩
  have h1' := Int.not_lt.1 h1
  by_cases hm : mayP g P = true
  · rw [hm] at sM
    rw [solA, if_pos hm] at sS
    have ok := mayP_ok hm
    have hn := (may_ok ok.m).1
    have hn2 := (may_ok ok.m).2.1
    have hlP := ok.len
    obtain ⟨h300, h60⟩ := heavy15_ok h1
    by_cases hP0 : P.length = 0
    · have hP0' : P = [] := List.length_eq_zero_iff.1 hP0
      have hP0'' : (P.length : Int) = 0 := by omega
      refine AW.seq fun _ k2 => AW.regionAt 3 [] Θ_ok fun B hB => ?_
      simp
      refine sH.use (by simp [G.av]) ?_
      refine hB _ ?_
      clear hB B
      refine vcOps_split 5 fun B hB => ?_
      simp [h1, h1']
      refine sM.use (by simp [G.av]) ?_
      refine hB _ ?_
      clear hB B
      simp [hP0, hP0'']
      refine k2 _ ?_
      refine AW.cond true (by simp [Int.natCast_inj]) (fun _ => ?_) (fun h => by cases h)
      refine AW.seq fun _ kr => AW.region [] Θ_ok ?_
      simp
      refine (l15_awake).use (by simp [G.av]) ?_
      try simp
      refine kr _ (AW.ret ?_)
      simp [Try.f8]
      exact Fin.refl ⟨rfl, rfl⟩
    have z1 : ¬ P = [] := fun e => hP0 (by rw [e]; rfl)
    have z2 : ¬ (P.length : Int) = 0 := by omega
    by_cases hw1 : wk.length < 1
    · have hw1' : (wk.length : Int) < 1 := by omega
      have hw1'' : wk.length = 0 := by omega
      have hw1''' : wk = [] := List.length_eq_zero_iff.1 hw1''
      subst hw1'''
      refine AW.seq fun _ k2 => AW.regionAt 3 [] Θ_ok fun B hB => ?_
      simp
      refine sH.use (by simp [G.av]) ?_
      refine hB _ ?_
      clear hB B
      refine vcOps_split 5 fun B hB => ?_
      simp [h1, h1']
      refine sM.use (by simp [G.av]) ?_
      refine hB _ ?_
      clear hB B
      simp [hP0, z1, z2]
      refine k2 _ ?_
      refine AW.cond true (by simp [Int.natCast_inj]) (fun _ => ?_) (fun h => by cases h)
      refine AW.seq fun _ kr => AW.region [] Θ_ok ?_
      simp
      refine (l15_awake).use (by simp [G.av]) ?_
      try simp
      refine kr _ (AW.ret ?_)
      simp [Try.f8]
      exact Fin.refl ⟨rfl, rfl⟩
    have y1 : ¬ (wk.length : Int) < 1 := by omega
    have y0 : ¬ wk = [] := fun e => hw1 (by rw [e]; decide)
    have y3 : ¬ wk.length = 0 := by omega
    by_cases hw3 : 30 < wk.length
    · have hw3' : (30 : Int) < (wk.length : Int) := by omega
      refine AW.seq fun _ k2 => AW.regionAt 3 [] Θ_ok fun B hB => ?_
      simp
      refine sH.use (by simp [G.av]) ?_
      refine hB _ ?_
      clear hB B
      refine vcOps_split 5 fun B hB => ?_
      simp [h1, h1']
      refine sM.use (by simp [G.av]) ?_
      refine hB _ ?_
      clear hB B
      simp [hP0, z1, z2, y0, y1, y3, hw3, hw3']
      refine k2 _ ?_
      refine AW.cond true (by simp [Int.natCast_inj]) (fun _ => ?_) (fun h => by cases h)
      refine AW.seq fun _ kr => AW.region [] Θ_ok ?_
      simp
      refine (l15_awake).use (by simp [G.av]) ?_
      try simp
      refine kr _ (AW.ret ?_)
      simp [Try.f8]
      exact Fin.refl ⟨rfl, rfl⟩
    have y2 : ¬ (30 : Int) < (wk.length : Int) := by omega
    refine AW.seq fun _ k2 => AW.regionAt 3 [] Θ_ok fun B hB => ?_
    simp
    refine sH.use (by simp [G.av]) ?_
    refine hB _ ?_
    clear hB B
    refine vcOps_split 5 fun B hB => ?_
    simp [h1, h1']
    refine sM.use (by simp [G.av]) ?_
    refine hB _ ?_
    clear hB B
    simp [hP0, z1, z2, y0, y1, y3, hw3, y2]
    refine k2 _ ?_
    refine AW.cond false (by simp [Int.natCast_inj]) (fun h => by cases h) (fun _ => ?_)
    refine AW.skip ?_
    simp
    refine k1 _ ?_
    obtain ⟨v0, hv0, hu1⟩ := mod_nat q (show 0 < P.length by omega) (by omega)
    have hu2 := wrap_u64_nat' (show P.length < 9223372036854775808 by omega)
    refine AW.seq fun _ k1 => AW.region [] Θ_ok ?_
    simp [hu2, hu1, z1, z2]
    refine k1 _ ?_
    have lW : (winL g P).length = g.owner.length := (zfin_spec ok).2.2.1
    have lT : (toL g P).length = g.owner.length := length_tab _ _
    have hwv := solve_win ok (v := v0) (by omega)
    have WN := solve_wn ok hwv
    refine AW.seq fun _ k1 => AW.regionAt 3 [] Θ_ok fun B hB => ?_
    simp
    refine sS.use (by simp [G.av]) ?_
    refine hB _ ?_
    clear hB B
    simp
    refine k1 _ ?_
    have hD0 : v0 < g.owner.length ∧ fI (winL g P) v0 = fI (winL g P) v0 := ⟨by omega, rfl⟩
    have hWv : v0 < (winL g P).length := by omega
    have eW : (winL g P)[v0] = fI (winL g P) v0 := by simp [fI, hWv]
    generalize toL g P = T at *
    obtain ⟨D, hD⟩ : ∃ D : Nat → Prop, D = fun v => v < g.owner.length ∧ fI (winL g P) v = fI (winL g P) v0 := ⟨_, rfl⟩
    have hDn : ∀ v, D v → v < g.owner.length := fun v h => by rw [hD] at h; exact h.1
    have hD1 : D v0 := by rw [hD]; exact hD0
    rw [← hD] at WN
    clear hD hD0
    generalize fI (winL g P) v0 = who at *
    generalize winL g P = W at *
    have htop := fun way v j => LcI.top ok hwv WN (k := wk.length) (way := way) (v := v) (j := j)
    have lP : P.length = W.length := by omega
    have lP' : T.length = W.length := by omega
    refine AW.seq fun _ k1 => ?_
    refine AW.seq fun _ k2 => AW.region [] Θ_ok ?_
    simp [lP, lP']
    refine k2 _ ?_
    refine AW.cond false (by simp [Int.natCast_inj]) (fun h => by cases h) (fun _ => ?_)
    refine AW.skip ?_
    simp
    refine k1 _ ?_
    refine AW.seq fun _ k1 => AW.region [] Θ_ok ?_
    simp [hWv, eW]
    refine k1 _ ?_
    refine AW.seq fun _ k1 => AW.region [] Θ_ok ?_
    simp
    refine fun m hm0 => k1 _ ?_
    refine AW.seq fun _ k1 => AW.region [] Θ_ok ?_
    simp
    refine k1 _ ?_
    refine AW.mine 13 3 1 (by simp) fun w hw => ?_
    have N1 : HN h [m] := (HL.new (l := []) ⟨List.nodup_nil, fun o ho => by cases ho⟩ hm0 : HN h (nms [(m, obSn [])]))
    have N2 : HN h [w, m] := HL.new (l := [(m, obSn [])]) N1 hw
    have k0 : 0 < wk.length := by omega
    refine AW.seq fun _ k1 => ?_
    refine AW.seq fun _ k2 => AW.region [] Θ_ok ?_
    simp
    refine k2 _ ?_
    refine AW.block ?_
    refine AW.loopI (X := LcX) (fun t => HN h [t.w, m] ∧ t.way.length ≤ 1891 ∧ LcI (stE (gE g) (ow g) who (fI T)) D wk.length t.way t.v) (fun t => ⟨193, [(1, .ro false (ints P)), (2, .int .i64 t.v), (3, .ro false (ints wk)), (4, .rop [.ro false (ints g.owner), .ro false (rows g.next)]), (10, .ro true (ints T)), (11, .int .i64 who), (12, .mp m), (13, .mu t.w t.way.length), (81, .int .i64 t.way.length)], LcH h t.w m t.way t.nn (kyL wk.length t.way)⟩) (fun t => 1891 - t.way.length) ⟨[], v0, w, false⟩ ⟨N2, by simp, LcI.init hD1⟩ (GStep.eq (by simp) (subH.refl _)) ?_
    clear N1 N2 hw hm0 hD1 hv0 hu1 eW hWv w
    rintro ⟨way, v, w, nn⟩ ⟨N, hx, I⟩
    simp only at N hx I ⊢
    have hbd := kyL_few k0 I.nd (fun u hu => hDn u (I.d u hu))
    have hbd2 : way.length ≤ 1800 := Nat.le_trans hbd (Nat.le_trans (Nat.mul_le_mul h60 (show wk.length ≤ 30 by omega)) (by decide))
    have hlt : way.length < 1891 := by omega
    have hlt' : (way.length : Int) < 1891 := by omega
    have inc := wrap_succ (show way.length < 9223372036854775807 by omega)
    have gw := LcH.gw N way nn (kyL wk.length way)
    have gm := LcH.gm N way nn (kyL wk.length way)
    have hvn := hDn v I.dv
    have hvx : v < g.next.length := by omega
    have hvT : v < T.length := by omega
    have eo : ow g v = g.owner[v] := by simp [hvn]
    have en : nx g v = g.next[v] := by simp [hvx]
    have eT : fI T v = T[v] := by simp [fI, hvT]
    have hrx := hf.row _ (List.getElem_mem hvx)
    obtain ⟨ph, hph⟩ : ∃ ph, ph = way.length % wk.length := ⟨_, rfl⟩
    have hphl : ph < wk.length := by rw [hph]; exact Nat.mod_lt _ k0
    have hrem : (way.length : Int).tmod (wk.length : Int) = (ph : Int) := by rw [hph]; exact (Int.ofNat_tmod _ _).symm
    have hrem2 : (way.length : Int) % (wk.length : Int) = (ph : Int) := by rw [hph]; exact (Int.natCast_emod _ _).symm
    have hK2 : KeyA Try.prog 43 (.agg [.int .i64 (v : Int), .int .i64 (ph : Int)]) := key2 v ph (wf_nat (by omega)) (wf_nat (by omega))
    have hK1 := seen_keys (Q := Try.prog) (kt := 43) I.nd (fun key hk => by
      obtain ⟨u, j, hu, hj, rfl⟩ := kyL_mem hk
      have := hDn u (I.d u hu)
      exact key2 u _ (wf_nat (by omega)) (wf_nat (Nat.lt_of_lt_of_le (Nat.mod_lt _ k0) (by omega))))
    have hKe : keyI (.agg [.int .i64 (v : Int), .int .i64 (ph : Int)]) = some [(v : Int), (ph : Int)] := rfl
    refine AW.seq fun _ k2 => AW.region [] Θ_ok ?_
    simp
    refine k2 _ ?_
    refine AW.seq fun _ k2 => AW.cond true (by simp [Int.natCast_inj, hlt, hlt']) (fun _ => ?_) (fun h => by cases h)
    refine AW.skip ?_
    simp
    refine k2 _ ?_
    refine AW.seq fun _ k2 => ?_
    refine AW.block ?_
    refine AW.seq fun _ k3 => AW.region [] Θ_ok ?_
    simp
    refine k3 _ ?_
    refine AW.seq fun _ k3 => AW.region [] Θ_ok ?_
    simp [hrem, hrem2, y0, y3, z1]
    refine k3 _ ?_
    refine AW.seq fun _ k3 => ?_
    by_cases hin : [(v : Int), (ph : Int)] ∈ kyL wk.length way
    · obtain ⟨j, hj⟩ := List.mem_iff_getElem?.1 hin
      have hLk := seen_look I.nd hj
      obtain ⟨u, hu, hu2⟩ := kyL_get hj
      have : u = v := by omega
      subst this
      have hjl := (List.getElem?_eq_some_iff.1 hu).1
      have jp : (0 : Int) < (j : Int) + 1 := by omega
      obtain ⟨ht1, ht2⟩ := htop way u j I hu
      refine AW.seq fun _ k4 => AW.region [] Θ_ok ?_
      simp [gm, obSn_cells, hK1, hK2, hKe, hLk]
      refine k4 _ ?_
      refine AW.seq fun _ k4 => AW.region [] Θ_ok ?_
      simp [jp]
      refine k4 _ ?_
      refine AW.cond true (by simp [Int.natCast_inj]) (fun _ => ?_) (fun h => by cases h)
      refine AW.seq fun _ k4 => AW.region [] Θ_ok ?_
      simp
      refine k4 _ ?_
      obtain ⟨L, hL⟩ : ∃ L, L = way.drop j := ⟨_, rfl⟩
      have lL : L.length = way.length - j := by rw [hL]; simp
      rw [← hL] at ht1 ht2
      have wj : IntKind.i64.wrap ((j : Int) + 1 - 1) = j := by rw [show (j : Int) + 1 - 1 = (j : Int) by omega]; exact wrap_nat (by omega)
      have wj2 : IntKind.i64.wrap (j : Int) = j := wrap_nat (by omega)
      refine AW.freeze 13 (o := w) (n := way.length) (x := obTd (nI way) nn) false (by simp) gw (fun e => by cases e) rfl (by simp [nI]) (fun u hu => by obtain ⟨z, _, rfl⟩ := List.mem_map.1 hu; rfl) ?_
      have hH : upd (LcH h w m way nn (kyL wk.length way)) w none = HL h [(m, obSn (kyL wk.length way))] := HL.del (h0 := h) (l := [(w, obTd (nI way) nn), (m, obSn (kyL wk.length way))]) (k := 0) N rfl
      have N1 : HN h [m] := ⟨(List.nodup_cons.1 N.1).2, fun o ho => N.2 o (List.mem_cons_of_mem _ ho)⟩
      simp only [hH, obTd_cells]
      have hsub : subH h (HL h [(m, obSn (kyL wk.length way))]) := HL.sub N1
      generalize HL h [(m, obSn (kyL wk.length way))] = HH at *
      have hdr : List.drop j (ints (nI way)) = ints (nI L) := by rw [hL]; simp [nI, ints]
      have hjle : j ≤ way.length := by omega
      refine AW.seq fun _ k5 => ?_
      refine AW.seq fun _ k6 => AW.region [] Θ_ok ?_
      simp [wj, wj2, hjle, hdr]
      refine k6 _ ?_
      refine AW.block ?_
      refine AW.loopI (X := Nat) (fun y => y ≤ L.length) (fun y => ⟨193, [(1, .ro false (ints P)), (11, .int .i64 who), (17, .int .i64 (mxS (fI P) L y)), (98, .ro false (ints (nI L))), (99, .int .i64 L.length), (100, .int .i64 y)], HH⟩) (fun y => L.length - y) 0 (Nat.zero_le _) (GStep.eq (by simp [lL, mxS_zero]) (subH.refl _)) fun y hy => ?_
      refine AW.seq fun _ k6 => AW.region [] Θ_ok ?_
      simp
      refine k6 _ ?_
      by_cases hly : y < L.length
      · have incy := wrap_succ (show y < 9223372036854775807 by omega)
        have st := mxS_step (fI P) L hly
        obtain ⟨u, hu⟩ : ∃ u, L[y] = u := ⟨_, rfl⟩
        have huw : way[j + y]? = some u := by
          rw [← List.getElem?_drop, ← hL, List.getElem?_eq_getElem hly, hu]
        have huP : u < P.length := by
          have := hDn u (I.d u (List.mem_of_getElem? huw)); omega
        have eP : P[u] = fI P u := by simp [fI, huP]
        have hyn : y < (nI L).length := by simp [nI]; exact hly
        have eL : (nI L)[y] = (u : Int) := by simp [nI, hu]
        rw [hu] at st
        refine AW.seq fun _ k6 => AW.cond true (by simp [Int.natCast_inj, hly]) (fun _ => ?_) (fun h => by cases h)
        refine AW.skip ?_
        simp
        refine k6 _ ?_
        refine AW.seq fun _ k6 => ?_
        refine AW.block ?_
        refine AW.seq fun _ k7 => AW.region [] Θ_ok ?_
        simp [hly, eL]
        refine k7 _ ?_
        obtain ⟨pu, hpu⟩ : ∃ pu, fI P u = pu := ⟨_, rfl⟩
        rw [hpu] at eP st
        refine AW.region [] Θ_ok ?_
        simp [huP, eP]
        refine k6 _ ?_
        refine AW.region [] Θ_ok ?_
        simp
        exact ⟨y + 1, by omega, by omega, GStep.eq (by simp [incy, st]) (subH.refl _)⟩
      · obtain rfl : y = L.length := by omega
        generalize mxS (fI P) L L.length = mo at *
        refine AW.seq fun _ k6 => AW.cond false (by simp [Int.natCast_inj]) (fun h => by cases h) (fun _ => ?_)
        refine AW.exit ?_
        simp
        refine k5 _ ?_
        rcases hwv with rfl | rfl
        · have ht3 : mo.tmod 2 = 1 := ht1
          have ht4 : mo % 2 = 1 := by rw [← ht3]; exact (Int.tmod_eq_emod_of_nonneg ht2).symm
          refine AW.seq fun _ kr => AW.regionAt 8 [] Θ_ok fun B hB => ?_
          simp [ht3, ht4]
          refine l15_awake.use (by simp) ?_
          refine hB _ ?_
          clear hB B
          simp
          refine kr _ (AW.ret ?_)
          simp [Try.f8]
          exact Fin.gv (GV.sub hsub) (Fin.refl ⟨rfl, rfl⟩)
        · have ht3 : mo.tmod 2 = 0 := ht1
          have ht4 : mo % 2 = 0 := by rw [← ht3]; exact (Int.tmod_eq_emod_of_nonneg ht2).symm
          refine AW.seq fun _ kr => AW.regionAt 8 [] Θ_ok fun B hB => ?_
          simp [ht3, ht4]
          refine l15_awake.use (by simp) ?_
          refine hB _ ?_
          clear hB B
          simp
          refine kr _ (AW.ret ?_)
          simp [Try.f8]
          exact Fin.gv (GV.sub hsub) (Fin.refl ⟨rfl, rfl⟩)
    · have hLk := seen_look_no hin
      refine AW.seq fun _ k4 => AW.region [] Θ_ok ?_
      simp [gm, obSn_cells, hK1, hK2, hKe, hLk]
      refine k4 _ ?_
      refine AW.seq fun _ k4 => AW.region [] Θ_ok ?_
      simp
      refine k4 _ ?_
      refine AW.cond false (by simp [Int.natCast_inj]) (fun h => by cases h) (fun _ => ?_)
      refine AW.skip ?_
      simp
      refine k3 _ ?_
      have hin' : [(v : Int), ((way.length % wk.length : Nat) : Int)] ∉ kyL wk.length way := by rw [← hph]; exact hin
      have hput := seen_put hin
      rw [kyL_len] at hput
      have hsn := kyL_snoc wk.length way v
      rw [← hph] at hsn
      rw [← hsn] at hput
      have hput2 : putM (.agg [.int .i64 (v : Int), .int .i64 (ph : Int)]) (.int .i64 ((way.length : Int) + 1)) (seenK (kyL wk.length way)) = seenK (kyL wk.length (way ++ [v])) := hput
      have pm := LcH.pm N way nn (kyL wk.length way) (kyL wk.length (way ++ [v]))
      have inc' := inc
      obtain ⟨K2, hK22⟩ : ∃ K2, K2 = kyL wk.length (way ++ [v]) := ⟨_, rfl⟩
      rw [← hK22] at hput2 pm
      have gw2 := LcH.gw N way nn K2
      refine AW.seq fun _ k3 => AW.region [] Θ_ok ?_
      simp [gm, obSn_cells, hK1, hK2, hput2, inc, obSn_mk, pm]
      refine k3 _ ?_
      refine AW.seq fun _ k3 => AW.region [] Θ_ok ?_
      simp [gw2, appendA]
      refine ⟨rfl, ⟨by omega, by omega⟩, fun w2 hw2 => k3 _ ?_⟩
      obtain ⟨he, N2⟩ := LcH.grow N way nn K2 hw2 (way ++ [v])
      rw [nI_snoc] at he
      rw [obTd_snocK _ _ _ (by simp [nI]), he, hK22]
      clear he hw2 pm gw2 hput2 hput hK22 gw gm hK1 hLk K2
      have hsub := LcH.sub N2 (way ++ [v]) true (kyL wk.length (way ++ [v]))
      have lw2 : (way ++ [v]).length = way.length + 1 := by simp
      obtain ⟨way2, hway2⟩ : ∃ way2, way2 = way ++ [v] := ⟨_, rfl⟩
      rw [← hway2] at hsub lw2 ⊢
      have hgo : ∀ u : Nat, gE g v u → (ow g v = who → fI T v = u) → D u → HN h [w2, m] ∧ way2.length ≤ 1891 ∧ LcI (stE (gE g) (ow g) who (fI T)) D wk.length way2 u := fun u h1 h2 h3 =>
        ⟨N2, by omega, by rw [hway2]; exact I.go hin' ⟨h1, h2⟩ h3⟩
      have hown := WN.own v I.dv
      have hopp := WN.opp v I.dv
      rw [eo] at hown hopp hgo
      rw [eT] at hown hgo
      have hE : ∀ u : Nat, gE g v u ↔ (u : Int) ∈ g.next[v] := fun u => by unfold gE; rw [en]
      simp only [hE] at hown hopp hgo
      obtain ⟨l, hl⟩ : ∃ l, g.next[v] = l := ⟨_, rfl⟩
      obtain ⟨ov, hov⟩ : ∃ ov, g.owner[v] = ov := ⟨_, rfl⟩
      obtain ⟨tv, htv⟩ : ∃ tv, T[v] = tv := ⟨_, rfl⟩
      have hlw : ∀ x ∈ l, ∃ u : Nat, x = u := fun x hx => by
        have := ((may_row ok.m hvn hvx).2 x (by rw [hl]; exact hx)).1
        exact ⟨x.toNat, by omega⟩
      rw [hl] at hown hopp hgo hrx
      rw [hov] at hown hopp hgo
      rw [htv] at hown hgo
      refine AW.seq fun _ k3 => AW.region [] Θ_ok ?_
      simp [hvx, hl]
      refine k3 _ ?_
      refine AW.seq fun _ k3 => ?_
      by_cases hl0 : l = []
      · have hl0' : l.length = 0 := by rw [hl0]; rfl
        have hne : ¬ ov = who := fun q => by
          obtain ⟨u, _, h2, _⟩ := hown q
          rw [hl0] at h2; cases h2
        refine AW.seq fun _ k4 => AW.region [] Θ_ok ?_
        simp [hl0', hl0]
        refine k4 _ ?_
        refine AW.cond true (by simp [Int.natCast_inj]) (fun _ => ?_) (fun h => by cases h)
        refine AW.seq fun _ kr => AW.regionAt 9 [] Θ_ok fun B hB => ?_
        simp [hvn, hov, hne]
        refine l15_awake.use (by simp) ?_
        refine hB _ ?_
        clear hB B
        simp [hne]
        refine kr _ (AW.ret ?_)
        simp [Try.f8]
        exact Fin.gv (GV.sub hsub) (Fin.refl ⟨rfl, rfl⟩)
      · have hl1 : 0 < l.length := List.length_pos_iff.2 hl0
        have hl1' : ¬ l.length = 0 := by omega
        have hl1'' : ¬ (l.length : Int) = 0 := by omega
        obtain ⟨i0, hi0, hu1⟩ := mod_nat wk[ph] hl1 (by omega)
        have hu2 := wrap_u64_nat' (show l.length < 9223372036854775808 by omega)
        refine AW.seq fun _ k4 => AW.region [] Θ_ok ?_
        simp [hl1', hl0]
        refine k4 _ ?_
        refine AW.cond false (by simp [Int.natCast_inj, hl0, hl1']) (fun h => by cases h) (fun _ => ?_)
        refine AW.skip ?_
        simp
        refine k3 _ ?_
        refine AW.seq fun _ k3 => AW.region [] Θ_ok ?_
        simp [hphl, hu2, hu1, hl0, hl1'', hi0]
        refine k3 _ ?_
        refine AW.seq fun _ k3 => ?_
        by_cases ho : ov = who
        · obtain ⟨u, hu1, hu2, hu3⟩ := hown ho
          have hres := hgo u hu2 (fun _ => hu1) hu3
          obtain ⟨HH, hHH⟩ : ∃ HH, HH = LcH h w2 m way2 true (kyL wk.length way2) := ⟨_, rfl⟩
          rw [← hHH] at hsub ⊢
          refine AW.seq fun _ k4 => AW.region [] Θ_ok ?_
          simp [hvn, hov, ho]
          refine k4 _ ?_
          refine AW.cond true (by simp [Int.natCast_inj]) (fun _ => ?_) (fun h => by cases h)
          refine AW.seq fun _ k4 => AW.region [] Θ_ok ?_
          simp
          refine k4 _ ?_
          refine AW.seqTo ⟨193, [(1, .ro false (ints P)), (2, .int .i64 v), (3, .ro false (ints wk)), (4, .rop [.ro false (ints g.owner), .ro false (rows g.next)]), (10, .ro true (ints T)), (11, .int .i64 who), (12, .mp m), (13, .mu w2 (way.length + 1)), (22, .bool true), (81, .int .i64 way.length)], HH⟩ (fun _ k5 => ?_) ?_
          · refine AW.seq fun _ k6 => AW.region [] Θ_ok ?_
            simp
            refine k6 _ ?_
            refine AW.block ?_
            refine AW.loopI (X := Nat) (fun y => y ≤ l.length) (fun y => ⟨193, [(1, .ro false (ints P)), (2, .int .i64 v), (3, .ro false (ints wk)), (4, .rop [.ro false (ints g.owner), .ro false (rows g.next)]), (10, .ro true (ints T)), (11, .int .i64 who), (12, .mp m), (13, .mu w2 (way.length + 1)), (22, .bool (ctB l tv y)), (81, .int .i64 way.length), (169, .ro false (ints l)), (170, .int .i64 l.length), (171, .int .i64 y)], HH⟩) (fun y => l.length - y) 0 (Nat.zero_le _) (GStep.eq (by simp [ctB]) (subH.refl _)) fun y hy => ?_
            refine AW.seq fun _ k6 => AW.region [] Θ_ok ?_
            simp
            refine k6 _ ?_
            by_cases hly : y < l.length
            · have incy := wrap_succ (show y < 9223372036854775807 by omega)
              have st := ctB_step l tv hly
              obtain ⟨x, hx⟩ : ∃ x, l[y] = x := ⟨_, rfl⟩
              rw [hx] at st
              refine AW.seq fun _ k6 => AW.cond true (by simp [Int.natCast_inj, hly]) (fun _ => ?_) (fun h => by cases h)
              refine AW.skip ?_
              simp
              refine k6 _ ?_
              refine AW.seq fun _ k6 => ?_
              refine AW.block ?_
              refine AW.seq fun _ k7 => AW.region [] Θ_ok ?_
              simp [hly, hx]
              refine k7 _ ?_
              cases hb : ctB l tv y with
              | true =>
                rw [hb, Bool.true_or] at st
                refine AW.region [] Θ_ok ?_
                simp
                refine k6 _ ?_
                refine AW.region [] Θ_ok ?_
                simp
                exact ⟨y + 1, by omega, by omega, GStep.eq (by simp [incy, st]) (subH.refl _)⟩
              | false =>
                rw [hb, Bool.false_or] at st
                refine AW.region [] Θ_ok ?_
                simp [hvT, htv]
                refine k6 _ ?_
                refine AW.region [] Θ_ok ?_
                simp
                exact ⟨y + 1, by omega, by omega, GStep.eq (by simp [incy, st]) (subH.refl _)⟩
            · obtain rfl : y = l.length := by omega
              have ht : ctB l tv l.length = true := by unfold ctB; rw [List.take_length, List.contains_iff_mem, hu1]; exact hu2
              refine AW.seq fun _ k6 => AW.cond false (by simp [Int.natCast_inj]) (fun h => by cases h) (fun _ => ?_)
              refine AW.exit ?_
              simp
              exact k5 _ (GStep.eq (by simp [ht]) (subH.refl _))
          refine AW.seq fun _ k5 => ?_
          refine AW.seq fun _ k6 => AW.region [] Θ_ok ?_
          simp
          refine k6 _ ?_
          refine AW.cond false (by simp [Int.natCast_inj]) (fun h => by cases h) (fun _ => ?_)
          refine AW.skip ?_
          simp
          refine k5 _ ?_
          refine AW.region [] Θ_ok ?_
          simp [hvT, htv]
          refine k3 _ ?_
          refine AW.region [] Θ_ok ?_
          simp
          refine k2 _ ?_
          refine AW.region [] Θ_ok ?_
          simp
          exact ⟨⟨way2, u, w2, true⟩, hres, by simp only; omega, GStep.eq (by simp [inc, lw2, hu1]) (by rw [hHH]; exact subH.refl _)⟩
        · obtain ⟨u, hu⟩ := hlw l[i0] (List.getElem_mem hi0)
          have hul : (u : Int) ∈ l := by rw [← hu]; exact List.getElem_mem hi0
          have hres := hgo u hul (fun q => absurd q ho) (hopp ho u hul)
          refine AW.seq fun _ k4 => AW.region [] Θ_ok ?_
          simp [hvn, hov, ho]
          refine k4 _ ?_
          refine AW.cond false (by simp [Int.natCast_inj, ho]) (fun h => by cases h) (fun _ => ?_)
          refine AW.skip ?_
          simp
          refine k3 _ ?_
          refine AW.region [] Θ_ok ?_
          simp
          refine k2 _ ?_
          refine AW.region [] Θ_ok ?_
          simp
          exact ⟨⟨way2, u, w2, true⟩, hres, by simp only; omega, GStep.eq (by simp [inc, lw2, hu]) (subH.refl _)⟩
  · rw [show mayP g P = false by simpa using hm] at sM
    refine AW.seq fun _ k2 => AW.regionAt 3 [] Θ_ok fun B hB => ?_
    simp
    refine sH.use (by simp [G.av]) ?_
    refine hB _ ?_
    clear hB B
    refine vcOps_split 5 fun B hB => ?_
    simp [h1, h1']
    refine sM.use (by simp [G.av]) ?_
    refine hB _ ?_
    clear hB B
    simp
    refine k2 _ ?_
    refine AW.cond true (by simp [Int.natCast_inj]) (fun _ => ?_) (fun h => by cases h)
    refine AW.seq fun _ kr => AW.region [] Θ_ok ?_
    simp
    refine (l15_awake).use (by simp [G.av]) ?_
    try simp
    refine kr _ (AW.ret ?_)
    simp [Try.f8]
    exact Fin.refl ⟨rfl, rfl⟩
end Go.Par
