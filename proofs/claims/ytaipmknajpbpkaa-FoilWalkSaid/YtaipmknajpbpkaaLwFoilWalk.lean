import Derived.Test.YtaipmknajpbpkaaWpY
import Derived.Test.YtaipmknajpbpkaaWpV
import Derived.Test.YtaipmknajpbpkaaFoA1
import Derived.Test.YtaipmknajpbpkaaFoB1
import Derived.Test.YtaipmknajpbpkaaRgA
import Derived.Test.YtaipmknajpbpkaaCgA
import Derived.Test.YtaipmknajpbpkaaAgB
set_option linter.unusedSimpArgs false
set_option linter.unusedVariables false
set_option maxRecDepth 8000
set_option maxHeartbeats 4000000
namespace Go.Par
open Go.Proofs

theorem stepV_okW {g : G} {A E : List (List Bool)} (h : cgErr g A E = 0) : ∀ v, v ≤ g.owner.length →
    (∀ s ∈ stepV g A E (winL (cgG g A E) (cgP g A E)) (toL (cgG g A E) (cgP g A E)) (kC A E) v, ∃ a b : Nat, s.a = a ∧ a < v ∧ s.b = b ∧ b < kC A E) ∧
    (stepV g A E (winL (cgG g A E) (cgP g A E)) (toL (cgG g A E) (cgP g A E)) (kC A E) v).Pairwise lexS
  | 0, _ => ⟨fun s hs => (by cases hs), List.Pairwise.nil⟩
  | v + 1, hv => by
    obtain ⟨h1, h2⟩ := stepV_okW h v (by omega)
    rw [stepV]
    by_cases c : ow g v = 0 ∧ fI (winL (cgG g A E) (cgP g A E)) (v * kC A E) = 0
    · rw [if_pos c]
      have k1 : ∀ s ∈ stepM A E (toL (cgG g A E) (cgP g A E)) (kC A E) v (kC A E), ∃ a b : Nat, s.a = a ∧ a = v ∧ s.b = b ∧ b < kC A E := by
        intro s hs
        obtain ⟨m, hm, rfl⟩ := mem_tab.1 hs
        exact ⟨v, m, rfl, rfl, rfl, hm⟩
      refine ⟨fun s hs => ?_, List.pairwise_append.2 ⟨h2, ?_, fun s hs t ht => ?_⟩⟩
      · rcases List.mem_append.1 hs with hs | hs
        · obtain ⟨a, b, e1, e2, e3⟩ := h1 s hs
          exact ⟨a, b, e1, by omega, e3⟩
        · obtain ⟨a, b, e1, e2, e3, e4⟩ := k1 s hs
          exact ⟨a, b, e1, by omega, e3, e4⟩
      · rw [List.pairwise_iff_getElem]
        intro i j hi hj hij
        simp only [stepM, getElem_tab]
        exact .inr ⟨rfl, by show ((i : Nat) : Int) < ((j : Nat) : Int); omega⟩
      · obtain ⟨a, b, e1, e2, _⟩ := h1 s hs
        obtain ⟨a', b', e1', e2', _⟩ := k1 t ht
        exact .inl (by rw [e1, e1']; omega)
    · rw [if_neg c, List.append_nil]
      refine ⟨fun s hs => ?_, h2⟩
      obtain ⟨a, b, e1, e2, e3⟩ := h1 s hs
      exact ⟨a, b, e1, by omega, e3⟩

theorem law_FoilWalk (g : G) (hg : g.wide) (la : List (List Bool)) (hA : (DK.sl (.sl .bool)).fits la) (lb : List (List Bool)) (hB : (DK.sl (.sl .bool)).fits lb) (q0 : Int) (_ : DK.fits .int q0) (wk : List Int) (_ : (DK.sl .int).fits wk) :
    Pure Try.prog 10 [g.av, .ro false (bools2 la), .ro false (bools2 lb), .int .i64 q0, .ro false (ints wk)] (.bool true) := by
  have hf := hg.f
  have sH := l18_Heavy g hf la lb (G.wide.rows2 hA) (G.wide.rows2 hB)
  have sS := foil_Steps g hf la lb
  have sG := r9_GR1 g hf la lb
  have sA := l21_awake
  intro h
  refine AC.body Θ_ok Try.func10 rfl rfl (Nat.le_of_ble_eq_true rfl) ?_
  refine AW.seq fun _ k1 => AW.region [] Θ_ok ?_
  simp
  refine k1 _ ?_
  refine AW.seq fun _ k1 => ?_
  by_cases h1 : 0 < heavy18 g la lb
  · refine AW.seq fun _ k2 => AW.regionAt 4 [] Θ_ok fun B hB => ?_
    simp
    refine sH.use (by simp [G.av]) ?_
    refine hB _ ?_
    clear hB B
    simp [h1]
    refine k2 _ ?_
    refine AW.cond true (by simp [Int.natCast_inj]) (fun _ => ?_) (fun h => by cases h)
    refine AW.seq fun _ kr => AW.region [] Θ_ok ?_
    simp
    refine sA.use (by simp) ?_
    refine kr _ (AW.ret ?_)
    simp [Try.f10]
    exact Fin.refl ⟨rfl, rfl⟩
  have h1' := Int.not_lt.1 h1
  by_cases hn0 : g.owner.length = 0
  · have hn0' : g.owner = [] := List.length_eq_zero_iff.1 hn0
    have hn0'' : (g.owner.length : Int) = 0 := by omega
    refine AW.seq fun _ k2 => AW.regionAt 4 [] Θ_ok fun B hB => ?_
    simp
    refine sH.use (by simp [G.av]) ?_
    refine hB _ ?_
    clear hB B
    simp [h1, h1', hn0, hn0', hn0'']
    refine k2 _ ?_
    refine AW.cond true (by simp [Int.natCast_inj]) (fun _ => ?_) (fun h => by cases h)
    refine AW.seq fun _ kr => AW.region [] Θ_ok ?_
    simp
    refine sA.use (by simp) ?_
    refine kr _ (AW.ret ?_)
    simp [Try.f10]
    exact Fin.refl ⟨rfl, rfl⟩
  have hn1 : ¬ g.owner = [] := fun e => hn0 (by rw [e]; rfl)
  have hn2' : ¬ (g.owner.length : Int) = 0 := by omega
  by_cases h16 : 16 < g.owner.length
  · have h16' : (16 : Int) < (g.owner.length : Int) := by omega
    refine AW.seq fun _ k2 => AW.regionAt 4 [] Θ_ok fun B hB => ?_
    simp
    refine sH.use (by simp [G.av]) ?_
    refine hB _ ?_
    clear hB B
    simp [h1, h1', hn0, hn1, hn2', h16, h16']
    refine k2 _ ?_
    refine AW.cond true (by simp [Int.natCast_inj]) (fun _ => ?_) (fun h => by cases h)
    refine AW.seq fun _ kr => AW.region [] Θ_ok ?_
    simp
    refine sA.use (by simp) ?_
    refine kr _ (AW.ret ?_)
    simp [Try.f10]
    exact Fin.refl ⟨rfl, rfl⟩
  have h16' : ¬ (16 : Int) < (g.owner.length : Int) := by omega
  by_cases hw1 : wk.length < 1
  · have hw1'' : wk.length = 0 := by omega
    have hw1''' : wk = [] := List.length_eq_zero_iff.1 hw1''
    subst hw1'''
    refine AW.seq fun _ k2 => AW.regionAt 4 [] Θ_ok fun B hB => ?_
    simp
    refine sH.use (by simp [G.av]) ?_
    refine hB _ ?_
    clear hB B
    simp [h1, h1', hn0, hn1, hn2', h16, h16']
    refine k2 _ ?_
    refine AW.cond true (by simp [Int.natCast_inj]) (fun _ => ?_) (fun h => by cases h)
    refine AW.seq fun _ kr => AW.region [] Θ_ok ?_
    simp
    refine sA.use (by simp) ?_
    refine kr _ (AW.ret ?_)
    simp [Try.f10]
    exact Fin.refl ⟨rfl, rfl⟩
  have y1 : ¬ (wk.length : Int) < 1 := by omega
  have y0 : ¬ wk = [] := fun e => hw1 (by rw [e]; decide)
  have y3 : ¬ wk.length = 0 := by omega
  by_cases hw3 : 8 < wk.length
  · have hw3' : (8 : Int) < (wk.length : Int) := by omega
    refine AW.seq fun _ k2 => AW.regionAt 4 [] Θ_ok fun B hB => ?_
    simp
    refine sH.use (by simp [G.av]) ?_
    refine hB _ ?_
    clear hB B
    simp [h1, h1', hn0, hn1, hn2', h16, h16', y0, y1, y3, hw3, hw3']
    refine k2 _ ?_
    refine AW.cond true (by simp [Int.natCast_inj]) (fun _ => ?_) (fun h => by cases h)
    refine AW.seq fun _ kr => AW.region [] Θ_ok ?_
    simp
    refine sA.use (by simp) ?_
    refine kr _ (AW.ret ?_)
    simp [Try.f10]
    exact Fin.refl ⟨rfl, rfl⟩
  have y2 : ¬ (8 : Int) < (wk.length : Int) := by omega
  refine AW.seq fun _ k2 => AW.regionAt 4 [] Θ_ok fun B hB => ?_
  simp
  refine sH.use (by simp [G.av]) ?_
  refine hB _ ?_
  clear hB B
  simp [h1, h1', hn0, hn1, hn2', h16, h16', y0, y1, y3, hw3, y2]
  refine k2 _ ?_
  refine AW.cond false (by simp [Int.natCast_inj, y0, y3]) (fun h => by cases h) (fun _ => ?_)
  refine AW.skip ?_
  simp
  refine k1 _ ?_
  by_cases hE0 : cgErr g la lb = 0
  · have ok := cg_ok hE0
    have hm := ok.m
    have hn := (may_ok hm).1
    have hnn := (may_ok hm).2.1
    rw [foA, if_pos hE0] at sS
    rw [gr1A, if_pos ⟨ok.m, ok.a4, ok.e4⟩] at sG
    have lZ : (solveL g la lb).1.length = g.owner.length := (solve_spec hm la lb).2.1.1
    obtain ⟨K, hK⟩ : ∃ K, K = kC la lb := ⟨_, rfl⟩
    have hK4 : K ≤ 16 := by rw [hK]; exact memsN_le _ _
    have k0' : 0 < K := by rw [hK]; exact ok.k0
    have h40 : g.owner.length ≤ 16 := by omega
    obtain ⟨Z, hZ⟩ : ∃ Z, Z = (solveL g la lb).1 := ⟨_, rfl⟩
    obtain ⟨L, hL⟩ : ∃ L, L = foL g la lb := ⟨_, rfl⟩
    have eLg : L = stepV g la lb (winL (cgG g la lb) (cgP g la lb)) (toL (cgG g la lb) (cgP g la lb)) K g.owner.length := by rw [hL, hK]; rfl
    obtain ⟨hmem, hlex⟩ := stepV_okW hE0 g.owner.length (Nat.le_refl _)
    rw [← hK, ← eLg] at hmem hlex
    rw [← hZ] at sG lZ
    rw [← hL] at sS
    have hLn : L.length ≤ 12000 := by
      have := stepV_len g la lb (winL (cgG g la lb) (cgP g la lb)) (toL (cgG g la lb) (cgP g la lb)) K g.owner.length
      rw [← eLg] at this
      exact Nat.le_trans this (Nat.le_trans (Nat.mul_le_mul h40 hK4) (by decide))
    refine AW.seq fun _ k1 => AW.regionAt 4 [] Θ_ok fun B hB => ?_
    simp
    refine sS.use (by simp [G.av]) ?_
    refine hB _ ?_
    clear hB B
    simp
    refine k1 _ ?_
    refine AW.seq fun _ k1 => AW.regionAt 4 [] Θ_ok fun B hB => ?_
    simp
    refine sG.use (by simp [G.av]) ?_
    refine hB _ ?_
    clear hB B
    simp
    refine k1 _ ?_
    refine AW.seq fun _ k1 => ?_
    refine AW.seq fun _ k2 => AW.region [] Θ_ok ?_
    simp
    refine k2 _ ?_
    refine AW.cond false (by simp [Int.natCast_inj]) (fun h => by cases h) (fun _ => ?_)
    refine AW.skip ?_
    simp
    refine k1 _ ?_
    have hZ0 : 0 < Z.length := by omega
    have z1 : ¬ Z = [] := fun e => by rw [e] at hZ0; simp at hZ0
    have z2 : ¬ (Z.length : Int) = 0 := by omega
    obtain ⟨v0, hv0, hu1⟩ := mod_nat q0 hZ0 (by omega)
    have hu2 := wrap_u64_nat' (show Z.length < 9223372036854775808 by omega)
    refine AW.seq fun _ k1 => AW.region [] Θ_ok ?_
    simp [hu2, hu1, z1, z2]
    refine k1 _ ?_
    have hzv : Z[v0] = hasN Z v0 := by simp [hasN, hv0]
    refine AW.seq fun _ k1 => ?_
    cases hz : hasN Z v0 with
    | true =>
      refine AW.seq fun _ k2 => AW.region [] Θ_ok ?_
      simp [hv0, hzv, hz]
      refine k2 _ ?_
      refine AW.cond true (by simp [Int.natCast_inj]) (fun _ => ?_) (fun h => by cases h)
      refine AW.seq fun _ kr => AW.region [] Θ_ok ?_
      simp
      refine sA.use (by simp) ?_
      refine kr _ (AW.ret ?_)
      simp [Try.f10]
      exact Fin.refl ⟨rfl, rfl⟩
    | false =>
    refine AW.seq fun _ k2 => AW.region [] Θ_ok ?_
    simp [hv0, hzv, hz]
    refine k2 _ ?_
    refine AW.cond false (by simp [Int.natCast_inj]) (fun h => by cases h) (fun _ => ?_)
    refine AW.skip ?_
    simp
    refine k1 _ ?_
    refine AW.seq fun _ k1 => AW.region [] Θ_ok ?_
    simp
    refine fun ms hms0 => k1 _ ?_
    rw [show (⟨[], 46, 0, true⟩ : Ob) = obPm [] from rfl]
    have hk2 : ∀ s ∈ L, KeyA Try.prog 47 (.agg ([s.a, s.b].map (AV.int .i64))) := fun s hs => by
      obtain ⟨a, b, e1, e2, e3, e5⟩ := hmem s hs
      rw [e1, e3]
      exact key2 a b (wf_nat (by omega)) (wf_nat (by omega))
    refine AW.seqTo ⟨232, [(1, .ro false (bools2 la)), (2, .ro false (bools2 lb)), (3, .int .i64 v0), (4, .ro false (ints wk)), (5, .rop [.ro false (ints g.owner), .ro false (rows g.next)]), (15, .mp ms)], upd h ms (some (obPm L))⟩ (fun _ k1 => ?_) ?_
    · have lS : (avS L).length = L.length := by simp [avS]
      refine AW.seq fun _ k2 => AW.region [] Θ_ok ?_
      simp [lS]
      refine k2 _ ?_
      refine AW.block ?_
      refine AW.loopI (X := Nat) (fun x => x ≤ L.length) (fun x => ⟨232, [(1, .ro false (bools2 la)), (2, .ro false (bools2 lb)), (3, .int .i64 v0), (4, .ro false (ints wk)), (5, .rop [.ro false (ints g.owner), .ro false (rows g.next)]), (15, .mp ms), (93, .ro false (avS L)), (94, .int .i64 L.length), (95, .int .i64 x)], upd h ms (some (obPm (L.take x)))⟩) (fun x => L.length - x) 0 (Nat.zero_le _) (GStep.eq (by simp [lS]) (subH.refl _)) fun x hx => ?_
      refine AW.seq fun _ k2 => AW.region [] Θ_ok ?_
      simp
      refine k2 _ ?_
      by_cases hlt : x < L.length
      · have inc := wrap_succ (show x < 9223372036854775807 by omega)
        obtain ⟨s, hs⟩ : ∃ s, L[x] = s := ⟨_, rfl⟩
        have gx : (avS L)[x]'(by omega) = .agg s.l := by simp [avS, hs]
        have hltS : x < (avS L).length := by omega
        have htk : L.take (x + 1) = L.take x ++ [s] := by rw [List.take_succ_eq_append_getElem hlt, hs]
        have hlx : (L.take x ++ [s]).Pairwise lexS := by rw [← htk]; exact hlex.sublist (List.take_sublist _ _)
        have hlx0 : (L.take x).Pairwise lexS := hlex.sublist (List.take_sublist _ _)
        have hK1 := stp_keys (Q := Try.prog) (kt := 47) hlx0 fun t ht => hk2 t (List.mem_of_mem_take ht)
        have hK2 := hk2 s (by rw [← hs]; exact List.getElem_mem hlt)
        have hput := stp_put hlx
        rw [← htk] at hput
        simp only [List.map_cons, List.map_nil, S4.l] at hK2 hput gx
        have gms : upd h ms (some (obPm (L.take x))) ms = some (obPm (L.take x)) := upd_same _ _ _
        refine AW.seq fun _ k2 => AW.cond true (by simp [Int.natCast_inj, hlt]) (fun _ => ?_) (fun h => by cases h)
        refine AW.skip ?_
        simp
        refine k2 _ ?_
        refine AW.seq fun _ k2 => ?_
        refine AW.block ?_
        refine AW.seq fun _ k3 => AW.region [17] Θ_ok ?_
        simp [newA, hltS, gx]
        refine fun o ho => k3 _ ?_
        refine AW.box 17 rfl (upd_same _ _ _) ?_
        simp only [upd_upd_none ho]
        refine AW.region [] Θ_ok ?_
        simp [gms, obPm_cells, hK1, hK2, hput, obPm_mk]
        refine k2 _ ?_
        refine AW.region [] Θ_ok ?_
        simp
        exact ⟨x + 1, by omega, by omega, GStep.eq (by simp [inc]) (subH.refl _)⟩
      · obtain rfl : x = L.length := by omega
        refine AW.seq fun _ k2 => AW.cond false (by simp [Int.natCast_inj]) (fun h => by cases h) (fun _ => ?_)
        refine AW.exit ?_
        simp
        exact k1 _ (GStep.eq (by simp) (subH.refl _))
    have hs1 : subH h (upd h ms (some (obPm L))) := fun y z hy => by
      have : y ≠ ms := fun e => by rw [e, hms0] at hy; cases hy
      rw [upd_ne _ _ this]; exact hy
    have gms : upd h ms (some (obPm L)) ms = some (obPm L) := upd_same _ _ _
    obtain ⟨H1, hH1⟩ : ∃ H1, H1 = upd h ms (some (obPm L)) := ⟨_, rfl⟩
    rw [← hH1] at hs1 gms ⊢
    have hs1' := hs1
    have hKs := stp_keys (Q := Try.prog) (kt := 47) hlex hk2
    have hwalk := fun sts p j I hj => walk_foil (A := la) (E := lb) (k := wk.length) (sts := sts) (p := p) (j := j) hE0 I hj
    have hnK : g.owner.length * K ≤ 256 := Nat.le_trans (Nat.mul_le_mul h40 hK4) (by decide)
    have hSd : ∀ p, flS g la lb p ↔ p < g.owner.length * K ∧ fI (winL (cgG g la lb) (cgP g la lb)) p = 0 := fun p => by rw [hK]; exact Iff.rfl
    have hOw := fun p (hp : flS g la lb p) => fl_own hE0 hp
    have hOp := fun p w (hp : flS g la lb p) => fl_opp hE0 (w := w) hp
    have hWv := fun v (hv : v < g.owner.length) => win_zp hE0 (p := v * kC la lb) (cg_lt hE0 (mem := 0) hv (by rw [← hK]; exact k0'))
    have hTh := fun v mem (hv : v < g.owner.length) => fo_then hE0 (mem := mem) hv
    rw [← hK] at hwalk
    simp only [← hK, ← hZ] at hOw hOp hWv hTh
    have hS0 : flS g la lb (v0 * K) := (hSd _).2 ⟨by
      have : (v0 + 1) * K ≤ g.owner.length * K := Nat.mul_le_mul_right _ (by omega)
      rw [Nat.add_mul] at this; omega, (hWv v0 (by omega)).2 (by show hasN Z (v0 * K / kC la lb) = false; rw [← hK, Nat.mul_div_cancel _ k0']; exact hz)⟩
    refine AW.seq fun _ k1 => AW.region [] Θ_ok ?_
    simp
    refine fun m hm0 => k1 _ ?_
    rw [show (⟨[], 48, 0, true⟩ : Ob) = obS3 [] from rfl]
    refine AW.seq fun _ k1 => AW.region [] Θ_ok ?_
    simp
    refine k1 _ ?_
    refine AW.seq fun _ k1 => AW.region [] Θ_ok ?_
    simp
    refine k1 _ ?_
    refine AW.mine 19 3 1 (by simp) fun w hw => ?_
    have N1 : HN H1 [m] := (HL.new (l := []) ⟨List.nodup_nil, fun o ho => by cases ho⟩ hm0 : HN H1 (nms [(m, obS3 [])]))
    have N2 : HN H1 [w, m] := HL.new (l := [(m, obS3 [])]) N1 hw
    have k0 : 0 < wk.length := by omega
    refine AW.seq fun _ k1 => ?_
    refine AW.seq fun _ k2 => AW.region [] Θ_ok ?_
    simp
    refine k2 _ ?_
    refine AW.block ?_
    refine AW.loopI (X := WkX) (fun t => HN H1 [t.w, m] ∧ t.sts.length ≤ 2049 ∧ WkI (flX g la lb) (flS g la lb) K wk.length t.sts t.p) (fun t => ⟨232, [(1, .ro false (bools2 la)), (2, .ro false (bools2 lb)), (3, .int .i64 (t.p / K : Nat)), (4, .ro false (ints wk)), (5, .rop [.ro false (ints g.owner), .ro false (rows g.next)]), (15, .mp ms), (18, .mp m), (19, .mu t.w t.sts.length), (20, .int .i64 (t.p % K : Nat)), (108, .int .i64 t.sts.length)], WkH H1 t.w m (t.sts.map (· / K)) t.nn (ky3 K wk.length t.sts)⟩) (fun t => 2049 - t.sts.length) ⟨[], v0 * K, w, false⟩ ⟨N2, by simp, WkI.init hS0⟩ (GStep.eq (by simp [k0']) (subH.refl _)) ?_
    clear N1 N2 hw hm0 hS0 hv0 hu1 hz hzv hs1 w
    rintro ⟨sts, p, w, nn⟩ ⟨N, hx, I⟩
    simp only at N hx I ⊢
    have hbd := ky3_few k0 I.nd (fun u hu => ((hSd u).1 (I.s u hu)).1)
    have hbd2 : sts.length ≤ 2048 := Nat.le_trans hbd (Nat.le_trans (Nat.mul_le_mul hnK (show wk.length ≤ 8 by omega)) (by decide))
    have hlt : sts.length < 2049 := by omega
    have hlt' : (sts.length : Int) < 2049 := by omega
    have inc := wrap_succ (show sts.length < 9223372036854775807 by omega)
    have lway : (sts.map (· / K)).length = sts.length := by simp
    have gw := WkH.gw N (sts.map (· / K)) nn (ky3 K wk.length sts)
    have gm := WkH.gm N (sts.map (· / K)) nn (ky3 K wk.length sts)
    obtain ⟨hpn, hzp⟩ := (hSd p).1 I.sp
    have hOwp := hOw p I.sp
    have hOpp := fun w => hOp p w I.sp
    obtain ⟨v, hv⟩ : ∃ v, v = p / K := ⟨_, rfl⟩
    obtain ⟨mem, hme⟩ : ∃ mem, mem = p % K := ⟨_, rfl⟩
    have hvn : v < g.owner.length := by rw [hv]; exact Nat.div_lt_of_lt_mul (by rw [Nat.mul_comm]; exact hpn)
    have hmK : mem < K := by rw [hme]; exact Nat.mod_lt _ k0'
    have hvx : v < g.next.length := by omega
    have eo : ow g v = g.owner[v] := by simp [hvn]
    have en : nx g v = g.next[v] := by simp [hvx]
    have hrx := hf.row _ (List.getElem_mem hvx)
    obtain ⟨ph, hph⟩ : ∃ ph, ph = sts.length % wk.length := ⟨_, rfl⟩
    have hphl : ph < wk.length := by rw [hph]; exact Nat.mod_lt _ k0
    have hrem : (sts.length : Int).tmod (wk.length : Int) = (ph : Int) := by rw [hph]; exact (Int.ofNat_tmod _ _).symm
    have hrem2 : (sts.length : Int) % (wk.length : Int) = (ph : Int) := by rw [hph]; exact (Int.natCast_emod _ _).symm
    have hK2 : KeyA Try.prog 49 (.agg [.int .i64 (v : Int), .int .i64 (mem : Int), .int .i64 (ph : Int)]) := key3 v mem ph (wf_nat (by omega)) (wf_nat (by omega)) (wf_nat (by omega))
    have hK1 := seen_keys (Q := Try.prog) (kt := 49) I.nd (fun key hk => by
      obtain ⟨u, j, hu, hj, rfl⟩ := ky3_mem hk
      have h1 := ((hSd u).1 (I.s u hu)).1
      have h2 : u / K < g.owner.length := Nat.div_lt_of_lt_mul (by rw [Nat.mul_comm]; exact h1)
      have h3 : u % K < K := Nat.mod_lt _ k0'
      have h4 : j % wk.length < wk.length := Nat.mod_lt _ k0
      exact key3 _ _ _ (wf_nat (by omega)) (wf_nat (by omega)) (wf_nat (by omega)))
    have hKe : keyI (.agg [.int .i64 (v : Int), .int .i64 (mem : Int), .int .i64 (ph : Int)]) = some [(v : Int), (mem : Int), (ph : Int)] := rfl
    have gmsW := WkH.sub N (sts.map (· / K)) nn (ky3 K wk.length sts) ms _ gms
    rw [← hv, ← hme]
    refine AW.seq fun _ k2 => AW.region [] Θ_ok ?_
    simp
    refine k2 _ ?_
    refine AW.seq fun _ k2 => AW.cond true (by simp [Int.natCast_inj, hlt, hlt']) (fun _ => ?_) (fun h => by cases h)
    refine AW.skip ?_
    simp
    refine k2 _ ?_
    refine AW.seq fun _ k2 => ?_
    refine AW.block ?_
    refine AW.seq fun _ k3 => AW.region [] Θ_ok ?_
    simp
    refine k3 _ ?_
    refine AW.seq fun _ k3 => AW.region [] Θ_ok ?_
    simp [hrem, hrem2, y0, y3]
    refine k3 _ ?_
    refine AW.seq fun _ k3 => ?_
    by_cases hin : [(v : Int), (mem : Int), (ph : Int)] ∈ ky3 K wk.length sts
    · obtain ⟨j, hj⟩ := List.mem_iff_getElem?.1 hin
      have hLk := seen_look I.nd hj
      rw [hv, hme] at hj
      have hu := ky3_get hj
      have hjl := (List.getElem?_eq_some_iff.1 hu).1
      have jp : (0 : Int) < (j : Int) + 1 := by omega
      have ht1 := hwalk sts p j I hu
      refine AW.seq fun _ k4 => AW.region [] Θ_ok ?_
      simp [gm, obS3_cells, hK1, hK2, hKe, hLk]
      refine k4 _ ?_
      refine AW.seq fun _ k4 => AW.region [] Θ_ok ?_
      simp [jp]
      refine k4 _ ?_
      refine AW.cond true (by simp [Int.natCast_inj]) (fun _ => ?_) (fun h => by cases h)
      obtain ⟨L2, hL2⟩ : ∃ L2, L2 = (sts.drop j).map (· / K) := ⟨_, rfl⟩
      rw [← hL2] at ht1
      have wj : IntKind.i64.wrap ((j : Int) + 1 - 1) = j := by rw [show (j : Int) + 1 - 1 = (j : Int) by omega]; exact wrap_nat (by omega)
      have wj2 : IntKind.i64.wrap (j : Int) = j := wrap_nat (by omega)
      refine AW.freeze 19 (o := w) (n := sts.length) (x := obTd (nI (sts.map (· / K))) nn) false (by simp) gw (fun e => by cases e) rfl (by simp [nI]) (fun u hu => by obtain ⟨z, _, rfl⟩ := List.mem_map.1 hu; rfl) ?_
      obtain ⟨hH, N1⟩ := WkH.drop N (sts.map (· / K)) nn (ky3 K wk.length sts)
      simp only [hH, obTd_cells]
      have hsub : subH h (HL H1 [(m, obS3 (ky3 K wk.length sts))]) := fun y z hy => HL.sub N1 y z (hs1' y z hy)
      generalize HL H1 [(m, obS3 (ky3 K wk.length sts))] = HH at *
      have hdr : List.drop j (ints (nI (sts.map (· / K)))) = ints (nI L2) := by rw [hL2]; simp [nI, ints]
      have hjle : j ≤ sts.length := by omega
      have lL2 : L2.length ≤ 2048 := by rw [hL2]; simp; omega
      have sMa := l21_meets la (G.wide.rows2 hA) L2 (by omega)
      have sMb := l21_meets lb (G.wide.rows2 hB) L2 (by omega)
      obtain ⟨hma, hmb⟩ := ht1
      rw [hma] at sMa
      rw [hmb] at sMb
      have hlb : 0 < lb.length := by
        rcases Nat.eq_zero_or_pos lb.length with e | e
        · rw [List.length_eq_zero_iff.1 e] at hmb; exact absurd hmb (by simp [mtB])
        · exact e
      have hlb' : (0 : Int) < (lb.length : Int) := by omega
      refine AW.seq fun _ kr => AW.regionAt 6 [] Θ_ok fun B hB => ?_
      simp [wj, wj2, hjle, hdr]
      refine sMa.use (by simp) ?_
      refine hB _ ?_
      clear hB B
      refine vcOps_split 12 fun B hB => ?_
      simp [wj, wj2, hjle, hdr, hlb, hlb']
      refine sMb.use (by simp) ?_
      refine hB _ ?_
      clear hB B
      refine vcOps_split 4 fun B hB => ?_
      simp
      refine sA.use (by simp) ?_
      refine hB _ ?_
      clear hB B
      simp
      refine kr _ (AW.ret ?_)
      simp [Try.f10]
      exact Fin.gv (GV.sub hsub) (Fin.refl ⟨rfl, rfl⟩)
    · have hLk := seen_look_no hin
      refine AW.seq fun _ k4 => AW.region [] Θ_ok ?_
      simp [gm, obS3_cells, hK1, hK2, hKe, hLk]
      refine k4 _ ?_
      refine AW.seq fun _ k4 => AW.region [] Θ_ok ?_
      simp
      refine k4 _ ?_
      refine AW.cond false (by simp [Int.natCast_inj]) (fun h => by cases h) (fun _ => ?_)
      refine AW.skip ?_
      simp
      refine k3 _ ?_
      have hin' : [((p / K : Nat) : Int), ((p % K : Nat) : Int), ((sts.length % wk.length : Nat) : Int)] ∉ ky3 K wk.length sts := by rw [← hph, ← hv, ← hme]; exact hin
      have hput := seen_put hin
      rw [ky3_len] at hput
      have hsn := ky3_snoc K wk.length sts p
      rw [← hph, ← hv, ← hme] at hsn
      rw [← hsn] at hput
      have hput2 : putM (.agg [.int .i64 (v : Int), .int .i64 (mem : Int), .int .i64 (ph : Int)]) (.int .i64 ((sts.length : Int) + 1)) (seenK (ky3 K wk.length sts)) = seenK (ky3 K wk.length (sts ++ [p])) := hput
      have pm := WkH.pm N (sts.map (· / K)) nn (ky3 K wk.length sts) (ky3 K wk.length (sts ++ [p]))
      obtain ⟨Kx, hKx⟩ : ∃ Kx, Kx = ky3 K wk.length (sts ++ [p]) := ⟨_, rfl⟩
      rw [← hKx] at hput2 pm
      have gw2 := WkH.gw N (sts.map (· / K)) nn Kx
      refine AW.seq fun _ k3 => AW.region [] Θ_ok ?_
      simp [gm, obS3_cells, hK1, hK2, hput2, inc, obS3_mk, pm]
      refine k3 _ ?_
      refine AW.seq fun _ k3 => AW.region [] Θ_ok ?_
      simp [gw2, appendA]
      refine ⟨rfl, ⟨by omega, by omega⟩, fun w2 hw2 => k3 _ ?_⟩
      obtain ⟨he, N2⟩ := WkH.grow N (sts.map (· / K)) nn Kx hw2 (sts.map (· / K) ++ [v])
      rw [nI_snoc] at he
      have emap : (sts ++ [p]).map (· / K) = sts.map (· / K) ++ [v] := by simp [hv]
      rw [obTd_snocK _ _ _ (by simp [nI]), he, ← emap, hKx]
      clear he hw2 pm gw2 hput2 hput hKx gw gm hK1 hLk Kx
      have hsub0 := WkH.sub N2 ((sts ++ [p]).map (· / K)) true (ky3 K wk.length (sts ++ [p]))
      have hsub : subH h (WkH H1 w2 m ((sts ++ [p]).map (· / K)) true (ky3 K wk.length (sts ++ [p]))) := fun y z hy => hsub0 y z (hs1' y z hy)
      have gmsW := hsub0 ms _ gms
      have lw2 : (sts ++ [p]).length = sts.length + 1 := by simp
      obtain ⟨sts2, hsts2⟩ : ∃ sts2, sts2 = sts ++ [p] := ⟨_, rfl⟩
      rw [← hsts2] at hsub lw2 gmsW ⊢
      clear hsub0 emap
      obtain ⟨th, hth⟩ : ∃ th, th = onThen la lb v mem := ⟨_, rfl⟩
      rw [← hv, ← hme, ← hth] at hOwp
      simp only [← hv, ← hme, ← hth] at hOpp
      have hTv := hTh v mem hvn hmK
      rw [← hth] at hTv
      have sT := r9_FoilThen g hf la lb v mem
      rw [hTv] at sT
      have hgo : ∀ q : Nat, flX g la lb p q → flS g la lb q → HN H1 [w2, m] ∧ sts2.length ≤ 2049 ∧ WkI (flX g la lb) (flS g la lb) K wk.length sts2 q := fun q h1 h2 => ⟨N2, by omega, by rw [hsts2]; exact I.go hin' h1 h2⟩
      have hcas := ow_ok hm hvn
      have hthK : th < K := by rw [hth, hv, hme, hK]; exact cg_then hE0
      have hwv0 : fI (winL (cgG g la lb) (cgP g la lb)) (v * K) = 0 := by
        have h1 := (win_zp hE0 (p := p) (by rw [← hK]; exact hpn)).1 hzp
        have h2 : hasN Z v = false := by rw [hv, hZ, hK]; exact h1
        refine (hWv v hvn).2 ?_
        show hasN Z (v * K / kC la lb) = false
        rw [← hK, Nat.mul_div_cancel _ k0']; exact h2
      have hget : ow g v = 0 → ∃ j0 : Nat, L[j0]? = some ⟨(v : Nat), (mem : Nat), ((fI (toL (cgG g la lb) (cgP g la lb)) p).toNat / K : Nat), (th : Nat)⟩ := fun q => by
        refine ⟨(stepV g la lb (winL (cgG g la lb) (cgP g la lb)) (toL (cgG g la lb) (cgP g la lb)) K v).length + mem, ?_⟩
        have := stepV_get (A := la) (E := lb) (W := winL (cgG g la lb) (cgP g la lb)) (T := toL (cgG g la lb) (cgP g la lb)) (K := K) (m := mem) ⟨q, hwv0⟩ hmK g.owner.length hvn
        rw [← eLg, ← hth] at this
        have ep : v * K + mem = p := by rw [hv, hme, Nat.mul_comm]; exact Nat.div_add_mod p K
        rw [ep] at this; exact this
      rw [eo] at hOwp hcas hget
      simp only [eo] at hOpp
      have hE : ∀ u : Nat, gE g v u ↔ (u : Int) ∈ g.next[v] := fun u => by unfold gE; rw [en]
      simp only [hE] at hOwp hOpp
      obtain ⟨l, hl⟩ : ∃ l, g.next[v] = l := ⟨_, rfl⟩
      obtain ⟨ov, hov⟩ : ∃ ov, g.owner[v] = ov := ⟨_, rfl⟩
      have hlw : ∀ x ∈ l, ∃ u : Nat, x = u := fun x hx => by
        have := ((may_row hm hvn hvx).2 x (by rw [hl]; exact hx)).1
        exact ⟨x.toNat, by omega⟩
      rw [hl] at hOwp hrx
      simp only [hl, hov] at hOpp
      rw [hov] at hOwp hcas hget
      refine AW.seq fun _ k3 => AW.region [] Θ_ok ?_
      simp [hvx, hl]
      refine k3 _ ?_
      refine AW.seq fun _ k3 => ?_
      by_cases hl0 : l = []
      · have hl0' : l.length = 0 := by rw [hl0]; rfl
        have hne : ov = 1 := by
          rcases hcas with q | q
          · obtain ⟨u, _, h2, _⟩ := hOwp q
            rw [hl0] at h2; cases h2
          · exact q
        refine AW.seq fun _ k4 => AW.region [] Θ_ok ?_
        simp [hl0', hl0]
        refine k4 _ ?_
        refine AW.cond true (by simp [Int.natCast_inj]) (fun _ => ?_) (fun h => by cases h)
        refine AW.seq fun _ kr => AW.regionAt 9 [] Θ_ok fun B hB => ?_
        simp [hvn, hov, hne]
        refine sA.use (by simp) ?_
        refine hB _ ?_
        clear hB B
        simp
        refine kr _ (AW.ret ?_)
        simp [Try.f10]
        exact Fin.gv (GV.sub hsub) (Fin.refl ⟨rfl, rfl⟩)
      · have hl1 : 0 < l.length := List.length_pos_iff.2 hl0
        have hl1' : ¬ l.length = 0 := by omega
        have hl1'' : ¬ (l.length : Int) = 0 := by omega
        obtain ⟨i0, hi0, hu1⟩ := mod_nat wk[ph] hl1 (by omega)
        have hu2 := wrap_u64_nat' (show l.length < 9223372036854775808 by omega)
        refine AW.seq fun _ k4 => AW.region [] Θ_ok ?_
        simp [hl1', hl0]
        refine k4 _ ?_
        refine AW.cond false (by simp [Int.natCast_inj, hl0, hl1']) (fun h => by cases h) (fun _ => ?_)
        refine AW.skip ?_
        simp
        refine k3 _ ?_
        refine AW.seq fun _ k3 => AW.regionAt 6 [] Θ_ok fun B hB => ?_
        simp
        refine sT.use (by simp [G.av]) ?_
        refine hB _ ?_
        clear hB B
        simp
        refine k3 _ ?_
        refine AW.seq fun _ k3 => AW.region [] Θ_ok ?_
        simp [hphl, hu2, hu1, hl0, hl1'', hi0]
        refine k3 _ ?_
        refine AW.seq fun _ k3 => ?_
        by_cases ho : ov = 0
        · obtain ⟨q, q0, hu2, q2, q3, q4⟩ := hOwp ho
          obtain ⟨u, hu⟩ : ∃ u, u = q / K := ⟨_, rfl⟩
          have hres := hgo q q4 q3
          have q1' : (q : Int) / (K : Int) = (u : Int) := by rw [hu]; exact (Int.natCast_ediv _ _).symm
          have q2' : (q : Int) % (K : Int) = (th : Int) := by rw [← q2]; exact (Int.natCast_emod _ _).symm
          obtain ⟨j0, hj0⟩ := hget ho
          rw [q0, Int.toNat_natCast, ← hu] at hj0
          rw [← hu] at hu2
          have hu1 : (u : Int) = u := rfl
          obtain ⟨tv, htv⟩ : ∃ tv : Int, tv = u := ⟨_, rfl⟩
          rw [← htv] at hj0
          have hLs := stp_look hlex hj0
          simp only [S4.l] at hLs
          have hKk : KeyA Try.prog 47 (.agg [.int .i64 (v : Int), .int .i64 (mem : Int)]) := key2 v mem (wf_nat (by omega)) (wf_nat (by omega))
          have hKf : keyI (.agg [.int .i64 (v : Int), .int .i64 (mem : Int)]) = some [(v : Int), (mem : Int)] := rfl
          obtain ⟨HH, hHH⟩ : ∃ HH, HH = WkH H1 w2 m (sts2.map (· / K)) true (ky3 K wk.length sts2) := ⟨_, rfl⟩
          rw [← hHH] at hsub gmsW ⊢
          refine AW.seq fun _ k4 => AW.region [] Θ_ok ?_
          simp [hvn, hov, ho]
          refine k4 _ ?_
          refine AW.cond true (by simp [Int.natCast_inj]) (fun _ => ?_) (fun h => by cases h)
          refine AW.seq fun _ k4 => AW.region [27] Θ_ok ?_
          simp [newA, gmsW, obPm_cells, hKs, hKk, hKf, hLs]
          refine fun o ho2 => k4 _ ?_
          refine AW.box 27 rfl (upd_same _ _ _) ?_
          simp only [upd_upd_none ho2]
          refine AW.seq fun _ k4 => AW.region [] Θ_ok ?_
          simp
          refine k4 _ ?_
          refine AW.seqTo ⟨232, [(1, .ro false (bools2 la)), (2, .ro false (bools2 lb)), (3, .int .i64 v), (4, .ro false (ints wk)), (5, .rop [.ro false (ints g.owner), .ro false (rows g.next)]), (15, .mp ms), (18, .mp m), (19, .mu w2 (sts.length + 1)), (25, .int .i64 th), (27, .rop [.int .i64 v, .int .i64 mem, .int .i64 tv, .int .i64 th]), (28, .bool true), (108, .int .i64 sts.length)], HH⟩ (fun _ k5 => ?_) ?_
          · refine AW.seq fun _ k6 => AW.region [] Θ_ok ?_
            simp
            refine k6 _ ?_
            refine AW.block ?_
            refine AW.loopI (X := Nat) (fun y => y ≤ l.length) (fun y => ⟨232, [(1, .ro false (bools2 la)), (2, .ro false (bools2 lb)), (3, .int .i64 v), (4, .ro false (ints wk)), (5, .rop [.ro false (ints g.owner), .ro false (rows g.next)]), (15, .mp ms), (18, .mp m), (19, .mu w2 (sts.length + 1)), (25, .int .i64 th), (27, .rop [.int .i64 v, .int .i64 mem, .int .i64 tv, .int .i64 th]), (28, .bool (ctC l tv y)), (108, .int .i64 sts.length), (205, .ro false (ints l)), (206, .int .i64 l.length), (207, .int .i64 y)], HH⟩) (fun y => l.length - y) 0 (Nat.zero_le _) (GStep.eq (by simp [ctC]) (subH.refl _)) fun y hy => ?_
            refine AW.seq fun _ k6 => AW.region [] Θ_ok ?_
            simp
            refine k6 _ ?_
            by_cases hly : y < l.length
            · have incy := wrap_succ (show y < 9223372036854775807 by omega)
              have st := ctC_step l tv hly
              obtain ⟨x, hx⟩ : ∃ x, l[y] = x := ⟨_, rfl⟩
              rw [hx] at st
              refine AW.seq fun _ k6 => AW.cond true (by simp [Int.natCast_inj, hly]) (fun _ => ?_) (fun h => by cases h)
              refine AW.skip ?_
              simp
              refine k6 _ ?_
              refine AW.seq fun _ k6 => ?_
              refine AW.block ?_
              refine AW.seq fun _ k7 => AW.region [] Θ_ok ?_
              simp [hly, hx]
              refine k7 _ ?_
              cases hb : ctC l tv y with
              | true =>
                rw [hb, Bool.true_or] at st
                refine AW.region [] Θ_ok ?_
                simp
                refine k6 _ ?_
                refine AW.region [] Θ_ok ?_
                simp
                exact ⟨y + 1, by omega, by omega, GStep.eq (by simp [incy, st]) (subH.refl _)⟩
              | false =>
                rw [hb, Bool.false_or] at st
                refine AW.region [] Θ_ok ?_
                simp
                refine k6 _ ?_
                refine AW.region [] Θ_ok ?_
                simp
                exact ⟨y + 1, by omega, by omega, GStep.eq (by simp [incy, st]) (subH.refl _)⟩
            · obtain rfl : y = l.length := by omega
              have ht : ctC l tv l.length = true := by unfold ctC; rw [List.take_length, List.contains_iff_mem, htv]; exact hu2
              refine AW.seq fun _ k6 => AW.cond false (by simp [Int.natCast_inj]) (fun h => by cases h) (fun _ => ?_)
              refine AW.exit ?_
              simp
              exact k5 _ (GStep.eq (by simp [ht]) (subH.refl _))
          refine AW.seq fun _ k5 => ?_
          refine AW.seq fun _ k6 => AW.region [] Θ_ok ?_
          simp
          refine k6 _ ?_
          refine AW.cond false (by simp [Int.natCast_inj]) (fun h => by cases h) (fun _ => ?_)
          refine AW.skip ?_
          simp
          refine k5 _ ?_
          refine AW.region [] Θ_ok ?_
          simp
          refine k3 _ ?_
          refine AW.region [] Θ_ok ?_
          simp
          refine k2 _ ?_
          refine AW.region [] Θ_ok ?_
          simp
          exact ⟨⟨sts2, q, w2, true⟩, hres, by simp only; omega, GStep.eq (by simp [inc, lw2, htv, q2, q1', q2']) (by rw [hHH]; exact subH.refl _)⟩
        · obtain ⟨u, hu⟩ := hlw l[i0] (List.getElem_mem hi0)
          have hul : (u : Int) ∈ l := by rw [← hu]; exact List.getElem_mem hi0
          obtain ⟨q, q1, q2, q3, q4⟩ := hOpp u ho hul
          have hres := hgo q q4 q3
          have q1' : (q : Int) / (K : Int) = (u : Int) := by rw [← q1]; exact (Int.natCast_ediv _ _).symm
          have q2' : (q : Int) % (K : Int) = (th : Int) := by rw [← q2]; exact (Int.natCast_emod _ _).symm
          refine AW.seq fun _ k4 => AW.region [] Θ_ok ?_
          simp [hvn, hov, ho]
          refine k4 _ ?_
          refine AW.cond false (by simp [Int.natCast_inj, ho]) (fun h => by cases h) (fun _ => ?_)
          refine AW.skip ?_
          simp
          refine k3 _ ?_
          refine AW.region [] Θ_ok ?_
          simp
          refine k2 _ ?_
          refine AW.region [] Θ_ok ?_
          simp
          exact ⟨⟨sts2, q, w2, true⟩, hres, by simp only; omega, GStep.eq (by simp [inc, lw2, hu, q1, q2, q1', q2']) (subH.refl _)⟩
  · rw [foA, if_neg hE0] at sS
    have hE1 : ¬ (cgErr g la lb : Int) = 0 := hE0
    by_cases hok2 : mayE g = 0 ∧ la.length ≤ 4 ∧ lb.length ≤ 4
    all_goals
      first | rw [gr1A, if_pos hok2] at sG | rw [gr1A, if_neg hok2] at sG
      refine AW.seq fun _ k1 => AW.regionAt 4 [] Θ_ok fun B hB => ?_
      simp
      refine sS.use (by simp [G.av]) ?_
      refine hB _ ?_
      clear hB B
      simp
      refine k1 _ ?_
      refine AW.seq fun _ k1 => AW.regionAt 4 [] Θ_ok fun B hB => ?_
      simp
      refine sG.use (by simp [G.av]) ?_
      refine hB _ ?_
      clear hB B
      simp
      refine k1 _ ?_
      refine AW.seq fun _ k1 => ?_
      refine AW.seq fun _ k2 => AW.region [] Θ_ok ?_
      simp [hE0]
      refine k2 _ ?_
      refine AW.cond true (by simp [Int.natCast_inj, hE0]) (fun _ => ?_) (fun h => by cases h)
      refine AW.seq fun _ kr => AW.region [] Θ_ok ?_
      simp
      refine sA.use (by simp) ?_
      refine kr _ (AW.ret ?_)
      simp [Try.f10]
      exact Fin.refl ⟨rfl, rfl⟩
end Go.Par
