import Derived.Test.YtkpdhglbkmbojaaPlJ
import Derived.Test.YtkpdhglbkmbojaaCnG
set_option linter.unusedSimpArgs false
set_option maxRecDepth 8000
set_option maxHeartbeats 1000000
namespace Go.Par
open Go.Proofs

structure RX where
  a : Nat
  nn : Bool
  x : Nat

def rrO (z x : Nat) : Ob := ⟨tab z fun i => if i < x then .ro true [.int .i64 (((i + 1) % z : Nat) : Int)] else .nils, 23, 1, true⟩
def rrB (z x : Nat) : Ob := ⟨tab z fun i => .bool (decide (i < x)), 4, 1, true⟩
def rrZ (z : Nat) : List AV := ints (tab z fun _ => 0)
def rrQ (z o : Nat) : Ob := ⟨[.ro true (rrZ z), .mu o z], 26, 2, true⟩
def rrA (z x : Nat) (nn : Bool) : Ob := ⟨List.replicate x (.ro true (bools (allT z))), 27, 1, nn⟩
def rrW (z : Nat) : List AV := (rrO z z).cells
theorem rrB_step {z x : Nat} : (rrB z x).cells.set x (.bool true) = (rrB z (x + 1)).cells := by
  simp only [rrB, set_tab]
  refine tab_congr fun i _ => ?_
  by_cases e : i = x
  · subst e; simp
  · by_cases h1 : i < x
    · simp [e, h1, show i < x + 1 by omega]
    · simp [e, h1, show ¬ i < x + 1 by omega]
theorem rrO_step {z x : Nat} : (rrO z x).cells.set x (.ro true [.int .i64 (((x + 1) % z : Nat) : Int)]) = (rrO z (x + 1)).cells := by
  simp only [rrO, set_tab]
  refine tab_congr fun i _ => ?_
  by_cases e : i = x
  · subst e; simp
  · by_cases h1 : i < x
    · simp [e, h1, show i < x + 1 by omega]
    · simp [e, h1, show ¬ i < x + 1 by omega]
theorem rrO_len {z x : Nat} : (rrO z x).cells.length = z := by simp [rrO]
theorem rrB_len {z x : Nat} : (rrB z x).cells.length = z := by simp [rrB]
theorem rrQ_c (z o : Nat) : (rrQ z o).cells = [.ro true (rrZ z), .mu o z] := rfl
def rrR (m z : Nat) : List AV := List.replicate m (.ro true (bools (allT z)))
theorem rrR_weak (m z : Nat) : (rrR m z).map weak = bools2 (List.replicate m (allT z)) := by simp [rrR]
theorem rrA_len {z x : Nat} {nn : Bool} : (rrA z x nn).cells.length = x := by simp [rrA]
theorem rrA_snoc {z x : Nat} {nn : Bool} : (⟨List.take x (rrA z x nn).cells ++ [.ro true (bools (allT z))], 27, 1, true⟩ : Ob) = rrA z (x + 1) true := by
  have e : List.take x (rrA z x nn).cells = (rrA z x nn).cells := List.take_of_length_le (by rw [rrA_len]; exact Nat.le_refl _)
  rw [e]; simp [rrA, List.replicate_succ']

theorem law_CounterRounds (p : Int) (_ : DK.fits .int p) (q : Int) (_ : DK.fits .int q) (s : Int) (_ : DK.fits .int s) : Pure Try.prog 3 [.int .i64 p, .int .i64 q, .int .i64 s] (.bool true) := by
  obtain ⟨m', hm', em⟩ := modN2_nat p (n := 4) (by omega) (by omega)
  obtain ⟨n', hn', en⟩ := modN2_nat q (n := 4) (by omega) (by omega)
  obtain ⟨z', hz', ez⟩ := modN2_nat s (n := 9) (by omega) (by omega)
  unfold modN2 at em en ez
  rw [show ((4 : Nat) : Int) = 4 from rfl] at em en
  rw [show ((9 : Nat) : Int) = 9 from rfl] at ez
  obtain ⟨m, hm⟩ : ∃ m, m = m' + 1 := ⟨_, rfl⟩
  obtain ⟨n, hn⟩ : ∃ n, n = n' + 1 := ⟨_, rfl⟩
  obtain ⟨z, hz⟩ : ∃ z, z = z' + 1 := ⟨_, rfl⟩
  have wm : IntKind.i64.wrap (1 + (m' : Int)) = (m : Int) := by rw [wrap_id (by omega) (by omega)]; omega
  have wn : IntKind.i64.wrap (1 + (n' : Int)) = (n : Int) := by rw [wrap_id (by omega) (by omega)]; omega
  have wz : IntKind.i64.wrap (1 + (z' : Int)) = (z : Int) := by rw [wrap_id (by omega) (by omega)]; omega
  have R : RG m n z := ⟨by omega, by omega, by omega, by omega, by omega, by omega⟩
  clear hm hn hz
  have z9 := R.z9
  have z0 := R.z0
  intro h
  refine AC.body Θ_ok Try.func3 rfl rfl (Nat.le_of_ble_eq_true rfl) ?_
  refine AW.seq fun _ k1 => AW.region [] Θ_ok ?_
  simp
  refine k1 _ ?_
  refine AW.seq fun _ k1 => AW.region [] Θ_ok ?_
  simp [em, en, ez, wm, wn, wz]
  refine k1 _ ?_
  refine AW.seq fun _ k1 => AW.draw [38, 7] 6 [] Θ_ok mixed (by kernel_rfl) (by kernel_rfl) ?_
  simp [vcDraw, vcPre, vcTail, callA, isAlloc, isLoad, effOp, obl, obA, mkOK, valA]
  have hz1 : (replicate_tab z (AV.int .i64 0)) = replicate_tab z (AV.int .i64 0) := rfl
  clear hz1
  rw [replicate_tab, replicate_tab, flat_tab (fun _ _ => rfl)]
  refine ⟨by omega, by omega, ⟨by omega, by omega⟩, fun o ho q hq => k1 _ ?_⟩
  have hQ0 : (tab z fun _ => AV.int .i64 0) = rrZ z := by simp [rrZ]
  rw [hQ0]
  have N1 : HN h [o] := ⟨by simp, fun x hx => by simp at hx; subst hx; exact ho⟩
  have N2 : HN h [q, o] := HL.new (l := [(o, _)]) N1 hq
  have hst : upd (upd h o (some ⟨tab z fun _ => .nils, 23, 1, true⟩)) q (some ⟨[.ro true (rrZ z), .mu o z], 26, 2, true⟩) = HL h [(q, rrQ z o), (o, rrO z 0)] := by
    have : (⟨tab z fun _ => .nils, 23, 1, true⟩ : Ob) = rrO z 0 := by simp [rrO]
    rw [this]; rfl
  rw [hst]
  refine AW.seq fun _ k1 => AW.region [41] Θ_ok ?_
  simp
  refine ⟨by omega, fun b hb => k1 _ ?_⟩
  rw [replicate_tab, flat_tab (fun _ _ => rfl)]
  have N3 : HN h [b, q, o] := HL.new (l := [(q, rrQ z o), (o, rrO z 0)]) N2 hb
  have hst2 : upd (HL h [(q, rrQ z o), (o, rrO z 0)]) b (some ⟨tab z fun _ => .bool false, 4, 1, true⟩) = HL h [(b, rrB z 0), (q, rrQ z o), (o, rrO z 0)] := by
    have : (⟨tab z fun _ => .bool false, 4, 1, true⟩ : Ob) = rrB z 0 := by simp [rrB]
    rw [this]; rfl
  rw [hst2]
  clear hst hst2 N1 N2 ho hq hb hQ0
  refine AW.seq fun _ k1 => ?_
  refine AW.seq fun _ k2 => AW.region [] Θ_ok ?_
  simp
  refine k2 _ ?_
  refine AW.block ?_
  refine AW.loopI (X := Nat) (fun x => x ≤ z) (fun x => ⟨175, [(44, .int .i64 x), (43, .int .i64 z), (0, .int .i64 m), (1, .int .i64 n), (2, .int .i64 z), (7, .ptr q 0), (8, .mu b z)], HL h [(b, rrB z x), (q, rrQ z o), (o, rrO z x)]⟩) (fun x => z - x) 0 (Nat.zero_le _) (GStep.eq (by simp) (subH.refl _)) fun x hx => ?_
  refine AW.seq fun _ k2 => AW.region [] Θ_ok ?_
  simp
  refine k2 _ ?_
  by_cases hlt : x < z
  · have inc := wrap_succ (show x < 9223372036854775807 by omega)
    have hB := HL.at (h0 := h) (l := [(b, rrB z x), (q, rrQ z o), (o, rrO z x)]) (k := 0) N3.nd rfl
    have hQ := HL.at (h0 := h) (l := [(b, rrB z x), (q, rrQ z o), (o, rrO z x)]) (k := 1) N3.nd rfl
    have w1 : IntKind.i64.wrap ((x : Int) + 1) = (x : Int) + 1 := wrap_id (by omega) (by omega)
    have w2 : ((x : Int) + 1).tmod (z : Int) = (((x + 1) % z : Nat) : Int) := by rw [Int.tmod_eq_emod_of_nonneg (by omega)]; simp
    have hz0 : ¬ z = 0 := by omega
    obtain ⟨nx, hnx⟩ : ∃ nx, nx = (x + 1) % z := ⟨_, rfl⟩
    rw [← hnx] at w2
    have w3 : ((x : Int) + 1) % (z : Int) = (nx : Int) := by rw [hnx]; simp
    refine AW.seq fun _ k2 => AW.cond true (by simp [Int.natCast_inj, hlt]) (fun _ => ?_) (fun h => by cases h)
    refine AW.skip ?_
    simp
    refine k2 _ ?_
    refine AW.seq fun _ k2 => ?_
    refine AW.block ?_
    refine AW.seq fun _ k3 => AW.region [] Θ_ok ?_
    simp
    refine k3 _ ?_
    refine AW.draw [] 11 [3] Θ_ok mixed (by kernel_rfl) (by kernel_rfl) ?_
    simp [vcDraw, vcPre, vcTail, callA, isAlloc, isLoad, effOp, obl, obA, mkOK, valA, hB, hQ, rrQ_c, hlt, w1, w2, w3, hz0]
    have hb1 : (⟨(rrB z x).cells.set x (.bool true), (rrB z x).ty, (rrB z x).sz, (rrB z x).nn⟩ : Ob) = rrB z (x + 1) := by rw [rrB_step]; rfl
    have ho1 : (⟨(rrO z x).cells.set x (.ro true [.int .i64 (nx : Int)]), (rrO z x).ty, (rrO z x).sz, (rrO z x).nn⟩ : Ob) = rrO z (x + 1) := by rw [hnx, rrO_step]; rfl
    have P1 : upd _ b (some (rrB z (x + 1))) = _ := HL.put (h0 := h) (l := [(b, rrB z x), (q, rrQ z o), (o, rrO z x)]) (k := 0) N3.nd rfl
    simp only [List.set_cons_zero] at P1
    have hQ1 := HL.at (h0 := h) (l := [(b, rrB z (x + 1)), (q, rrQ z o), (o, rrO z x)]) (k := 1) N3.nd rfl
    have hO1 := HL.at (h0 := h) (l := [(b, rrB z (x + 1)), (q, rrQ z o), (o, rrO z x)]) (k := 2) N3.nd rfl
    have P2 : upd _ o (some (rrO z (x + 1))) = _ := HL.put (h0 := h) (l := [(b, rrB z (x + 1)), (q, rrQ z o), (o, rrO z x)]) (k := 2) N3.nd rfl
    simp only [List.set_cons_succ, List.set_cons_zero] at P2
    have hQ2 := HL.at (h0 := h) (l := [(b, rrB z (x + 1)), (q, rrQ z o), (o, rrO z (x + 1))]) (k := 1) N3.nd rfl
    rw [hb1, P1, hQ1, hO1]
    simp only [rrQ_c, ho1]
    rw [P2, hQ2]
    simp only [rrQ_c]
    refine ⟨by rw [rrB_len]; exact hlt, rfl, ⟨trivial, by rw [rrO_len]; exact hlt⟩, rfl, k2 _ ?_⟩
    refine AW.region [] Θ_ok ?_
    simp
    exact ⟨x + 1, by omega, by omega, GStep.eq (by simp [inc]) (subH.refl _)⟩
  obtain rfl : x = z := by omega
  refine AW.seq fun _ k2 => AW.cond false (by simp [Int.natCast_inj]) (fun h => by cases h) (fun _ => ?_)
  refine AW.exit ?_
  simp
  refine k1 _ ?_
  clear hlt hx
  have oB : ∀ u ∈ (rrB x x).cells, u.flat = [u] := fun u hu => by simp only [rrB] at hu; obtain ⟨_, _, rfl⟩ := mem_tab.1 hu; rfl
  have oO : ∀ u ∈ (rrO x x).cells, u.flat = [u] := fun u hu => by
    simp only [rrO] at hu; obtain ⟨i, hi, rfl⟩ := mem_tab.1 hu; rw [if_pos hi]; rfl
  have cB : (rrB x x).cells = bools (allT x) := by
    simp only [rrB, allT, bools, map_tab]; exact tab_congr fun i hi => by simp [hi]
  have cO : (rrO x x).cells = tab x fun i => .ro true [.int .i64 (((i + 1) % x : Nat) : Int)] := by
    simp only [rrO]; exact tab_congr fun i hi => by simp [hi]
  have hB := HL.at (h0 := h) (l := [(b, rrB x x), (q, rrQ x o), (o, rrO x x)]) (k := 0) N3.nd rfl
  have D1 := HL.del (l := [(b, rrB x x), (q, rrQ x o), (o, rrO x x)]) (k := 0) N3 rfl
  refine AW.freeze 8 true rfl hB (fun _ => rfl) rfl rrB_len oB ?_
  simp only [D1, List.eraseIdx_cons_zero]
  rw [cB]
  have N2 : HN h [q, o] := N3.del 0
  have hQ := HL.at (h0 := h) (l := [(q, rrQ x o), (o, rrO x x)]) (k := 0) N2.nd rfl
  have hO := HL.at (h0 := h) (l := [(q, rrQ x o), (o, rrO x x)]) (k := 1) N2.nd rfl
  have D2 := HL.del (l := [(q, rrQ x o), (o, rrO x x)]) (k := 1) N2 rfl
  refine AW.ghost (GStep.cell (j := 1) (v := .mu o x) (r := .ro true (rrO x x).cells) hQ rfl (GV.freeze (k := true) hO (fun _ => rfl) rrO_len (fun y hy => by rw [oO y hy]; rfl) (by rw [flat_ones oO]; simp [rrO, List.take_of_length_le])) (by rw [D2]; exact upd_same _ _ _) (by simp [rrQ])) ?_
  simp only [D2, List.eraseIdx_cons_succ, List.eraseIdx_cons_zero]
  simp only [HL, upd_upd]
  refine AW.box 7 (x := ⟨[.ro true (rrZ x), .ro true (rrW x)], 26, 2, true⟩) rfl (upd_same _ _ _) ?_
  have hq0 : h q = none := N2.free q (by simp)
  simp only [upd_upd, upd_none_id hq0]
  clear hB D1 D2 hQ hO N2 N3 oB oO cB cO
  refine AW.seq fun _ k1 => AW.region [] Θ_ok ?_
  simp
  refine k1 _ ?_
  refine AW.mine 10 27 1 rfl fun a ha => ?_
  simp only at ha ⊢
  have hA0 : (⟨[], 27, 1, false⟩ : Ob) = rrA x 0 false := by simp [rrA]
  rw [hA0]
  refine AW.seq fun _ k1 => ?_
  refine AW.seq fun _ k2 => AW.region [] Θ_ok ?_
  simp
  refine k2 _ ?_
  refine AW.block ?_
  refine AW.loopI (X := RX) (fun s => h s.a = none ∧ s.x ≤ m) (fun s => ⟨175, [(61, .int .i64 s.x), (60, .int .i64 m), (10, .mu s.a s.x), (0, .int .i64 m), (1, .int .i64 n), (2, .int .i64 x), (7, .rop [.ro true (rrZ x), .ro true (rrW x)]), (8, .ro true (bools (allT x))), (11, .nils)], upd h s.a (some (rrA x s.x s.nn))⟩) (fun s => m - s.x) ⟨a, false, 0⟩ ⟨ha, Nat.zero_le _⟩ (GStep.eq (by simp) (subH.refl _)) ?_
  clear ha a hA0
  rintro ⟨a, nn, y⟩ ⟨ha, hy⟩
  simp only at ha hy ⊢
  refine AW.seq fun _ k2 => AW.region [] Θ_ok ?_
  simp
  refine k2 _ ?_
  by_cases hly : y < m
  · have hm4 := R.m4
    have inc := wrap_succ (show y < 9223372036854775807 by omega)
    refine AW.seq fun _ k2 => AW.cond true (by simp [Int.natCast_inj, hly]) (fun _ => ?_) (fun h => by cases h)
    refine AW.skip ?_
    simp
    refine k2 _ ?_
    refine AW.seq fun _ k2 => ?_
    refine AW.block ?_
    refine AW.region [] Θ_ok ?_
    simp [upd_same, appendA]
    refine ⟨rfl, ⟨⟨rfl, rfl, by rw [rrA_len]; exact Nat.le_refl _, by omega, by omega⟩, fun a' ha' => ?_⟩⟩
    obtain ⟨h1, h2⟩ := ne_of_none ha' (by simp)
    rw [rrA_snoc, upd_none_id ha]
    refine k2 _ ?_
    refine AW.region [] Θ_ok ?_
    simp
    exact ⟨⟨a', true, y + 1⟩, ⟨h2, hly⟩, by simp only; omega, GStep.eq (by simp [inc]) (subH.refl _)⟩
  obtain rfl : y = m := by omega
  refine AW.seq fun _ k2 => AW.cond false (by simp [Int.natCast_inj]) (fun h => by cases h) (fun _ => ?_)
  refine AW.exit ?_
  simp
  refine k1 _ ?_
  have oA : ∀ u ∈ (rrA x y nn).cells, u.flat = [u] := fun u hu => by simp only [rrA] at hu; rw [(List.mem_replicate.1 hu).2]; rfl
  refine AW.freeze 10 false rfl (upd_same _ _ _) (fun e => by cases e) rfl rrA_len oA ?_
  simp only [upd_upd, upd_none_id ha]
  have cA : (rrA x y nn).cells = rrR y x := rfl
  rw [cA]
  clear oA cA ha hy hly
  refine AW.mine 11 27 1 rfl fun a ha => ?_
  simp only at ha ⊢
  have hA0 : (⟨[], 27, 1, false⟩ : Ob) = rrA x 0 false := by simp [rrA]
  rw [hA0]
  refine AW.seq fun _ k1 => ?_
  refine AW.seq fun _ k2 => AW.region [] Θ_ok ?_
  simp
  refine k2 _ ?_
  refine AW.block ?_
  refine AW.loopI (X := RX) (fun s => h s.a = none ∧ s.x ≤ n) (fun s => ⟨175, [(69, .int .i64 s.x), (68, .int .i64 n), (11, .mu s.a s.x), (0, .int .i64 y), (1, .int .i64 n), (2, .int .i64 x), (7, .rop [.ro true (rrZ x), .ro true (rrW x)]), (8, .ro true (bools (allT x))), (10, .ro false (rrR y x))], upd h s.a (some (rrA x s.x s.nn))⟩) (fun s => n - s.x) ⟨a, false, 0⟩ ⟨ha, Nat.zero_le _⟩ (GStep.eq (by simp) (subH.refl _)) ?_
  clear ha hA0
  rintro ⟨a, nn, k⟩ ⟨ha, hk⟩
  simp only at ha hk ⊢
  refine AW.seq fun _ k2 => AW.region [] Θ_ok ?_
  simp
  refine k2 _ ?_
  by_cases hly : k < n
  · have hn4 := R.n4
    have inc := wrap_succ (show k < 9223372036854775807 by omega)
    refine AW.seq fun _ k2 => AW.cond true (by simp [Int.natCast_inj, hly]) (fun _ => ?_) (fun h => by cases h)
    refine AW.skip ?_
    simp
    refine k2 _ ?_
    refine AW.seq fun _ k2 => ?_
    refine AW.block ?_
    refine AW.region [] Θ_ok ?_
    simp [upd_same, appendA]
    refine ⟨rfl, ⟨⟨rfl, rfl, by rw [rrA_len]; exact Nat.le_refl _, by omega, by omega⟩, fun a' ha' => ?_⟩⟩
    obtain ⟨h1, h2⟩ := ne_of_none ha' (by simp)
    rw [rrA_snoc, upd_none_id ha]
    refine k2 _ ?_
    refine AW.region [] Θ_ok ?_
    simp
    exact ⟨⟨a', true, k + 1⟩, ⟨h2, hly⟩, by simp only; omega, GStep.eq (by simp [inc]) (subH.refl _)⟩
  obtain rfl : k = n := by omega
  refine AW.seq fun _ k2 => AW.cond false (by simp [Int.natCast_inj]) (fun h => by cases h) (fun _ => ?_)
  refine AW.exit ?_
  simp
  refine k1 _ ?_
  have oA : ∀ u ∈ (rrA x k nn).cells, u.flat = [u] := fun u hu => by simp only [rrA] at hu; rw [(List.mem_replicate.1 hu).2]; rfl
  refine AW.freeze 11 false rfl (upd_same _ _ _) (fun e => by cases e) rfl rrA_len oA ?_
  simp only [upd_upd, upd_none_id ha]
  have cA : (rrA x k nn).cells = rrR k x := rfl
  rw [cA]
  clear oA cA ha hk hly
  have sG := counter_Game (ringG x) (ring_fits x R.z9) (List.replicate y (allT x)) (List.replicate k (allT x))
  rw [cgA, if_pos R.err] at sG
  have eG : cgG (ringG x) (List.replicate y (allT x)) (List.replicate k (allT x)) = ⟨tab (x * (y * k)) (cgOwn (ringG x) (y * k)), tab (x * (y * k)) (cgRow (ringG x) (List.replicate y (allT x)) (List.replicate k (allT x)) (y * k))⟩ := by
    rw [cgG, R.mems]; simp [ringG]
  have eP : cgP (ringG x) (List.replicate y (allT x)) (List.replicate k (allT x)) = tab (x * (y * k)) (cgPrio (List.replicate y (allT x)) (List.replicate k (allT x)) (y * k)) := by
    rw [cgP, R.mems]; simp [ringG]
  rw [eG, eP] at sG
  obtain ⟨X, hX⟩ : ∃ X, X = tab (x * (y * k)) (cgRow (ringG x) (List.replicate y (allT x)) (List.replicate k (allT x)) (y * k)) := ⟨_, rfl⟩
  obtain ⟨P, hP⟩ : ∃ P, P = tab (x * (y * k)) (cgPrio (List.replicate y (allT x)) (List.replicate k (allT x)) (y * k)) := ⟨_, rfl⟩
  obtain ⟨O, hO⟩ : ∃ O, O = tab (x * (y * k)) (cgOwn (ringG x) (y * k)) := ⟨_, rfl⟩
  rw [← hX, ← hP, ← hO] at sG
  have lX : X.length = x * (y * k) := by rw [hX]; exact length_tab _ _
  have lP : P.length = x * (y * k) := by rw [hP]; exact length_tab _ _
  have vX : ∀ t (h : atR y k x t < X.length), X[atR y k x t] = [((atR y k x (t + 1) : Nat) : Int)] := by
    subst hX; intro t h; rw [getElem_tab]; exact R.row t
  have vP : ∀ t (h : atR y k x t < P.length), P[atR y k x t] = if t % k = k - 1 then 2 else if t % y = y - 1 then 1 else 0 := by
    subst hP; intro t h; rw [getElem_tab]; exact R.prio t
  clear hX hP hO eG eP
  have hR1 : (ringG x).av = .agg [.ro false (ints (tab x fun _ => 0)), .ro false (rows (tab x fun v => [(((v + 1) % x : Nat) : Int)]))] := rfl
  have hW : (rrW x).map weak = rows (tab x fun v => [(((v + 1) % x : Nat) : Int)]) := by
    rw [rrW, rrO, map_tab]
    simp only [rows, map_tab]
    exact tab_congr fun i hi => by simp [hi]
  have hZ : (rrZ x).map weak = ints (tab x fun _ => 0) := by simp [rrZ]
  rw [hR1] at sG
  refine AW.seq fun _ k1 => AW.regionAt 4 [12] Θ_ok fun B hB => ?_
  simp
  refine sG.use (by simp only [wks_cons, weak_agg, List.map_cons, List.map_nil, weak_ro, hW, hZ, rrR_weak]; simp) ?_
  refine hB _ ?_
  clear hB B
  simp [newA, upd_same]
  refine fun o ho => k1 _ ?_
  refine AW.box 12 rfl (upd_same _ _ _) ?_
  simp only [upd_upd_none ho]
  obtain ⟨L, hL⟩ : ∃ L, L = x * (y * k) := ⟨_, rfl⟩
  rw [← hL] at lX lP
  have hL144 : L ≤ 144 := by rw [hL]; exact R.zmn
  have hxy : x * y ≤ 36 := Nat.mul_le_mul R.z9 R.m4
  have hyk := R.mn
  have eL : ((x : Int) * (y : Int)) * (k : Int) = (L : Int) := by rw [hL]; simp [Int.mul_assoc]
  have wa : IntKind.i64.wrap ((x : Int) * (y : Int)) = (x : Int) * (y : Int) := by rw [← Int.natCast_mul]; exact wrap_nat (by omega)
  have wb : IntKind.i64.wrap ((x : Int) * (y : Int) * (k : Int)) = (L : Int) := by rw [eL]; exact wrap_nat (by omega)
  refine AW.seq fun _ k1 => ?_
  refine AW.seq fun _ k2 => AW.region [] Θ_ok ?_
  simp [lX, lP, wa, wb]
  refine k2 _ ?_
  refine AW.cond false (by simp [Int.natCast_inj]) (fun h => by cases h) (fun _ => ?_)
  refine AW.skip ?_
  simp
  refine k1 _ ?_
  refine AW.seq fun _ k1 => AW.region [] Θ_ok ?_
  simp
  refine k1 _ ?_
  have m4 := R.m4
  have n4 := R.n4
  have m0 := R.m0
  have n0 := R.n0
  obtain ⟨W, hW2⟩ : ∃ W, W = 3 * (y * k) := ⟨_, rfl⟩
  have wc : IntKind.i64.wrap (3 * (y : Int)) = 3 * (y : Int) := wrap_id (by omega) (by omega)
  have eW : 3 * (y : Int) * (k : Int) = (W : Int) := by rw [hW2]; simp [Int.mul_assoc]
  have wd : IntKind.i64.wrap (3 * (y : Int) * (k : Int)) = (W : Int) := by rw [eW]; exact wrap_nat (by omega)
  refine AW.seq fun _ k1 => ?_
  refine AW.seq fun _ k2 => AW.region [] Θ_ok ?_
  simp [wc, wd]
  refine k2 _ ?_
  refine AW.block ?_
  refine AW.loopI (X := Nat) (fun t => t ≤ W) (fun t => ⟨175, [(109, .int .i64 t), (108, .int .i64 W), (0, .int .i64 y), (1, .int .i64 k), (2, .int .i64 x), (12, .rop [.ro false (ints O), .ro false (rows X)]), (13, .ro false (ints P)), (15, .int .i64 (atR y k x t : Nat))], h⟩) (fun t => W - t) 0 (Nat.zero_le _) (GStep.eq (by simp [atR]) (subH.refl _)) fun t ht => ?_
  refine AW.seq fun _ k2 => AW.region [] Θ_ok ?_
  simp
  refine k2 _ ?_
  by_cases hlt : t < W
  · have inc := wrap_succ (show t < 9223372036854775807 by omega)
    have a1 := R.at_lt t
    have a2 := R.at_lt (t + 1)
    rw [← hL] at a1 a2
    have hAP : atR y k x t < P.length := by omega
    have hAX : atR y k x t < X.length := by omega
    have vx := vX t hAX
    have vp := vP t hAP
    have eA : atR y k x t = (t % x) * (y * k) + ((t % y) * k + t % k) := rfl
    have d1 : (t : Int).tmod (y : Int) = ((t % y : Nat) : Int) := by rw [Int.tmod_eq_emod_of_nonneg (by omega)]; exact (Int.natCast_emod _ _).symm
    have d2 : (t : Int).tmod (k : Int) = ((t % k : Nat) : Int) := by rw [Int.tmod_eq_emod_of_nonneg (by omega)]; exact (Int.natCast_emod _ _).symm
    have d3 : (t : Int).tmod (x : Int) = ((t % x : Nat) : Int) := by rw [Int.tmod_eq_emod_of_nonneg (by omega)]; exact (Int.natCast_emod _ _).symm
    have i1 := Nat.mod_lt t m0
    have j1 := Nat.mod_lt t n0
    have v1 := Nat.mod_lt t z0
    obtain ⟨at1, hat1⟩ : ∃ at1, at1 = atR y k x (t + 1) := ⟨_, rfl⟩
    rw [← hat1] at vx a2
    generalize atR y k x t = at0 at *
    generalize t % y = i at *
    generalize t % k = j at *
    generalize t % x = v at *
    have hk0 : ¬ k = 0 := by omega
    have hy0 : ¬ y = 0 := by omega
    have hx0 : ¬ x = 0 := by omega
    have b1 : v * y ≤ 36 := Nat.le_trans (Nat.mul_le_mul (Nat.le_of_lt v1) (Nat.le_refl y)) hxy
    have b2 : v * y * k ≤ 144 := Nat.mul_le_mul b1 n4
    have b3 : i * k ≤ 16 := Nat.le_trans (Nat.mul_le_mul (Nat.le_of_lt i1) (Nat.le_refl k)) hyk
    have w1 : IntKind.i64.wrap ((v : Int) * (y : Int)) = ((v * y : Nat) : Int) := by rw [← Int.natCast_mul]; exact wrap_nat (by omega)
    obtain ⟨vy, hvy⟩ : ∃ vy, vy = v * y := ⟨_, rfl⟩
    rw [← hvy] at w1 b1 b2
    have w2 : IntKind.i64.wrap ((vy : Int) * (k : Int)) = ((vy * k : Nat) : Int) := by rw [← Int.natCast_mul]; exact wrap_nat (by omega)
    obtain ⟨vyk, hvyk⟩ : ∃ vyk, vyk = vy * k := ⟨_, rfl⟩
    rw [← hvyk] at w2 b2
    have w3 : IntKind.i64.wrap ((i : Int) * (k : Int)) = ((i * k : Nat) : Int) := by rw [← Int.natCast_mul]; exact wrap_nat (by omega)
    obtain ⟨ik, hik⟩ : ∃ ik, ik = i * k := ⟨_, rfl⟩
    rw [← hik] at w3 b3
    have w4 : IntKind.i64.wrap ((vyk : Int) + (ik : Int)) = ((vyk + ik : Nat) : Int) := by rw [← Int.natCast_add]; exact wrap_nat (by omega)
    obtain ⟨s1, hs1⟩ : ∃ s1, s1 = vyk + ik := ⟨_, rfl⟩
    rw [← hs1] at w4
    have e5 : s1 + j = at0 := by rw [eA, hs1, hvyk, hvy, hik, Nat.mul_assoc]; omega
    have w5 : IntKind.i64.wrap ((s1 : Int) + (j : Int)) = (at0 : Int) := by rw [← Int.natCast_add, e5]; exact wrap_nat (by omega)
    have wy := wrap_id (show -9223372036854775808 ≤ (y : Int) - 1 by omega) (by omega)
    have wk := wrap_id (show -9223372036854775808 ≤ (k : Int) - 1 by omega) (by omega)
    have q1 : X[at0].length = 1 := by rw [vx]; rfl
    have q2 : ∀ h : 0 < X[at0].length, X[at0][0] = (at1 : Int) := by rw [vx]; exact fun _ => rfl
    have q3 : ¬ (at1 : Int) < 0 := by omega
    have q4 : ¬ ((P.length : Nat) : Int) ≤ (at1 : Int) := by omega
    clear e5 hs1 hik hvyk hvy eA b1 b2 b3 vx
    refine AW.seq fun _ k2 => AW.cond true (by simp [Int.natCast_inj, hlt]) (fun _ => ?_) (fun h => by cases h)
    refine AW.skip ?_
    simp
    refine k2 _ ?_
    refine AW.seq fun _ k2 => ?_
    refine AW.block ?_
    refine AW.seq fun _ k3 => AW.region [] Θ_ok ?_
    simp
    refine k3 _ ?_
    refine AW.seq fun _ k3 => AW.draw [] 9 [] Θ_ok mixed (by kernel_rfl) (by kernel_rfl) ?_
    simp [vcDraw, vcPre, vcTail, callA, isAlloc, isLoad, effOp, obl, obA, mkOK, valA, d1, d2, hk0, hy0]
    refine k3 _ ?_
    refine AW.seq fun _ k3 => ?_
    refine AW.seq fun _ k5 => AW.region [] Θ_ok ?_
    simp [wy]
    refine k5 _ ?_
    by_cases hi : (i : Int) = (y : Int) - 1
    · refine AW.cond true (by simp [Int.natCast_inj, hi]) (fun _ => ?_) (fun h => by cases h)
      refine AW.region [] Θ_ok ?_
      simp
      refine k3 _ ?_
      refine AW.seq fun _ k3 => ?_
      refine AW.seq fun _ k5 => AW.region [] Θ_ok ?_
      simp [wk]
      refine k5 _ ?_
      by_cases hj : (j : Int) = (k : Int) - 1
      · have pv : P[at0] = 2 := by rw [vp, if_pos (show j = k - 1 by omega)]
        refine AW.cond true (by simp [Int.natCast_inj, hj]) (fun _ => ?_) (fun h => by cases h)
        refine AW.region [] Θ_ok ?_
        simp
        refine k3 _ ?_
        refine AW.seq fun _ k4 => ?_
        refine AW.seq fun _ k5 => AW.region [] Θ_ok ?_
        simp [w1, w2, w3, w4, w5, hx0, d3, hAP, hAX, pv, q1]
        refine k5 _ ?_
        refine AW.cond false (by simp [Int.natCast_inj]) (fun h => by cases h) (fun _ => ?_)
        refine AW.skip ?_
        simp
        refine k4 _ ?_
        refine AW.seq fun _ k4 => AW.region [] Θ_ok ?_
        simp [hAX, q1, q2]
        refine k4 _ ?_
        refine AW.seq fun _ k4 => AW.region [] Θ_ok ?_
        simp [q3, q4]
        refine k4 _ ?_
        refine AW.cond false (by simp [Int.natCast_inj, q4]) (fun h => by cases h) (fun _ => ?_)
        refine AW.skip ?_
        simp
        refine k2 _ ?_
        refine AW.region [] Θ_ok ?_
        simp
        exact ⟨t + 1, by omega, by omega, GStep.eq (by simp [inc, hat1]) (subH.refl _)⟩
      · have pv : P[at0] = 1 := by rw [vp, if_neg (show ¬ j = k - 1 by omega), if_pos (show i = y - 1 by omega)]
        refine AW.cond false (by simp [Int.natCast_inj, hj]) (fun h => by cases h) (fun _ => ?_)
        refine AW.skip ?_
        simp
        refine k3 _ ?_
        refine AW.seq fun _ k4 => ?_
        refine AW.seq fun _ k5 => AW.region [] Θ_ok ?_
        simp [w1, w2, w3, w4, w5, hx0, d3, hAP, hAX, pv, q1]
        refine k5 _ ?_
        refine AW.cond false (by simp [Int.natCast_inj]) (fun h => by cases h) (fun _ => ?_)
        refine AW.skip ?_
        simp
        refine k4 _ ?_
        refine AW.seq fun _ k4 => AW.region [] Θ_ok ?_
        simp [hAX, q1, q2]
        refine k4 _ ?_
        refine AW.seq fun _ k4 => AW.region [] Θ_ok ?_
        simp [q3, q4]
        refine k4 _ ?_
        refine AW.cond false (by simp [Int.natCast_inj, q4]) (fun h => by cases h) (fun _ => ?_)
        refine AW.skip ?_
        simp
        refine k2 _ ?_
        refine AW.region [] Θ_ok ?_
        simp
        exact ⟨t + 1, by omega, by omega, GStep.eq (by simp [inc, hat1]) (subH.refl _)⟩
    · refine AW.cond false (by simp [Int.natCast_inj, hi]) (fun h => by cases h) (fun _ => ?_)
      refine AW.skip ?_
      simp
      refine k3 _ ?_
      refine AW.seq fun _ k3 => ?_
      refine AW.seq fun _ k5 => AW.region [] Θ_ok ?_
      simp [wk]
      refine k5 _ ?_
      by_cases hj : (j : Int) = (k : Int) - 1
      · have pv : P[at0] = 2 := by rw [vp, if_pos (show j = k - 1 by omega)]
        refine AW.cond true (by simp [Int.natCast_inj, hj]) (fun _ => ?_) (fun h => by cases h)
        refine AW.region [] Θ_ok ?_
        simp
        refine k3 _ ?_
        refine AW.seq fun _ k4 => ?_
        refine AW.seq fun _ k5 => AW.region [] Θ_ok ?_
        simp [w1, w2, w3, w4, w5, hx0, d3, hAP, hAX, pv, q1]
        refine k5 _ ?_
        refine AW.cond false (by simp [Int.natCast_inj]) (fun h => by cases h) (fun _ => ?_)
        refine AW.skip ?_
        simp
        refine k4 _ ?_
        refine AW.seq fun _ k4 => AW.region [] Θ_ok ?_
        simp [hAX, q1, q2]
        refine k4 _ ?_
        refine AW.seq fun _ k4 => AW.region [] Θ_ok ?_
        simp [q3, q4]
        refine k4 _ ?_
        refine AW.cond false (by simp [Int.natCast_inj, q4]) (fun h => by cases h) (fun _ => ?_)
        refine AW.skip ?_
        simp
        refine k2 _ ?_
        refine AW.region [] Θ_ok ?_
        simp
        exact ⟨t + 1, by omega, by omega, GStep.eq (by simp [inc, hat1]) (subH.refl _)⟩
      · have pv : P[at0] = 0 := by rw [vp, if_neg (show ¬ j = k - 1 by omega), if_neg (show ¬ i = y - 1 by omega)]
        refine AW.cond false (by simp [Int.natCast_inj, hj]) (fun h => by cases h) (fun _ => ?_)
        refine AW.skip ?_
        simp
        refine k3 _ ?_
        refine AW.seq fun _ k4 => ?_
        refine AW.seq fun _ k5 => AW.region [] Θ_ok ?_
        simp [w1, w2, w3, w4, w5, hx0, d3, hAP, hAX, pv, q1]
        refine k5 _ ?_
        refine AW.cond false (by simp [Int.natCast_inj]) (fun h => by cases h) (fun _ => ?_)
        refine AW.skip ?_
        simp
        refine k4 _ ?_
        refine AW.seq fun _ k4 => AW.region [] Θ_ok ?_
        simp [hAX, q1, q2]
        refine k4 _ ?_
        refine AW.seq fun _ k4 => AW.region [] Θ_ok ?_
        simp [q3, q4]
        refine k4 _ ?_
        refine AW.cond false (by simp [Int.natCast_inj, q4]) (fun h => by cases h) (fun _ => ?_)
        refine AW.skip ?_
        simp
        refine k2 _ ?_
        refine AW.region [] Θ_ok ?_
        simp
        exact ⟨t + 1, by omega, by omega, GStep.eq (by simp [inc, hat1]) (subH.refl _)⟩
  obtain rfl : t = W := by omega
  refine AW.seq fun _ k2 => AW.cond false (by simp [Int.natCast_inj]) (fun h => by cases h) (fun _ => ?_)
  refine AW.exit ?_
  simp
  refine k1 _ ?_
  refine AW.seq fun _ kr => AW.region [] Θ_ok ?_
  simp
  refine (l20_awake).use (by simp [G.av]) ?_
  try simp
  refine kr _ (AW.ret ?_)
  simp [Try.f3]
  exact Fin.refl ⟨rfl, rfl⟩
end Go.Par
