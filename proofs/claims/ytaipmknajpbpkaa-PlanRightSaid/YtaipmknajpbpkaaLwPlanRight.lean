import Derived.Test.YtaipmknajpbpkaaPgB
import Derived.Test.YtaipmknajpbpkaaRgA
import Derived.Test.YtaipmknajpbpkaaCgA
set_option linter.unusedSimpArgs false
set_option linter.unusedVariables false
set_option maxRecDepth 8000
set_option maxHeartbeats 4000000
namespace Go.Par
open Go.Proofs

theorem subH_updF {h : Heap} {n : Nat} (hn : h n = none) (X : Ob) : subH h (upd h n (some X)) := fun o x hx => by
  rw [upd_ne _ _ (fun e => by rw [e, hn] at hx; cases hx)]; exact hx
def ob2 (l : List (List Bool)) (nn : Bool) : Ob := ⟨bools2 l, 31, 1, nn⟩
@[simp] theorem ob2_cells (l : List (List Bool)) (nn : Bool) : (ob2 l nn).cells = bools2 l := rfl
@[simp] theorem ob2_ty (l : List (List Bool)) (nn : Bool) : (ob2 l nn).ty = 31 := rfl
@[simp] theorem ob2_sz (l : List (List Bool)) (nn : Bool) : (ob2 l nn).sz = 1 := rfl
@[simp] theorem ob2_nn (l : List (List Bool)) (nn : Bool) : (ob2 l nn).nn = nn := rfl
theorem ob2_snoc (l : List (List Bool)) (k : Nat) (r : List Bool) (hk : k = l.length) : (⟨List.take k (bools2 l) ++ [.ro false (bools r)], 31, 1, true⟩ : Ob) = ob2 (l ++ [r]) true := by
  subst hk; rw [List.take_of_length_le (by simp)]; simp [ob2]
theorem GV.wkF {u u' : AV} {h : Heap} (hw : wk u u') : GV u h u' h := fun φ _ _ H V => ⟨φ, Ext.refl φ, H, V.wk hw, fun _ hb => hb⟩
theorem pure_wkR {P : Program} {f : FuncId} {us : List AV} {r r' : AV} (H : Pure P f us r) (hw : Par.wk r r') : Pure P f us r' := fun h => (H h).fin fun _ _ ⟨e1, e2⟩ => by
  subst e1 e2; exact Fin.gv (GV.wkF hw) (Fin.refl ⟨rfl, rfl⟩)
/-- The rows of the first vertices, told for all memories. -/
def spS (M K : Nat) (l : List (List Bool)) (x : Nat) : List (List Bool) := (l.take x).map (sprL M K)
@[simp] theorem spS_len (M K : Nat) (l : List (List Bool)) {x : Nat} (hx : x ≤ l.length) : (spS M K l x).length = x := by simp [spS]; omega
theorem spS_step (M K : Nat) (l : List (List Bool)) {x : Nat} (hx : x < l.length) : spS M K l (x + 1) = spS M K l x ++ [sprL M K l[x]] := by
  unfold spS; rw [List.take_succ_eq_append_getElem hx, List.map_append]; rfl
theorem spS_all (M K : Nat) (l : List (List Bool)) : spS M K l l.length = l.map (sprL M K) := by simp [spS]
theorem spS_zero (M K : Nat) (l : List (List Bool)) : spS M K l 0 = [] := rfl
theorem none_ofF {h : Heap} {o q : Nat} {x : Ob} (e : upd h o (some x) q = none) : h q = none := by
  unfold upd at e; split at e
  · exact absurd e (by simp)
  · exact e
theorem FN.swF {h : Heap} {s o n : Nat} {f : Nat → Nat} {A : Ob} (N : FN (upd h s (some A)) o f n) (B : Ob) : FN (upd h s (some B)) o f n ∧ (∀ C R, upd (FH (upd h s (some A)) o C f n R) s (some B) = FH (upd h s (some B)) o C f n R) ∧ ∀ C R, FH (upd h s (some A)) o C f n R s = some A := by
  have := N.base (upd_same h s (some A)) B
  rw [upd_upd] at this
  exact this
structure FX2 where
  f : Nat → Nat
  nn : Nat → Bool
  x : Nat
structure FRo where
  o : Nat
  nn : Bool
  x : Nat

theorem law_PlanRight (g : G) (hg : g.wide) (la : List (List Bool)) (hA : (DK.sl (.sl .bool)).fits la) (lb : List (List Bool)) (hB : (DK.sl (.sl .bool)).fits lb) : Pure Try.prog 3 [g.av, .ro false (bools2 la), .ro false (bools2 lb)] (.bool true) := by
  have hf := hg.f
  have sH := l18_Heavy g hf la lb (G.wide.rows2 hA) (G.wide.rows2 hB)
  have sS := plan_Steps g hf la lb
  have sG := r9_GR1 g hf la lb
  have im1 : (if (1 : Int) < (lb.length : Int) then (lb.length : Int) else 1) = ((max 1 lb.length : Nat) : Int) := imax1 _
  have im2 : (if 1 < lb.length then (lb.length : Int) else 1) = ((max 1 lb.length : Nat) : Int) := imax1' _
  intro h
  refine AC.body Θ_ok Try.func3 rfl rfl (Nat.le_of_ble_eq_true rfl) ?_
  refine AW.seq fun _ k1 => AW.region [] Θ_ok ?_
  simp
  refine k1 _ ?_
  refine AW.seq fun _ k1 => ?_
  by_cases h1 : 0 < heavy18 g la lb
  · refine AW.seq fun _ k2 => AW.regionAt 4 [] Θ_ok fun B hB => ?_
    simp
    refine sH.use (by simp [G.av]) ?_
    refine hB _ ?_
    clear hB B
    simp [h1]
    refine k2 _ ?_
    refine AW.cond true (by simp [Int.natCast_inj]) (fun _ => ?_) (fun h => by cases h)
    refine AW.seq fun _ kr => AW.region [] Θ_ok ?_
    simp
    refine (l19_awake).use (by simp [G.av]) ?_
    try simp
    refine kr _ (AW.ret ?_)
    simp [Try.f3]
    exact Fin.refl ⟨rfl, rfl⟩
  have h1' := Int.not_lt.1 h1
  refine AW.seq fun _ k2 => AW.regionAt 4 [] Θ_ok fun B hB => ?_
  simp
  refine sH.use (by simp [G.av]) ?_
  refine hB _ ?_
  clear hB B
  simp [h1, h1']
  refine k2 _ ?_
  refine AW.cond false (by simp [Int.natCast_inj]) (fun h => by cases h) (fun _ => ?_)
  refine AW.skip ?_
  simp
  refine k1 _ ?_
  by_cases hok : pnOk g la lb
  · obtain ⟨hm, a4, e4⟩ := hok
    have hok2 : mayE g = 0 ∧ la.length ≤ 4 ∧ lb.length ≤ 4 := ⟨hm, a4, e4⟩
    have hn := (may_ok hm).1
    rw [pnA, if_pos (show pnOk g la lb from hok2)] at sS
    rw [gr1A, if_pos hok2] at sG
    have lZ : (solveL g la lb).1.length = g.owner.length := (solve_spec hm la lb).2.1.1
    have rl := rows_len g lb
    obtain ⟨goals, hgl⟩ : ∃ goals, goals = rowsL g lb := ⟨_, rfl⟩
    obtain ⟨K, hK⟩ : ∃ K, K = goals.length := ⟨_, rfl⟩
    have hK2 : (rowsL g lb).length = K := by rw [hK, hgl]
    have hKm : max 1 lb.length = K := by rw [← hK2, rl]
    rw [hKm] at im1 im2
    have hK4 : K ≤ 4 := by omega
    have hK16 : K ≤ 16 := by omega
    have k0' : 0 < K := by omega
    obtain ⟨Z, hZ⟩ : ∃ Z, Z = (solveL g la lb).1 := ⟨_, rfl⟩
    obtain ⟨TL, hTL⟩ : ∃ TL, TL = planTL g (rowsL g la) (rowsL g lb) (solveL g la lb).1 := ⟨_, rfl⟩
    obtain ⟨L, hL⟩ : ∃ L, L = pnL g la lb := ⟨_, rfl⟩
    have eLg : L = pnV g Z TL goals g.owner.length := by rw [hL, hZ, hTL, hgl]; rfl
    have nK' : g.owner.length * K ≤ 12000 := Nat.le_trans (Nat.mul_le_mul hn hK4) (by decide)
    rw [← hZ] at sG lZ
    rw [← hL] at sS
    refine AW.seq fun _ k1 => AW.regionAt 4 [] Θ_ok fun B hB => ?_
    simp
    refine sS.use (by simp [G.av]) ?_
    refine hB _ ?_
    clear hB B
    simp
    refine k1 _ ?_
    refine AW.seq fun _ k1 => AW.regionAt 4 [] Θ_ok fun B hB => ?_
    simp
    refine sG.use (by simp [G.av]) ?_
    refine hB _ ?_
    clear hB B
    simp
    refine k1 _ ?_
    obtain ⟨n, hn'⟩ : ∃ n, n = g.owner.length := ⟨_, rfl⟩
    obtain ⟨M, hM⟩ : ∃ M, M = n * K := ⟨_, rfl⟩
    have wM : IntKind.i64.wrap ((n : Int) * (K : Int)) = (M : Int) := by rw [hM, ← Int.natCast_mul]; exact wrap_nat (by rw [hn']; omega)
    have M3 : M ≤ 12000 := by rw [hM, hn']; exact nK'
    have n3 : n ≤ 3000 := by rw [hn']; exact hn
    rw [← hn'] at lZ
    refine AW.seq fun _ k1 => ?_
    refine AW.seq fun _ k2 => AW.region [] Θ_ok ?_
    simp
    refine k2 _ ?_
    refine AW.cond false (by simp [Int.natCast_inj]) (fun h => by cases h) (fun _ => ?_)
    refine AW.skip ?_
    simp
    refine k1 _ ?_
    refine AW.seq fun _ k1 => AW.region [] Θ_ok ?_
    simp [im1, im2]
    refine k1 _ ?_
    refine AW.seq fun _ k1 => AW.region [60] Θ_ok ?_
    simp [newA, lZ, wM]
    refine ⟨by omega, fun o ho => k1 _ ?_⟩
    refine AW.seq fun _ k1 => AW.region [63] Θ_ok ?_
    simp [newA]
    refine ⟨by omega, fun s hs => k1 _ ?_⟩
    rw [replicate_tab, flat_tab (fun _ _ => rfl), replicate_tab, flat_tab (fun _ _ => rfl)]
    have so : o ≠ s := fun e => by rw [e] at hs; simp [upd] at hs
    have hs0 : h s = none := none_ofF hs
    rw [upd_comm h _ _ so]
    have ho1 : upd h s (some ⟨tab M fun _ => AV.bool false, 4, 1, true⟩) o = none := by rw [upd_ne _ _ so]; exact ho
    refine AW.family 3 1 ho1 fun f N => ?_
    obtain ⟨X, hX⟩ : ∃ X, X = FH (upd h s (some ⟨tab M fun _ => AV.bool false, 4, 1, true⟩)) o ⟨tab M fun i => .mu (f i) 0, 22, 1, true⟩ f M (fun _ => ⟨[], 3, 1, false⟩) := ⟨_, rfl⟩
    rw [← hX]
    refine AW.seq fun _ k1 => AW.region [] Θ_ok ?_
    simp
    refine k1 _ ?_
    have sP := fun r => l19_spread r n K n3 hK16 k0'
    have sP2 : ∀ r : List Bool, Pure Try.prog 16 [.ro false (bools r), .int .i64 n, .int .i64 K] (.ro false (bools (sprL M K r))) := fun r => by
      have := pure_wkR (sP r) (r' := .ro false (bools (sprL (n * K) K r))) (by simp)
      rwa [← hM] at this
    clear sP
    have sP := sP2
    clear sP2


    refine AW.mine 13 31 1 rfl fun o17 h17 => ?_
    simp only at h17 ⊢
    refine AW.seqTo ⟨271, [(1, .ro false (bools2 la)), (2, .ro false (bools2 lb)), (3, .rop [.ro false (ints g.owner), .ro false (rows g.next)]), (7, .ro false (avS L)), (8, .ro true (bools Z)), (10, .int .i64 K), (11, .mu o M), (12, .mu s M), (13, .ro false (bools2 (la.map (sprL M K)))), (14, .nils)], X⟩ (fun _ k1 => ?_) ?_
    · refine AW.seq fun _ k2 => AW.region [] Θ_ok ?_
      simp
      refine k2 _ ?_
      refine AW.block ?_
      refine AW.loopI (X := FRo) (fun t => X t.o = none ∧ t.x ≤ la.length)
        (fun t => ⟨271, [(1, .ro false (bools2 la)), (2, .ro false (bools2 lb)), (3, .rop [.ro false (ints g.owner), .ro false (rows g.next)]), (7, .ro false (avS L)), (8, .ro true (bools Z)), (10, .int .i64 K), (11, .mu o M), (12, .mu s M), (13, .mu t.o t.x), (14, .nils), (64, .ro false (bools2 la)), (65, .int .i64 la.length), (66, .int .i64 t.x)], upd X t.o (some (ob2 (spS M K la t.x) t.nn))⟩)
        (fun t => la.length - t.x) ⟨o17, false, 0⟩ ⟨h17, Nat.zero_le _⟩ (GStep.eq (by simp) (subH.refl _)) ?_
      rintro ⟨o', nn, x⟩ ⟨hx0, hx⟩
      simp only at hx0 hx ⊢
      refine AW.seq fun _ k2 => AW.region [] Θ_ok ?_
      simp
      refine k2 _ ?_
      by_cases hlt : x < la.length
      · have inc := wrap_succ (show x < 9223372036854775807 by omega)
        have sPx := sP la[x]
        have st := spS_step M K la hlt
        have lS := spS_len M K la hx
        refine AW.seq fun _ k2 => AW.cond true (by simp [Int.natCast_inj, hlt]) (fun _ => ?_) (fun h => by cases h)
        refine AW.skip ?_
        simp
        refine k2 _ ?_
        refine AW.seq fun _ k2 => ?_
        refine AW.block ?_
        refine AW.seq fun _ k3 => AW.region [] Θ_ok ?_
        simp [hlt]
        refine k3 _ ?_
        generalize sprL M K la[x] = rx at sPx st
        generalize spS M K la x = SX at lS st ⊢
        refine AW.regionAt 6 [] Θ_ok fun B hB => ?_
        simp [lZ]
        refine sPx.use (by simp) ?_
        refine hB _ ?_
        clear hB
        simp [appendA, upd_same, lS]
        refine ⟨rfl, ⟨by omega, by omega⟩, fun o2 ho2 => k2 _ ?_⟩
        rw [ob2_snoc _ _ _ lS.symm, ← st, upd_none_id hx0]
        refine AW.region [] Θ_ok ?_
        simp
        exact ⟨⟨o2, true, x + 1⟩, ⟨none_ofF ho2, hlt⟩, by simp only; omega, GStep.eq (by simp [inc]) (subH.refl _)⟩
      · obtain rfl : x = la.length := by omega
        refine AW.seq fun _ k2 => AW.cond false (by simp [Int.natCast_inj]) (fun h => by cases h) (fun _ => ?_)
        refine AW.exit ?_
        simp
        rw [spS_all]
        refine k1 _ (GStep.trans (GStep.freeze (t := 13) (n := la.length) (k := false) (by simp) (upd_same _ _ _) (fun z => by cases z) rfl (by simp) (fun u hu => by obtain ⟨z, _, rfl⟩ := List.mem_map.1 hu; rfl)) (GStep.eq (by simp) ?_))
        simp only
        rw [upd_upd, upd_none_id hx0]; exact subH.refl _
    clear h17 o17
    refine AW.mine 14 31 1 rfl fun o18 h18 => ?_
    simp only at h18 ⊢
    refine AW.seqEx (X := FRo) (fun t => X t.o = none) (fun t => ⟨271, [(1, .ro false (bools2 la)), (2, .ro false (bools2 lb)), (3, .rop [.ro false (ints g.owner), .ro false (rows g.next)]), (7, .ro false (avS L)), (8, .ro true (bools Z)), (10, .int .i64 K), (11, .mu o M), (12, .mu s M), (13, .ro false (bools2 (la.map (sprL M K)))), (14, .mu t.o lb.length)], upd X t.o (some (ob2 (lb.map (sprL M K)) t.nn))⟩) (fun _ k1 => ?_) ?_
    · refine AW.seq fun _ k2 => AW.region [] Θ_ok ?_
      simp
      refine k2 _ ?_
      refine AW.block ?_
      refine AW.loopI (X := FRo) (fun t => X t.o = none ∧ t.x ≤ lb.length)
        (fun t => ⟨271, [(1, .ro false (bools2 la)), (2, .ro false (bools2 lb)), (3, .rop [.ro false (ints g.owner), .ro false (rows g.next)]), (7, .ro false (avS L)), (8, .ro true (bools Z)), (10, .int .i64 K), (11, .mu o M), (12, .mu s M), (14, .mu t.o t.x), (13, .ro false (bools2 (la.map (sprL M K)))), (79, .ro false (bools2 lb)), (80, .int .i64 lb.length), (81, .int .i64 t.x)], upd X t.o (some (ob2 (spS M K lb t.x) t.nn))⟩)
        (fun t => lb.length - t.x) ⟨o18, false, 0⟩ ⟨h18, Nat.zero_le _⟩ (GStep.eq (by simp) (subH.refl _)) ?_
      rintro ⟨o', nn, x⟩ ⟨hx0, hx⟩
      simp only at hx0 hx ⊢
      refine AW.seq fun _ k2 => AW.region [] Θ_ok ?_
      simp
      refine k2 _ ?_
      by_cases hlt : x < lb.length
      · have inc := wrap_succ (show x < 9223372036854775807 by omega)
        have sPx := sP lb[x]
        have st := spS_step M K lb hlt
        have lS := spS_len M K lb hx
        refine AW.seq fun _ k2 => AW.cond true (by simp [Int.natCast_inj, hlt]) (fun _ => ?_) (fun h => by cases h)
        refine AW.skip ?_
        simp
        refine k2 _ ?_
        refine AW.seq fun _ k2 => ?_
        refine AW.block ?_
        refine AW.seq fun _ k3 => AW.region [] Θ_ok ?_
        simp [hlt]
        refine k3 _ ?_
        generalize sprL M K lb[x] = rx at sPx st
        generalize spS M K lb x = SX at lS st ⊢
        refine AW.regionAt 6 [] Θ_ok fun B hB => ?_
        simp [lZ]
        refine sPx.use (by simp) ?_
        refine hB _ ?_
        clear hB
        simp [appendA, upd_same, lS]
        refine ⟨rfl, ⟨by omega, by omega⟩, fun o2 ho2 => k2 _ ?_⟩
        rw [ob2_snoc _ _ _ lS.symm, ← st, upd_none_id hx0]
        refine AW.region [] Θ_ok ?_
        simp
        exact ⟨⟨o2, true, x + 1⟩, ⟨none_ofF ho2, hlt⟩, by simp only; omega, GStep.eq (by simp [inc]) (subH.refl _)⟩
      · obtain rfl : x = lb.length := by omega
        refine AW.seq fun _ k2 => AW.cond false (by simp [Int.natCast_inj]) (fun h => by cases h) (fun _ => ?_)
        refine AW.exit ?_
        simp
        rw [spS_all]
        exact k1 _ ⟨o', nn, 0⟩ hx0 (GStep.eq (by simp) (subH.refl _))
    rintro ⟨o18, nn18, _⟩ h18
    simp only at h18 ⊢
    obtain ⟨aL, haL⟩ : ∃ aL, aL = la.map (sprL M K) := ⟨_, rfl⟩
    rw [← haL]
    obtain ⟨bL, hbL⟩ : ∃ bL, bL = lb.map (sprL M K) := ⟨_, rfl⟩
    rw [← hbL]
    have lbL : bL.length = lb.length := by rw [hbL]; simp
    refine AW.ghost (S' := ⟨271, [(1, .ro false (bools2 la)), (2, .ro false (bools2 lb)), (3, .rop [.ro false (ints g.owner), .ro false (rows g.next)]), (7, .ro false (avS L)), (8, .ro true (bools Z)), (10, .int .i64 K), (11, .mu o M), (12, .mu s M), (13, .ro false (bools2 aL)), (14, .ro false (bools2 bL))], X⟩) ?_ ?_
    · refine GStep.trans (GStep.freeze (t := 14) (n := lb.length) (k := false) (by simp) (upd_same _ _ _) (fun z => by cases z) rfl (by simp [lbL]) (fun u hu => by obtain ⟨z, _, rfl⟩ := List.mem_map.1 hu; rfl)) (GStep.eq (by simp) ?_)
      simp only
      rw [upd_upd, upd_none_id h18]; exact subH.refl _
    clear h18 o18 nn18
    obtain ⟨row, hrow⟩ : ∃ row, row = rowP g la lb := ⟨_, rfl⟩
    have hX2 : X = PHg h s o (frP Z M K 0) M row f (fun _ => false) 0 0 := by
      rw [hX]
      unfold PHg
      have e1 : (⟨tab M fun _ => AV.bool false, 4, 1, true⟩ : Ob) = obBk (frP Z M K 0) := by
        unfold obBk frP; rw [map_tab]; congr 1 <;> exact tab_congr fun i _ => by simp
      have e2 : (⟨tab M fun i => .mu (f i) 0, 22, 1, true⟩ : Ob) = plC M f row 0 0 := by
        unfold plC; congr 1 <;> exact tab_congr fun i _ => by rw [plS_zero]; rfl
      have e3 : (fun _ => ⟨[], 3, 1, false⟩ : Nat → Ob) = plR row (fun _ => false) 0 0 := by
        funext i; unfold plR; rw [plS_zero]; rfl
      rw [e1, e2, e3]
    have N0 := (N.swF (obBk (frP Z M K 0))).1
    rw [hX2]
    clear hX2 hX N
    obtain ⟨cnt, hcnt⟩ : ∃ cnt : Nat → Nat, ∀ v, cnt v = (pnV g Z TL goals v).length := ⟨_, fun v => rfl⟩
    have lV := pnV_len g Z TL goals
    have cS := pnV_cnt (g := g) Z TL goals
    have cnt0 : cnt 0 = 0 := by rw [hcnt]; rfl
    have hcL : cnt n = L.length := by rw [hcnt, eLg, hn']
    have cL3 : ∀ v, v ≤ n → cnt v ≤ 12000 := fun v hv => by
      have h1 := lV v
      rw [← hcnt, ← hK] at h1
      have h2 : v * K ≤ n * K := Nat.mul_le_mul_right _ hv
      omega
    simp only [← hcnt] at cS
    rw [← hK] at cS
    refine AW.seq fun _ k1 => AW.region [] Θ_ok ?_
    simp
    refine k1 _ ?_
    refine AW.seqEx (X := FX2) (fun t => FN (upd h s (some (obBk (frP Z M K M)))) o t.f M) (fun t => ⟨271, [(1, .ro false (bools2 la)), (2, .ro false (bools2 lb)), (3, .rop [.ro false (ints g.owner), .ro false (rows g.next)]), (7, .ro false (avS L)), (8, .ro true (bools Z)), (10, .int .i64 K), (11, .mu o M), (12, .mu s M), (13, .ro false (bools2 aL)), (14, .ro false (bools2 bL)), (19, .int .i64 (L.length : Int))], PHg h s o (frP Z M K M) M row t.f t.nn M 0⟩) (fun _ k1 => ?_) ?_
    · refine AW.seq fun _ k2 => AW.region [] Θ_ok ?_
      simp [lZ]
      refine k2 _ ?_
      refine AW.block ?_
      refine AW.loopI (X := FX2) (fun t => FN (upd h s (some (obBk (frP Z M K (t.x * K))))) o t.f M ∧ t.x ≤ n)
        (fun t => ⟨271, [(1, .ro false (bools2 la)), (2, .ro false (bools2 lb)), (3, .rop [.ro false (ints g.owner), .ro false (rows g.next)]), (7, .ro false (avS L)), (8, .ro true (bools Z)), (10, .int .i64 K), (11, .mu o M), (12, .mu s M), (13, .ro false (bools2 aL)), (14, .ro false (bools2 bL)), (19, .int .i64 (cnt t.x : Int)), (94, .ro true (bools Z)), (95, .int .i64 n), (96, .int .i64 t.x)], PHg h s o (frP Z M K (t.x * K)) M row t.f t.nn (t.x * K) 0⟩)
        (fun t => n - t.x) ⟨f, fun _ => false, 0⟩ ⟨by rw [Nat.zero_mul]; exact N0, Nat.zero_le _⟩ (GStep.eq (by simp [cnt0]) (by simp only [Nat.zero_mul]; exact subH.refl _)) ?_
      clear N0 f
      rintro ⟨f, nn, v⟩ ⟨N, hx⟩
      simp only at N hx ⊢
      refine AW.seq fun _ k2 => AW.region [] Θ_ok ?_
      simp
      refine k2 _ ?_
      by_cases hlt : v < n
      · have inc := wrap_succ (show v < 9223372036854775807 by omega)
        have hvo : v < g.owner.length := by omega
        have hvn : v < g.next.length := by have := (may_ok hm).2.1; omega
        have hvZ : v < Z.length := by omega
        obtain ⟨atN, hat⟩ : ∃ atN : Nat → Nat, ∀ m, atN m = cnt v + if g.owner[v] = 0 ∨ Z[v] = false then 0 else m := ⟨_, fun m => rfl⟩
        have at0 : atN 0 = cnt v := by rw [hat]; split <;> rfl
        have owv : ow g v = g.owner[v] := by simp [ow, hvo]
        have hasv : hasN Z v = Z[v] := by simp [hasN, hvZ]
        have hcases : ow g v = 0 ∨ ow g v = 1 := ow_all hm v
        have atK : atN K = cnt (v + 1) := by
          rw [hat, cS v]
          by_cases c : g.owner[v] = 0 ∨ Z[v] = false
          · rw [if_pos c, if_neg]
            rintro ⟨c1, c2⟩
            rcases c with c | c
            · rw [owv] at c2; omega
            · rw [hasv, c] at c1; cases c1
          · rw [if_neg c, if_pos]
            simp only [not_or] at c
            refine ⟨by rw [hasv]; simpa using c.2, ?_⟩
            rcases hcases with q | q
            · rw [owv] at q; exact absurd q c.1
            · exact q
        have vK1 : v * K + K ≤ M := by
          have : (v + 1) * K ≤ n * K := Nat.mul_le_mul_right _ hlt
          rw [Nat.add_mul, Nat.one_mul] at this; omega
        have vKs : v * K + K = (v + 1) * K := by rw [Nat.add_mul, Nat.one_mul]
        obtain ⟨vK, hvK⟩ : ∃ vK, vK = v * K := ⟨_, rfl⟩
        have w1 : IntKind.i64.wrap ((v : Int) * (K : Int)) = (vK : Int) := by rw [hvK, ← Int.natCast_mul]; exact wrap_nat (by omega)
        rw [← hvK] at vK1 N vKs ⊢
        have cv := cL3 v (by omega)
        refine AW.seq fun _ k2 => AW.cond true (by simp [Int.natCast_inj, hlt]) (fun _ => ?_) (fun h => by cases h)
        refine AW.skip ?_
        simp
        refine k2 _ ?_
        refine AW.seq fun _ k2 => ?_
        refine AW.block ?_
        refine AW.seq fun _ k3 => AW.region [] Θ_ok ?_
        simp
        refine k3 _ ?_
        refine AW.seq fun _ k3 => AW.region [] Θ_ok ?_
        simp
        refine k3 _ ?_
        refine AW.block ?_
        refine AW.loopI (X := FX2) (fun t => FN (upd h s (some (obBk (frP Z M K (vK + t.x))))) o t.f M ∧ t.x ≤ K)
          (fun t => ⟨271, [(1, .ro false (bools2 la)), (2, .ro false (bools2 lb)), (3, .rop [.ro false (ints g.owner), .ro false (rows g.next)]), (7, .ro false (avS L)), (8, .ro true (bools Z)), (10, .int .i64 K), (11, .mu o M), (12, .mu s M), (13, .ro false (bools2 aL)), (14, .ro false (bools2 bL)), (19, .int .i64 (atN t.x : Int)), (20, .int .i64 (v : Int)), (94, .ro true (bools Z)), (95, .int .i64 n), (96, .int .i64 v), (99, .int .i64 K), (100, .int .i64 t.x)], PHg h s o (frP Z M K (vK + t.x)) M row t.f t.nn (vK + t.x) 0⟩)
          (fun t => K - t.x) ⟨f, nn, 0⟩ ⟨by rw [Nat.add_zero]; exact N, Nat.zero_le _⟩ (GStep.eq (by simp [at0]) (by simp only [Nat.add_zero]; exact subH.refl _)) ?_
        clear N f nn
        rintro ⟨f, nn, m⟩ ⟨N, hmk⟩
        simp only at N hmk ⊢
        refine AW.seq fun _ k3 => AW.region [] Θ_ok ?_
        simp
        refine k3 _ ?_
        by_cases hmK : m < K
        · have incm := wrap_succ (show m < 9223372036854775807 by omega)
          obtain ⟨p, hp⟩ : ∃ p, p = vK + m := ⟨_, rfl⟩
          have hpM : p < M := by omega
          have w2 : IntKind.i64.wrap ((vK : Int) + (m : Int)) = (p : Int) := by rw [hp, ← Int.natCast_add]; exact wrap_nat (by omega)
          have hpv : p / K = v := by rw [hp, hvK, Nat.mul_comm]; rw [Nat.mul_add_div k0']; rw [Nat.div_eq_of_lt hmK]; rfl
          have hpm : p % K = m := by rw [hp, hvK, Nat.mul_comm]; rw [Nat.mul_add_mod]; exact Nat.mod_eq_of_lt hmK
          obtain ⟨th, hth⟩ : ∃ th, th = thenN goals v m := ⟨_, rfl⟩
          have eT : planTh g lb v m = (th : Int) := by
            unfold planTh
            rw [if_pos ⟨hm, e4, by omega, by omega, by omega, by rw [hK2]; omega⟩, hth, hgl]; rfl
          have thK : th < K := by rw [hth, hK]; exact thenN_lt (by omega)
          have sT1 := r9_PlanThen g hf lb v m
          have sT2 := plan_Then g hf lb v m
          rw [eT] at sT1 sT2
          have t0 : ¬ (th : Int) < 0 := by omega
          rw [← hp] at N ⊢
          obtain ⟨N1, ep, ea⟩ := N.swF (obBk (frP Z M K (p + 1)))
          replace ea := ea (plC M f row p 0) (plR row nn p 0)
          replace ep := ep (plC M f row p 0) (plR row nn p 0)
          have lf : (frP Z M K p).length = M := by simp [frP]
          have fs := mapk_set (frP Z M K p) p (hasN Z (p / K))
          rw [frP_set, hpv, hasv] at fs
          have hP0 : PHg h s o (frP Z M K p) M row f nn p 0 s = some (obBk (frP Z M K p)) := ea
          have hP1 : upd (PHg h s o (frP Z M K p) M row f nn p 0) s (some (obBk (frP Z M K (p + 1)))) = PHg h s o (frP Z M K (p + 1)) M row f nn p 0 := ep
          clear ea ep
          obtain ⟨FR, hFR⟩ : ∃ FR, FR = frP Z M K (p + 1) := ⟨_, rfl⟩
          rw [← hFR] at fs hP1
          refine AW.seq fun _ k3 => AW.cond true (by simp [Int.natCast_inj, hmK]) (fun _ => ?_) (fun h => by cases h)
          refine AW.skip ?_
          simp
          refine k3 _ ?_
          refine AW.seq fun _ k3 => ?_
          refine AW.block ?_
          refine AW.seq fun _ k4 => AW.region [] Θ_ok ?_
          simp
          refine k4 _ ?_
          refine AW.seq fun _ k4 => AW.regionAt 5 [] Θ_ok fun B hB => ?_
          simp
          refine sT1.use (by simp [G.av]) ?_
          refine hB _ ?_
          clear hB B
          simp
          refine k4 _ ?_
          refine AW.seq fun _ k4 => ?_
          refine AW.seq fun _ k5 => AW.regionAt 8 [] Θ_ok fun B hB => ?_
          simp [t0]
          refine sT2.use (by simp [G.av]) ?_
          refine hB _ ?_
          clear hB B
          simp
          refine k5 _ ?_
          refine AW.cond false (by simp [Int.natCast_inj]) (fun h => by cases h) (fun _ => ?_)
          refine AW.skip ?_
          simp
          refine k4 _ ?_
          refine AW.seq fun _ k4 => AW.region [] Θ_ok ?_
          simp [w1, w2, hvZ, hP0, lf, hpM, fs, obBk_mk, hP1]
          refine ⟨by omega, k4 _ ?_⟩
          subst hFR
          clear fs hP0 hP1 lf sT1 sT2 N
          have hrp : row p = if ow g v = 0 ∨ hasN Z v = false then (nx g v).map fun w => w * (K : Int) + (th : Nat) else [(TL.getD m []).getD v 0 * (K : Int) + (th : Nat)] := by
            rw [hrow]; unfold rowP
            rw [hK2, hpv, hpm, ← hTL, ← hZ, ← hgl, ← hth]
          have nxv : nx g v = g.next[v] := by simp [nx, hvn]
          rw [owv, hasv, nxv] at hrp
          have fin1 : vK + (m + 1) = p + 1 := by omega
          refine AW.ghost (S' := ⟨271, [(1, .ro false (bools2 la)), (2, .ro false (bools2 lb)), (3, .rop [.ro false (ints g.owner), .ro false (rows g.next)]), (7, .ro false (avS L)), (8, .ro true (bools Z)), (10, .int .i64 K), (11, .mu o M), (12, .mu s M), (13, .ro false (bools2 aL)), (14, .ro false (bools2 bL)), (19, .int .i64 (atN m : Int)), (20, .int .i64 (v : Int)), (21, .int .i64 (m : Int)), (22, .int .i64 (th : Int)), (94, .ro true (bools Z)), (95, .int .i64 n), (96, .int .i64 v), (99, .int .i64 K), (100, .int .i64 m)], PHg h s o (frP Z M K (p + 1)) M row f nn p 0⟩) (GStep.eq (by simp) (subH.refl _)) ?_
          refine AW.seq fun _ k4 => ?_
          by_cases c : g.owner[v] = 0 ∨ Z[v] = false
          · rw [if_pos c] at hrp
            have hatm : atN (m + 1) = atN m := by rw [hat, hat, if_pos c, if_pos c]
            refine AW.seqTo ⟨271, [(1, .ro false (bools2 la)), (2, .ro false (bools2 lb)), (3, .rop [.ro false (ints g.owner), .ro false (rows g.next)]), (7, .ro false (avS L)), (8, .ro true (bools Z)), (10, .int .i64 K), (11, .mu o M), (12, .mu s M), (13, .ro false (bools2 aL)), (14, .ro false (bools2 bL)), (19, .int .i64 (atN m : Int)), (20, .int .i64 (v : Int)), (21, .int .i64 (m : Int)), (22, .int .i64 (th : Int)), (94, .ro true (bools Z)), (95, .int .i64 n), (96, .int .i64 v), (99, .int .i64 K), (100, .int .i64 m), (142, .bool true)], PHg h s o (frP Z M K (p + 1)) M row f nn p 0⟩ (fun _ k5 => ?_) ?_
            · by_cases o1 : g.owner[v] = 0
              · refine AW.region [] Θ_ok ?_
                simp [hvo, o1]
                exact k5 _ (GStep.eq (by simp) (subH.refl _))
              · have z1 := c.resolve_left o1
                refine AW.region [] Θ_ok ?_
                simp [hvo, o1, hvZ, z1]
                exact k5 _ (GStep.eq (by simp) (subH.refl _))
            have hrl := (may_row hm hvo hvn).2
            have rlen : (row p).length = g.next[v].length := by rw [hrp]; simp
            have hwide : g.next[v].length ≤ 17592186044416 := hf.row _ (List.getElem_mem hvn)
            refine AW.cond true (by simp [Int.natCast_inj]) (fun _ => ?_) (fun h => by cases h)
            refine AW.seq fun _ k5 => ?_
            refine AW.seq fun _ k6 => AW.region [] Θ_ok ?_
            simp [hvn]
            refine k6 _ ?_
            refine AW.block ?_
            refine AW.loopI (X := FX2) (fun t => FN (upd h s (some (obBk (frP Z M K (p + 1))))) o t.f M ∧ t.x ≤ g.next[v].length)
              (fun t => ⟨271, [(1, .ro false (bools2 la)), (2, .ro false (bools2 lb)), (3, .rop [.ro false (ints g.owner), .ro false (rows g.next)]), (7, .ro false (avS L)), (8, .ro true (bools Z)), (10, .int .i64 K), (11, .mu o M), (12, .mu s M), (13, .ro false (bools2 aL)), (14, .ro false (bools2 bL)), (19, .int .i64 (atN m : Int)), (20, .int .i64 (v : Int)), (21, .int .i64 (m : Int)), (22, .int .i64 (th : Int)), (94, .ro true (bools Z)), (95, .int .i64 n), (96, .int .i64 v), (99, .int .i64 K), (100, .int .i64 m), (147, .ro false (ints g.next[v])), (148, .int .i64 g.next[v].length), (149, .int .i64 t.x)], PHg h s o (frP Z M K (p + 1)) M row t.f t.nn p t.x⟩)
              (fun t => g.next[v].length - t.x) ⟨f, nn, 0⟩ ⟨N1, Nat.zero_le _⟩ (GStep.eq (by simp) (subH.refl _)) ?_
            clear N1 f nn
            rintro ⟨f, nn, y⟩ ⟨N, hy⟩
            simp only at N hy ⊢
            refine AW.seq fun _ k6 => AW.region [] Θ_ok ?_
            simp
            refine k6 _ ?_
            by_cases hly : y < g.next[v].length
            · obtain ⟨b0, b1⟩ := hrl _ (List.getElem_mem hly)
              obtain ⟨w, hw⟩ := Int.eq_ofNat_of_zero_le b0
              have hwn : w < n := by omega
              have incy := wrap_succ (show y < 9223372036854775807 by omega)
              have hyr : y < (row p).length := by omega
              have wK1 : w * K + K ≤ M := by
                have : (w + 1) * K ≤ n * K := Nat.mul_le_mul_right _ hwn
                rw [Nat.add_mul, Nat.one_mul] at this; omega
              obtain ⟨wK, hwK⟩ : ∃ wK, wK = w * K := ⟨_, rfl⟩
              rw [← hwK] at wK1
              have w3 : IntKind.i64.wrap ((w : Int) * (K : Int)) = (wK : Int) := by rw [hwK, ← Int.natCast_mul]; exact wrap_nat (by omega)
              obtain ⟨qq, hqq⟩ : ∃ qq, qq = wK + th := ⟨_, rfl⟩
              have w4 : IntKind.i64.wrap ((wK : Int) + (th : Int)) = (qq : Int) := by rw [hqq, ← Int.natCast_add]; exact wrap_nat (by omega)
              have hry : (row p)[y] = (qq : Int) := by
                have e : (row p)[y]? = some (qq : Int) := by
                  rw [hrp, List.getElem?_map, List.getElem?_eq_getElem hly, hw]
                  show some ((w : Int) * (K : Int) + (th : Int)) = _
                  rw [hqq, hwK]; push_cast; rfl
                rw [List.getElem?_eq_getElem hyr] at e
                exact Option.some.inj e
              have hst := fun i => plS_step row p i hyr
              simp only [hry] at hst
              have hO : PHg h s o (frP Z M K (p + 1)) M row f nn p y o = some (plC M f row p y) := PHg.at_o
              have hW : PHg h s o (frP Z M K (p + 1)) M row f nn p y (f p) = some (plR row nn p y p) := PHg.at_r N hpM
              obtain ⟨pl, hpl⟩ : ∃ pl, pl = plS row p y p := ⟨_, rfl⟩
              have lpl : pl.length = y := by rw [hpl, plS_at, List.length_take]; omega
              have hR : plR row nn p y p = obTd pl (nn p) := by rw [hpl]; rfl
              have hL2 : (plC M f row p y).cells.drop p = .mu (f p) y :: (plC M f row p y).cells.drop (p + 1) := by rw [PHg.cell hpM, ← hpl, lpl]
              have hCl : (plC M f row p y).cells.length = M := by simp [plC]
              have hCt : (plC M f row p y).ty = 22 ∧ (plC M f row p y).sz = 1 ∧ (plC M f row p y).nn = true := ⟨rfl, rfl, rfl⟩
              rw [hR] at hW
              refine AW.seq fun _ k6 => AW.cond true (by simp [Int.natCast_inj, hly]) (fun _ => ?_) (fun h => by cases h)
              refine AW.skip ?_
              simp
              refine k6 _ ?_
              refine AW.seq fun _ k6 => ?_
              refine AW.block ?_
              refine AW.seq fun _ k7 => AW.region [] Θ_ok ?_
              simp [hly, hw]
              refine k7 _ ?_
              refine AW.region [] Θ_ok ?_
              simp [w1, w2, w3, w4, hO, hL2, hCl, hpM, hW, appendA, hCt.1, hCt.2.1, lpl]
              refine ⟨rfl, ⟨by omega, by omega⟩, fun n' hn' => ?_⟩
              obtain ⟨hno, f', nn', N', he⟩ := PHg.app N hpM hyr hn' hpl hry
              rw [hno]
              simp only
              refine ⟨⟨trivial, by rw [hCl]; omega⟩, k6 _ ?_⟩
              rw [he]
              refine AW.region [] Θ_ok ?_
              simp
              exact ⟨⟨f', nn', y + 1⟩, ⟨N', hly⟩, by simp only; omega, GStep.eq (by simp [incy]) (subH.refl _)⟩
            · obtain rfl : y = g.next[v].length := by omega
              refine AW.seq fun _ k6 => AW.cond false (by simp [Int.natCast_inj]) (fun h => by cases h) (fun _ => ?_)
              refine AW.exit ?_
              simp
              rw [← rlen, PHg.full]
              refine k5 _ ?_
              refine AW.exit ?_
              simp
              refine k3 _ ?_
              refine AW.region [] Θ_ok ?_
              simp
              exact ⟨⟨f, nn, m + 1⟩, ⟨by rw [fin1]; exact N, hmK⟩, by simp only; omega, GStep.eq (by simp [incm, hatm]) (by simp only [fin1]; exact subH.refl _)⟩
          · rw [if_neg c] at hrp
            have c' := c
            simp only [not_or] at c
            obtain ⟨c1, c2⟩ := c
            have c2 : Z[v] = true := by simpa using c2
            have ow1 : ow g v = 1 := by
              rcases hcases with q | q
              · rw [owv] at q; exact absurd q c1
              · exact q
            have z1 : hasN (solveL g la lb).1 v = true := by rw [← hZ, hasv]; exact c2
            obtain ⟨to, q1, q2, q4⟩ := (plan_row hm la lb (m := m) (by rw [hK2]; exact hmK)).own v hvo z1 ow1
            rw [← hTL] at q1
            have eT2 := pnV_get (TL := TL) (goals := goals) (m := m) ⟨by rw [hasv]; exact c2, ow1⟩ (by rw [← hK]; exact hmK) g.owner.length hvo
            rw [q1, ← hth, ← hcnt] at eT2
            have hatm : atN m = cnt v + m := by rw [hat, if_neg c']
            have hatm1 : atN (m + 1) = atN m + 1 := by rw [hat, hat, if_neg c', if_neg c']; omega
            have eL : L[atN m]? = some ⟨(v : Nat), (m : Nat), (to : Nat), (th : Nat)⟩ := by
              rw [hatm, eLg]; exact eT2
            have ton : to < n := by rw [hn']; exact gE_lt hm q2 hvo
            obtain ⟨q, eq⟩ : ∃ q, q = to * K + th := ⟨_, rfl⟩
            have toZ : to < Z.length := by omega
            obtain ⟨atm, hatm2⟩ : ∃ atm, atm = atN m := ⟨_, rfl⟩
            rw [← hatm2] at eL hatm1 ⊢
            have lat : atm < L.length := (List.getElem?_eq_some_iff.1 eL).1
            have eL2 := (List.getElem?_eq_some_iff.1 eL).2
            have lS : (avS L).length = L.length := by simp [avS]
            have latS : atm < (avS L).length := by omega
            have gx : (avS L)[atm] = .agg [.int .i64 v, .int .i64 m, .int .i64 to, .int .i64 th] := by simp [avS, S4.l, eL2]
            have nat1 : ¬ L.length ≤ atm := by omega
            have L3 : L.length ≤ 12000 := by have := cL3 n (Nat.le_refl _); omega
            have incat := wrap_succ (show atm < 9223372036854775807 by omega)
            rw [q1, show ((to : Nat) : Int) * (K : Int) + ((th : Nat) : Int) = (q : Int) by rw [eq]; push_cast; rfl] at hrp
            clear eT2 eT
            have nlen : ¬ (L.length : Int) ≤ (atm : Int) := by omega
            refine AW.seqTo ⟨271, [(1, .ro false (bools2 la)), (2, .ro false (bools2 lb)), (3, .rop [.ro false (ints g.owner), .ro false (rows g.next)]), (7, .ro false (avS L)), (8, .ro true (bools Z)), (10, .int .i64 K), (11, .mu o M), (12, .mu s M), (13, .ro false (bools2 aL)), (14, .ro false (bools2 bL)), (19, .int .i64 (atm : Int)), (20, .int .i64 (v : Int)), (21, .int .i64 (m : Int)), (22, .int .i64 (th : Int)), (94, .ro true (bools Z)), (95, .int .i64 n), (96, .int .i64 v), (99, .int .i64 K), (100, .int .i64 m), (142, .bool false)], PHg h s o (frP Z M K (p + 1)) M row f nn p 0⟩ (fun _ k5 => ?_) ?_
            · refine AW.region [] Θ_ok ?_
              simp [hvo, c1, hvZ, c2]
              exact k5 _ (GStep.eq (by simp) (subH.refl _))
            refine AW.cond false (by simp [Int.natCast_inj]) (fun h => by cases h) (fun _ => ?_)
            refine AW.skip ?_
            simp
            refine k4 _ ?_
            refine AW.seq fun _ k4 => ?_
            refine AW.seq fun _ k5 => AW.regionAt 12 [] Θ_ok fun B hB => ?_
            simp [lS, lat, latS, gx, nat1, nlen]
            refine hB _ ?_
            clear hB B
            refine vcOps_split 10 fun B hB => ?_
            simp [lS, lat, latS, gx, nat1, nlen]
            refine hB _ ?_
            clear hB B
            simp [lS, lat, latS, gx, nat1, nlen]
            refine k5 _ ?_
            refine AW.cond false (by simp [Int.natCast_inj]) (fun h => by cases h) (fun _ => ?_)
            refine AW.skip ?_
            simp
            refine k4 _ ?_
            refine AW.seq fun _ k4 => AW.region [] Θ_ok ?_
            simp
            refine k4 _ ?_
            refine AW.seqTo ⟨271, [(1, .ro false (bools2 la)), (2, .ro false (bools2 lb)), (3, .rop [.ro false (ints g.owner), .ro false (rows g.next)]), (7, .ro false (avS L)), (8, .ro true (bools Z)), (10, .int .i64 K), (11, .mu o M), (12, .mu s M), (13, .ro false (bools2 aL)), (14, .ro false (bools2 bL)), (19, .int .i64 (atm : Int)), (20, .int .i64 (v : Int)), (21, .int .i64 (m : Int)), (22, .int .i64 (th : Int)), (94, .ro true (bools Z)), (95, .int .i64 n), (96, .int .i64 v), (99, .int .i64 K), (100, .int .i64 m), (25, .bool true)], PHg h s o (frP Z M K (p + 1)) M row f nn p 0⟩ (fun _ k5 => ?_) ?_
            · obtain ⟨w0, hw0m⟩ : ∃ i, ∃ h : i < g.next[v].length, g.next[v][i] = (to : Int) := by
                rw [gE, nxv] at q2
                obtain ⟨i, hi, e⟩ := List.getElem_of_mem q2
                exact ⟨i, hi, e⟩
              obtain ⟨okF, hok⟩ : ∃ okF : Nat → Bool, ∀ y, okF y = (g.next[v].take y).any (· == (to : Int)) := ⟨fun y => (g.next[v].take y).any (· == (to : Int)), fun y => rfl⟩
              have ok0 : okF 0 = false := by rw [hok]; rfl
              have okS : ∀ y (hy : y < g.next[v].length), okF (y + 1) = (okF y || g.next[v][y] == (to : Int)) := fun y hy => by
                rw [hok, hok, List.take_succ_eq_append_getElem hy, List.any_append]; simp
              have okE : okF g.next[v].length = true := by
                obtain ⟨h1, h2⟩ := hw0m
                rw [hok, List.take_length, List.any_eq_true]
                exact ⟨_, List.getElem_mem h1, by rw [h2]; simp⟩
              have hrl := (may_row hm hvo hvn).2
              have hwide : g.next[v].length ≤ 17592186044416 := hf.row _ (List.getElem_mem hvn)
              refine AW.seq fun _ k6 => AW.region [] Θ_ok ?_
              simp [hvn]
              refine k6 _ ?_
              refine AW.block ?_
              refine AW.loopI (X := Nat) (fun y => y ≤ g.next[v].length) (fun y => ⟨271, [(1, .ro false (bools2 la)), (2, .ro false (bools2 lb)), (3, .rop [.ro false (ints g.owner), .ro false (rows g.next)]), (7, .ro false (avS L)), (8, .ro true (bools Z)), (10, .int .i64 K), (11, .mu o M), (12, .mu s M), (13, .ro false (bools2 aL)), (14, .ro false (bools2 bL)), (19, .int .i64 (atm : Int)), (20, .int .i64 (v : Int)), (21, .int .i64 (m : Int)), (22, .int .i64 (th : Int)), (94, .ro true (bools Z)), (95, .int .i64 n), (96, .int .i64 v), (99, .int .i64 K), (100, .int .i64 m), (25, .bool (okF y)), (211, .ro false (ints g.next[v])), (212, .int .i64 g.next[v].length), (213, .int .i64 y)], PHg h s o (frP Z M K (p + 1)) M row f nn p 0⟩) (fun y => g.next[v].length - y) 0 (Nat.zero_le _) (GStep.eq (by simp [ok0]) (subH.refl _)) fun y hy => ?_
              refine AW.seq fun _ k6 => AW.region [] Θ_ok ?_
              simp
              refine k6 _ ?_
              by_cases hly : y < g.next[v].length
              · obtain ⟨b0, b1⟩ := hrl _ (List.getElem_mem hly)
                obtain ⟨w, hw⟩ := Int.eq_ofNat_of_zero_le b0
                have hwZ : w < Z.length := by omega
                have incy := wrap_succ (show y < 9223372036854775807 by omega)
                have st := okS y hly
                rw [hw] at st
                refine AW.seq fun _ k6 => AW.cond true (by simp [Int.natCast_inj, hly]) (fun _ => ?_) (fun h => by cases h)
                refine AW.skip ?_
                simp
                refine k6 _ ?_
                refine AW.seq fun _ k6 => ?_
                refine AW.block ?_
                refine AW.seq fun _ k7 => AW.region [] Θ_ok ?_
                simp [hly, hw]
                refine k7 _ ?_
                cases hb : okF y with
                | true =>
                  rw [hb, Bool.true_or] at st
                  refine AW.region [] Θ_ok ?_
                  simp
                  refine k6 _ ?_
                  refine AW.region [] Θ_ok ?_
                  simp
                  exact ⟨y + 1, hly, by omega, GStep.eq (by simp [incy, st]) (subH.refl _)⟩
                | false =>
                  rw [hb, Bool.false_or] at st
                  by_cases e : w = to
                  · subst e
                    rw [beq_self_eq_true] at st
                    refine AW.region [] Θ_ok ?_
                    simp [latS, gx, hwZ]
                    refine k6 _ ?_
                    refine AW.region [] Θ_ok ?_
                    simp
                    exact ⟨y + 1, hly, by omega, GStep.eq (by simp [incy, st]) (subH.refl _)⟩
                  · have e' : ¬ (w : Int) = (to : Int) := by omega
                    have e'' : ((w : Int) == (to : Int)) = false := beq_eq_false_iff_ne.2 e'
                    rw [e''] at st
                    refine AW.region [] Θ_ok ?_
                    simp [latS, gx, hwZ, e, e', e'']
                    refine k6 _ ?_
                    refine AW.region [] Θ_ok ?_
                    simp
                    exact ⟨y + 1, hly, by omega, GStep.eq (by simp [incy, st]) (subH.refl _)⟩
              · obtain rfl : y = g.next[v].length := by omega
                refine AW.seq fun _ k6 => AW.cond false (by simp [Int.natCast_inj]) (fun h => by cases h) (fun _ => ?_)
                refine AW.exit ?_
                simp
                exact k5 _ (GStep.eq (by simp [okE]) (subH.refl _))
            refine AW.seq fun _ k4 => ?_
            refine AW.seq fun _ k5 => AW.region [] Θ_ok ?_
            simp
            refine k5 _ ?_
            refine AW.cond false (by simp [Int.natCast_inj]) (fun h => by cases h) (fun _ => ?_)
            refine AW.skip ?_
            simp
            refine k4 _ ?_
            refine AW.seq fun _ k4 => AW.region [245] Θ_ok ?_
            obtain ⟨toK, htoK⟩ : ∃ toK, toK = to * K := ⟨_, rfl⟩
            rw [← htoK] at eq
            have q3' : q < M := by
              have h4 : (to + 1) * K ≤ n * K := Nat.mul_le_mul_right _ ton
              rw [Nat.add_mul, Nat.one_mul, ← htoK] at h4
              rw [hM, eq]; omega
            have w5 : IntKind.i64.wrap ((to : Int) * (K : Int)) = (toK : Int) := by rw [htoK, ← Int.natCast_mul]; exact wrap_nat (by omega)
            have w6 : IntKind.i64.wrap ((toK : Int) + (th : Int)) = (q : Int) := by rw [eq, ← Int.natCast_add]; exact wrap_nat (by omega)
            have hCl : (plC M f row p 0).cells.length = M := by simp [plC]
            simp [hvo, w1, w2, latS, gx, w5, w6, hpM]
            refine fun n' hn'' => ?_
            obtain ⟨hno, f', nn', N', hsub⟩ := PHg.new N1 hpM hrp hn''
            rw [hno]
            simp only
            refine ⟨⟨trivial, by rw [hCl]; omega⟩, k4 _ ?_⟩
            refine AW.ghost (S' := ⟨271, [(1, .ro false (bools2 la)), (2, .ro false (bools2 lb)), (3, .rop [.ro false (ints g.owner), .ro false (rows g.next)]), (7, .ro false (avS L)), (8, .ro true (bools Z)), (10, .int .i64 K), (11, .mu o M), (12, .mu s M), (13, .ro false (bools2 aL)), (14, .ro false (bools2 bL)), (19, .int .i64 (atm : Int)), (20, .int .i64 (v : Int)), (94, .ro true (bools Z)), (95, .int .i64 n), (96, .int .i64 v), (99, .int .i64 K), (100, .int .i64 m)], PHg h s o (frP Z M K (p + 1)) M row f' nn' (p + 1) 0⟩) (GStep.eq (by simp) hsub) ?_
            refine AW.region [] Θ_ok ?_
            simp [incat]
            refine k3 _ ?_
            refine AW.region [] Θ_ok ?_
            simp
            exact ⟨⟨f', nn', m + 1⟩, ⟨by rw [fin1]; exact N', hmK⟩, by simp only; omega, GStep.eq (by simp [incm, hatm1]) (by simp only [fin1]; exact subH.refl _)⟩
        · obtain rfl : m = K := by omega
          refine AW.seq fun _ k3 => AW.cond false (by simp [Int.natCast_inj]) (fun h => by cases h) (fun _ => ?_)
          refine AW.exit ?_
          simp
          refine k2 _ ?_
          rw [vKs] at N ⊢
          rw [atK]
          refine AW.region [] Θ_ok ?_
          simp
          exact ⟨⟨f, nn, v + 1⟩, ⟨N, hlt⟩, by simp only; omega, GStep.eq (by simp [inc]) (subH.refl _)⟩
      · obtain rfl : v = n := by omega
        refine AW.seq fun _ k2 => AW.cond false (by simp [Int.natCast_inj]) (fun h => by cases h) (fun _ => ?_)
        refine AW.exit ?_
        simp
        rw [← hM] at N ⊢
        rw [hcL]
        exact k1 _ ⟨f, nn, 0⟩ N (GStep.eq (by simp) (subH.refl _))
    rintro ⟨f, nn, _⟩ N
    simp only at N ⊢
    have hC2 : plC M f row M 0 = ⟨tab M fun i => if i < M then .mu (f i) (row i).length else .ro false (ints (row i)), 22, 1, true⟩ := by
      unfold plC; congr 1; exact tab_congr fun i hi => by rw [if_pos hi]; unfold plS; rw [if_pos hi]
    have hR2 : ∀ i, i < M → plR row nn M 0 i = obTd (row i) (nn i) := fun i hi => by unfold plR plS; rw [if_pos hi]; rfl
    unfold PHg
    rw [hC2]
    refine AW.ghost (GStep.rows N (R := plR row nn M 0) (A := fun i => .ro false (ints (row i))) (fun i hi => by rw [hR2 i hi]; rfl) (fun i hi => by rw [hR2 i hi]; simp [obTd]) (fun i hi u hu => ?_) (fun i hi => by rw [hR2 i hi]; rfl) M (Nat.le_refl _)) ?_
    · rw [hR2 i hi] at hu
      obtain ⟨_, _, rfl⟩ := List.mem_map.1 hu; rfl
    refine AW.freeze 11 false rfl (upd_same _ _ _) (fun e => by cases e) rfl (by simp) (fun u hu => by obtain ⟨i, _, rfl⟩ := mem_tab.1 hu; rfl) ?_
    simp only
    rw [upd_upd, upd_none_id N.out]
    refine AW.freeze 12 false rfl (upd_same _ _ _) (fun e => by cases e) rfl (by simp [frP]) (fun u hu => by obtain ⟨i, _, rfl⟩ := List.mem_map.1 hu; rfl) ?_
    simp only
    rw [upd_upd, upd_none_id hs0]
    obtain ⟨NX, hNX⟩ : ∃ NX, NX = tab M row := ⟨_, rfl⟩
    have eNX : (tab M fun i => AV.ro false (ints (row i))) = rows NX := by rw [hNX, rows, map_tab]
    have lNX : NX.length = M := by rw [hNX]; simp
    rw [eNX, obBk_cells]
    have lM : M = g.owner.length * (rowsL g lb).length := by rw [hM, hn', hK2]
    have gNX : ∀ i, i < M → NX.getD i [] = row i := fun i hi => by rw [hNX, getD_tab, if_pos hi]
    have vlt : ∀ p, p < M → p / (rowsL g lb).length < g.owner.length := fun p hp => Nat.div_lt_of_lt_mul (by rw [lM, Nat.mul_comm] at hp; exact hp)
    have eNE : ∀ p q, kE NX p q → p < M ∧ (q : Int) ∈ rowP g la lb p := fun p q hq => by
      have h1 : p < M := by rw [← lNX]; exact hq.1
      refine ⟨h1, ?_⟩
      have := hq.2
      rw [gNX p h1, hrow] at this; exact this
    have big : BigOk NX := by
      refine ⟨by omega, fun l hl => ?_, fun l hl w hw => ?_⟩
      · rw [hNX] at hl
        obtain ⟨i, hi, rfl⟩ := mem_tab.1 hl
        rw [hrow]
        exact Nat.le_trans (rowP_len hm (vlt i hi)) (by decide)
      · rw [hNX] at hl
        obtain ⟨i, hi, rfl⟩ := mem_tab.1 hl
        rw [hrow] at hw
        have := rowP_lt hm (vlt i hi) hw
        rw [lNX, lM]; exact this
    have hM2 : NX.length = g.owner.length * (rowsL g lb).length := by rw [lNX, lM]
    obtain ⟨un, us⟩ := plan_fair (A := la) (E := lb) hm hM2 (from_ := frP Z M K M) (a := aL) (b := bL) (fun p hp q => by
        rw [lNX] at hp
        rw [frP, hasN, getD_tab, if_pos hp] at q
        rw [← hZ, hK2]
        simpa [hp] using q) (fun p q hp z e => by
        rw [lNX] at hp
        exact rowP_edge hm (vlt p hp) z (eNE p q e).2) (fun i hi => by
        rw [haL, lNX, hK2]
        exact List.mem_map.2 ⟨la[i], List.getElem_mem hi, by simp [hi]⟩) (fun r hr => by
        rw [hbL] at hr
        obtain ⟨x, hx, rfl⟩ := List.mem_map.1 hr
        obtain ⟨j, hj, rfl⟩ := List.getElem_of_mem hx
        exact ⟨j, hj, by rw [lNX, hK2]; simp [hj]⟩)
    have aLl : aL.length ≤ 17592186044416 := by rw [haL, List.length_map]; exact Nat.le_trans a4 (by decide)
    have bLl : bL.length ≤ 17592186044416 := by rw [hbL, List.length_map]; exact Nat.le_trans e4 (by decide)
    have sU := r9_Fair NX big (frP Z M K M) aL bL aLl bLl
    rw [un] at sU
    have sY := l19_stays NX big Z K k0' (by rw [lNX, hM, lZ]; exact Nat.le_refl _) (fun p q e z => by
      have := us p q e.1 (by rw [hK2, ← hZ]; exact z) e
      rwa [hK2, ← hZ] at this)
    have lS : (avS L).length = L.length := by simp [avS]
    refine AW.seq fun _ kr => AW.regionAt 10 [] Θ_ok fun B hB => ?_
    simp [lS]
    refine sU.use (by simp) ?_
    refine hB _ ?_
    clear hB B
    refine vcOps_split 6 fun B hB => ?_
    simp
    refine sY.use (by simp) ?_
    refine hB _ ?_
    clear hB B
    refine vcOps_split 3 fun B hB => ?_
    simp
    refine l19_awake.use (by simp) ?_
    refine hB _ ?_
    clear hB B
    simp
    refine kr _ (AW.ret ?_)
    simp [Try.f3]
    exact Fin.refl ⟨rfl, rfl⟩
  · rw [pnA, if_neg hok] at sS
    have hok2 : ¬ (mayE g = 0 ∧ la.length ≤ 4 ∧ lb.length ≤ 4) := hok
    rw [gr1A, if_neg hok2] at sG
    refine AW.seq fun _ k1 => AW.regionAt 4 [] Θ_ok fun B hB => ?_
    simp
    refine sS.use (by simp [G.av]) ?_
    refine hB _ ?_
    clear hB B
    simp
    refine k1 _ ?_
    refine AW.seq fun _ k1 => AW.regionAt 4 [] Θ_ok fun B hB => ?_
    simp
    refine sG.use (by simp [G.av]) ?_
    refine hB _ ?_
    clear hB B
    simp
    refine k1 _ ?_
    refine AW.seq fun _ k1 => ?_
    refine AW.seq fun _ k2 => AW.region [] Θ_ok ?_
    simp
    refine k2 _ ?_
    refine AW.cond true (by simp [Int.natCast_inj]) (fun _ => ?_) (fun h => by cases h)
    refine AW.seq fun _ kr => AW.regionAt 5 [] Θ_ok fun B hB => ?_
    simp
    refine l19_awake.use (by simp) ?_
    refine hB _ ?_
    clear hB B
    simp
    refine kr _ (AW.ret ?_)
    simp [Try.f3]
    exact Fin.refl ⟨rfl, rfl⟩
end Go.Par
