/- The system's plan: what it is made of. -/
import Derived.Test.YtaipmknajpbpkaaPnA
import Derived.Test.YtaipmknajpbpkaaGrA
import Derived.Test.YtaipmknajpbpkaaKsD
set_option linter.unusedSimpArgs false
set_option linter.unusedVariables false
set_option maxRecDepth 8000
set_option maxHeartbeats 2000000
namespace Go.Par
open Go.Proofs

theorem wrapU {n : Nat} (h : n < 18446744073709551616) : IntKind.u64.wrap (n : Int) = n := by
  unfold IntKind.wrap
  simp [IntKind.bits, IntKind.signed]
  omega
theorem andI_mask {n : Nat} (h : n < 4294967296) : andI .u64 n 4294967295 = n := by
  unfold andI
  have e : (BitVec.ofInt IntKind.u64.bits (n : Int) &&& BitVec.ofInt IntKind.u64.bits 4294967295).toNat = n := by
    rw [BitVec.toNat_and]
    have a : (BitVec.ofInt IntKind.u64.bits (n : Int)).toNat = n := by
      show (BitVec.ofInt 64 (n : Int)).toNat = n
      rw [BitVec.toNat_ofInt]; omega
    have b : (BitVec.ofInt IntKind.u64.bits 4294967295).toNat = 2 ^ 32 - 1 := by decide
    rw [a, b, Nat.and_two_pow_sub_one_eq_mod]; omega
  rw [e]; exact wrapU (by omega)
theorem shrI_32 {n : Nat} (h : n < 4294967296) : shrI .u64 n 32 = 0 := by
  unfold shrI
  have e : min (32 : Int).toNat IntKind.u64.bits = 32 := by decide
  rw [e, Int.fdiv_eq_ediv_of_nonneg _ (by decide)]
  exact Int.ediv_eq_zero_of_lt (by omega) (by omega)

theorem bits_Mul64 (n : Nat) (hn : n ≤ 100000) : Pure Try.prog 113 [.int .u64 1, .int .u64 n] (.tup [.int .u64 0, .int .u64 n]) := by
  have a1 := andI_mask (n := 1) (by omega)
  have a2 := andI_mask (n := n) (by omega)
  have a0 := andI_mask (n := 0) (by omega)
  have s1 := shrI_32 (n := 1) (by omega)
  have s2 := shrI_32 (n := n) (by omega)
  have s0 := shrI_32 (n := 0) (by omega)
  have w := wrapU (n := n) (by omega)
  have w0 := wrapU (n := 0) (by omega)
  simp only [Int.natCast_zero, Int.natCast_one] at a1 a0 s1 s0 w0
  intro h
  refine AC.body Θ_ok Try.func113 rfl rfl (Nat.le_of_ble_eq_true rfl) ?_
  refine AW.seq fun _ k1 => AW.region [] Θ_ok ?_
  simp
  refine k1 _ ?_
  refine AW.seq fun _ k1 => AW.region [] Θ_ok ?_
  simp [a1]
  refine k1 _ ?_
  refine AW.seq fun _ k1 => AW.region [] Θ_ok ?_
  simp [s1]
  refine k1 _ ?_
  refine AW.seq fun _ k1 => AW.region [] Θ_ok ?_
  simp [a2]
  refine k1 _ ?_
  refine AW.seq fun _ k1 => AW.region [] Θ_ok ?_
  simp [s2]
  refine k1 _ ?_
  refine AW.seq fun _ k1 => AW.region [] Θ_ok ?_
  simp [w]
  refine k1 _ ?_
  refine AW.seq fun _ k1 => AW.region [] Θ_ok ?_
  simp [s2, w0]
  refine k1 _ ?_
  refine AW.seq fun _ k1 => AW.region [] Θ_ok ?_
  simp [a0]
  refine k1 _ ?_
  refine AW.seq fun _ k1 => AW.region [] Θ_ok ?_
  simp [s0]
  refine k1 _ ?_
  refine AW.seq fun _ k1 => AW.region [] Θ_ok ?_
  simp [w0]
  refine k1 _ ?_
  refine AW.seq fun _ k1 => AW.region [] Θ_ok ?_
  simp [w0, s0]
  refine k1 _ ?_
  refine AW.seq fun _ kr => AW.region [] Θ_ok ?_
  simp [w]
  refine kr _ (AW.ret ?_)
  simp [Try.f113]
  exact Fin.refl ⟨rfl, rfl⟩

theorem bits_Mul (n : Nat) (hn : n ≤ 100000) : Pure Try.prog 96 [.int .u64 1, .int .u64 n] (.tup [.int .u64 0, .int .u64 n]) := by
  intro h
  refine AC.body Θ_ok Try.func96 rfl rfl (Nat.le_of_ble_eq_true rfl) ?_
  refine AW.seq fun _ k1 => AW.region [] Θ_ok ?_
  simp
  refine k1 _ ?_
  refine AW.seq fun _ k1 => ?_
  refine AW.cond false (by simp [Int.natCast_inj]) (fun h => by cases h) (fun _ => ?_)
  refine AW.skip ?_
  simp
  refine k1 _ ?_
  refine AW.seq fun _ k1 => AW.regionAt 3 [] Θ_ok fun B hB => ?_
  simp
  refine (bits_Mul64 n hn).use (by simp) ?_
  refine hB _ ?_
  clear hB B
  simp
  refine k1 _ ?_
  refine AW.seq fun _ kr => AW.region [] Θ_ok ?_
  simp
  refine kr _ (AW.ret ?_)
  simp [Try.f96]
  exact Fin.refl ⟨rfl, rfl⟩

def repL (n k : Nat) : List Int := List.replicate k (-1) ++ List.replicate (n - k) 0
theorem slices_Repeat (n : Nat) (hn : n ≤ 100000) (h : Heap) : AC Try.prog 71 [.ro true [.int .i64 (-1)], .int .i64 n] h fun r h' => ∃ o, h o = none ∧ r = .mu o n ∧ h' = upd h o (some (obTd (List.replicate n (-1)) true)) := by
  refine AC.body Θ_ok Try.func71 rfl rfl (Nat.le_of_ble_eq_true rfl) ?_
  have n0 : ¬ (n : Int) < 0 := by omega
  have w := wrapU (n := n) (by omega)
  have wi := wrap_nat (n := n) (by omega)
  have n9 : ¬ (9223372036854775807 : Int) < (n : Int) := by omega
  refine AW.seq fun _ k1 => AW.region [] Θ_ok ?_
  simp
  refine k1 _ ?_
  refine AW.seq fun _ k1 => ?_
  refine AW.seq fun _ k2 => AW.region [] Θ_ok ?_
  simp [n0]
  refine k2 _ ?_
  refine AW.cond false (by simp [Int.natCast_inj, n0]) (fun h => by cases h) (fun _ => ?_)
  refine AW.skip ?_
  simp
  refine k1 _ ?_
  have w1 : IntKind.u64.wrap 1 = 1 := wrapU (n := 1) (by omega)
  refine AW.seq fun _ k1 => AW.regionAt 6 [] Θ_ok fun B hB => ?_
  simp [w, w1]
  refine (bits_Mul n hn).use (by simp) ?_
  refine hB _ ?_
  clear hB B
  simp
  refine k1 _ ?_
  refine AW.seq fun _ k1 => ?_
  refine AW.seq fun _ k2 => AW.region [] Θ_ok ?_
  simp [n9]
  refine k2 _ ?_
  refine AW.cond false (by simp [Int.natCast_inj, n9]) (fun h => by cases h) (fun _ => ?_)
  refine AW.skip ?_
  simp
  refine k1 _ ?_
  refine AW.seq fun _ k1 => AW.region [30] Θ_ok ?_
  simp [wi]
  refine ⟨⟨by omega, by omega⟩, fun o ho => k1 _ ?_⟩
  rw [show List.replicate n (AV.int .i64 0) = ints (repL n 0) by simp [ints, repL], flat_ints]
  have rl : ∀ k, k ≤ n → (repL n k).length = n := fun k hk => by unfold repL; simp; omega
  have hO : ∀ L : List Int, upd h o (some (⟨ints L, 3, 1, true⟩ : Ob)) o = some (obTd L true) := fun L => upd_same _ _ _
  have step : ∀ k m, k + m ≤ n → m ≤ k ∨ (k = 0 ∧ m ≤ 1) → (ints (repL n k)).take k ++ List.replicate m (.int .i64 (-1)) ++ (ints (repL n k)).drop (k + m) = ints (repL n (k + m)) := fun k m h1 h2 => by
    unfold repL ints
    simp only [List.map_append, List.map_replicate]
    have e1 : List.take k (List.replicate k (AV.int .i64 (-1)) ++ List.replicate (n - k) (AV.int .i64 0)) = List.replicate k (AV.int .i64 (-1)) := by
      rw [List.take_append_of_le_length (by simp)]; simp
    have e2 : List.drop (k + m) (List.replicate k (AV.int .i64 (-1)) ++ List.replicate (n - k) (AV.int .i64 0)) = List.replicate (n - (k + m)) (AV.int .i64 0) := by
      rw [List.drop_append]; simp
      omega
    rw [e1, e2, List.replicate_append_replicate]
  obtain ⟨m1, hm1⟩ : ∃ m1, m1 = min 1 n := ⟨_, rfl⟩
  have st0 := step 0 m1 (by omega) (.inr ⟨rfl, by omega⟩)
  simp only [List.take_zero, List.nil_append, Nat.zero_add] at st0
  have lr0 : (ints (repL n 0)).length = n := by rw [List.length_map, rl 0 (by omega)]
  refine AW.seqTo ⟨48, [(7, .mu o n), (8, .int .i64 m1)], upd h o (some (obTd (repL n m1) true))⟩ (fun _ k1 => ?_) ?_
  · refine AW.region [] Θ_ok ?_
    simp [hO, lr0]
    refine k1 _ (GStep.eq (by simp [hm1]) (subH_of_eq ?_))
    have e : List.take (min 1 n) [AV.int .i64 (-1)] = List.replicate m1 (.int .i64 (-1)) := by
      rw [hm1]
      rcases Nat.eq_zero_or_pos n with q | q
      · subst q; rfl
      · rw [Nat.min_eq_left q]; rfl
    rw [e, ← hm1, st0]; rfl
  refine AW.seqTo ⟨48, [(7, .mu o n)], upd h o (some (obTd (repL n n) true))⟩ (fun _ k1 => ?_) ?_
  · refine AW.block ?_
    refine AW.loopI (X := Nat) (fun k => k ≤ n ∧ (0 < n → 0 < k)) (fun k => ⟨48, [(7, .mu o n), (8, .int .i64 k)], upd h o (some (obTd (repL n k) true))⟩) (fun k => n - k) m1 ⟨by omega, fun q => by omega⟩ (GStep.eq (by simp) (subH.refl _)) fun k hk => ?_
    obtain ⟨hk, hp⟩ := hk
    refine AW.seq fun _ k2 => ?_
    refine AW.seq fun _ k3 => AW.region [] Θ_ok ?_
    simp
    refine k3 _ ?_
    by_cases hlt : k < n
    · have hk0 : 0 < k := hp (by omega)
      obtain ⟨m, hm⟩ : ∃ m, m = min k (n - k) := ⟨_, rfl⟩
      have st := step k m (by omega) (.inl (by omega))
      have lrk : (repL n k).length = n := rl k hk
      have wk := wrap_nat (n := k + m) (by omega)
      have tk : List.take k (ints (repL n k)) = List.replicate k (.int .i64 (-1)) := by
        unfold repL ints
        simp only [List.map_append, List.map_replicate]
        rw [List.take_append_of_le_length (by simp)]; simp
      have hO : upd h o (some (obTd (repL n k) true)) o = some (obTd (repL n k) true) := upd_same _ _ _
      generalize repL n k = R at *
      refine AW.cond true (by simp [Int.natCast_inj, hlt]) (fun _ => ?_) (fun h => by cases h)
      refine AW.skip ?_
      simp
      refine k2 _ ?_
      refine AW.block ?_
      have hn0 : 0 < n := by omega
      have hmm : m = min k (n - k) := hm
      have kn : k + (n - k) ≤ n := by omega
      refine AW.draw [] 7 [] Θ_ok mixed (by kernel_rfl) (by kernel_rfl) ?_
      simp [vcDraw, vcPre, vcTail, callA, isAlloc, isLoad, effOp, obl, obA, mkOK, valA, hO, hlt, hk0, lrk, hk, tk, hn0, kn, ← hm]
      have mk : min m k = m := by omega
      rw [tk] at st
      refine ⟨k + m, ⟨by omega, by omega⟩, by omega, GStep.eq (by simp; rw [← Int.natCast_add]; exact wk) (subH_of_eq ?_)⟩
      rw [mk, ← List.append_assoc, st]; rfl
    · obtain rfl : k = n := by omega
      refine AW.cond false (by simp [Int.natCast_inj]) (fun h => by cases h) (fun _ => ?_)
      refine AW.exit ?_
      simp
      exact k1 _ (GStep.eq (by simp) (subH.refl _))
  refine AW.seq fun _ kr => AW.region [] Θ_ok ?_
  simp
  refine kr _ (AW.ret ?_)
  simp [Try.f71]
  exact Fin.refl ⟨o, ho, rfl, by simp [repL]⟩

theorem plan_has (r : List Bool) (v : Nat) : Pure Try.prog 78 [.ro false (bools r), .int .i64 v] (.bool (hasN r v)) := by
  intro h
  refine AC.body Θ_ok Try.func78 rfl rfl (Nat.le_of_ble_eq_true rfl) ?_
  refine AW.seq fun _ k1 => AW.region [] Θ_ok ?_
  simp
  refine k1 _ ?_
  by_cases h1 : v < r.length
  · have e : hasN r v = r[v] := by simp [hasN, h1]
    refine AW.seq fun _ kr => AW.region [] Θ_ok ?_
    simp [h1]
    refine kr _ (AW.ret ?_)
    simp [Try.f78]
    exact Fin.refl ⟨by simp [e], rfl⟩
  · have e : hasN r v = false := by simp [hasN, Nat.le_of_not_lt h1]
    refine AW.seq fun _ kr => AW.region [] Θ_ok ?_
    simp [h1]
    refine kr _ (AW.ret ?_)
    simp [Try.f78]
    exact Fin.refl ⟨by simp [e], rfl⟩

def thenN (l : List (List Bool)) (v mem : Nat) : Nat := if hasN (l.getD mem []) v = true then (mem + 1) % l.length else mem
theorem thenN_lt {l : List (List Bool)} {v mem : Nat} (h : mem < l.length) : thenN l v mem < l.length := by
  unfold thenN; split
  · exact Nat.mod_lt _ (by omega)
  · exact h
theorem plan_then (l : List (List Bool)) (v mem : Nat) (hq : mem < l.length) (hl : l.length ≤ 100) : Pure Try.prog 41 [.ro false (bools2 l), .int .i64 v, .int .i64 mem] (.int .i64 (thenN l v mem : Nat)) := by
  have sh := plan_has l[mem] v
  have w := wrap_succ (n := mem) (by omega)
  have l0 : ¬ (l.length : Int) = 0 := by omega
  have l0' : ¬ l = [] := fun e => by rw [e] at hq; simp at hq
  have em : ((mem + 1 : Nat) : Int).tmod (l.length : Int) = ((mem + 1) % l.length : Nat) := by rw [Int.tmod_eq_emod_of_nonneg (by omega)]; rfl
  have gm : l.getD mem [] = l[mem] := by simp [hq]
  unfold thenN
  rw [gm]
  intro h
  refine AC.body Θ_ok Try.func41 rfl rfl (Nat.le_of_ble_eq_true rfl) ?_
  refine AW.seq fun _ k1 => AW.region [] Θ_ok ?_
  simp
  refine k1 _ ?_
  refine AW.seq fun _ k1 => ?_
  refine AW.seq fun _ k2 => AW.regionAt 6 [] Θ_ok fun B hB => ?_
  simp [hq]
  refine sh.use (by simp) ?_
  refine hB _ ?_
  clear hB B
  simp
  refine k2 _ ?_
  by_cases c : hasN l[mem] v = true
  · rw [c]
    refine AW.cond true (by simp [Int.natCast_inj, c]) (fun _ => ?_) (fun h => by cases h)
    refine AW.seq fun _ kr => AW.region [] Θ_ok ?_
    simp [w, l0, l0', em]
    refine kr _ (AW.ret ?_)
    simp [Try.f41]
    exact Fin.refl ⟨by simp [c, Int.tmod_eq_emod_of_nonneg (show (0 : Int) ≤ (mem : Int) + 1 by omega)], rfl⟩
  · have c : hasN l[mem] v = false := by simpa using c
    rw [c]
    refine AW.cond false (by simp [Int.natCast_inj, c]) (fun h => by cases h) (fun _ => ?_)
    refine AW.skip ?_
    simp
    refine k1 _ ?_
    refine AW.seq fun _ kr => AW.region [] Θ_ok ?_
    simp
    refine kr _ (AW.ret ?_)
    simp [Try.f41]
    exact Fin.refl ⟨by simp [c], rfl⟩

theorem pure_weak {P : Program} {f : FuncId} {us : List AV} {r r' : AV} (H : Pure P f us r) (hw : weak r = r') : Pure P f us r' := fun h => (H h).fin fun _ _ ⟨e1, e2⟩ => by
  subst e1 e2; exact Fin.gv (GV.weaken (.inr hw)) (Fin.refl ⟨rfl, rfl⟩)
theorem plan_rows (g : G) (hf : g.fits) (l : List (List Bool)) : Pure Try.prog 39 [g.av, .ro false (bools2 l)] (.ro false (bools2 (rowsL g l))) := by
  refine pure_weak (r := rowsA g l) ?_ (rowsA_weak g l)
  intro h
  refine AC.body Θ_ok Try.func39 rfl rfl (Nat.le_of_ble_eq_true rfl) ?_
  refine AW.seq fun _ k1 => AW.region [] Θ_ok ?_
  simp
  refine k1 _ ?_
  refine AW.seq fun _ k1 => ?_
  refine AW.seq fun _ k2 => AW.region [] Θ_ok ?_
  simp
  refine k2 _ ?_
  by_cases hl : l = []
  · refine AW.cond true (by simp [Int.natCast_inj, hl]) (fun _ => ?_) (fun h => by cases h)
    refine AW.seq fun _ kr => AW.region [] Θ_ok ?_
    simp
    refine (pre_Not g [] hf.owner).use (by simp [G.av]) ?_
    simp
    refine kr _ (AW.ret ?_)
    simp [Try.f39]
    exact Fin.refl ⟨by simp [rowsA, hl, topL], rfl⟩
  · refine AW.cond false (by simp [Int.natCast_inj, hl]) (fun h => by cases h) (fun _ => ?_)
    refine AW.skip ?_
    simp
    refine k1 _ ?_
    refine AW.seq fun _ kr => AW.region [] Θ_ok ?_
    simp
    refine kr _ (AW.ret ?_)
    simp [Try.f39]
    exact Fin.refl ⟨by simp [rowsA, hl], rfl⟩

def planTh (g : G) (E : List (List Bool)) (v mem : Int) : Int := if mayE g = 0 ∧ E.length ≤ 4 ∧ 0 ≤ v ∧ v < g.owner.length ∧ 0 ≤ mem ∧ mem < (rowsL g E).length then (thenN (rowsL g E) v.toNat mem.toNat : Nat) else -1
theorem plan_Then (g : G) (hf : g.fits) (E : List (List Bool)) (v mem : Int) : Pure Try.prog 18 [g.av, .ro false (bools2 E), .int .i64 v, .int .i64 mem] (.int .i64 (planTh g E v mem)) := by
  have sM := graph_May g hf
  have sR := plan_rows g hf E
  obtain ⟨r, hr⟩ : ∃ r, r = planTh g E v mem := ⟨_, rfl⟩
  rw [← hr]
  unfold planTh at hr
  intro h
  refine AC.body Θ_ok Try.func18 rfl rfl (Nat.le_of_ble_eq_true rfl) ?_
  refine AW.seq fun _ k1 => AW.region [] Θ_ok ?_
  simp
  refine k1 _ ?_
  refine AW.seq fun _ k1 => ?_
  by_cases hm : mayE g = 0
  rotate_left
  · rw [if_neg (by rintro ⟨a1, a2, a3, a4, a5, a6⟩; exact hm a1)] at hr
    refine AW.seq fun _ k2 => AW.regionAt 2 [] Θ_ok fun B hB => ?_
    simp
    refine sM.use (by simp [G.av]) ?_
    refine hB _ ?_
    clear hB B
    simp [hm]
    refine k2 _ ?_
    refine AW.cond true (by simp [Int.natCast_inj, hm]) (fun _ => ?_) (fun h => by cases h)
    refine AW.seq fun _ kr => AW.region [] Θ_ok ?_
    simp
    refine kr _ (AW.ret ?_)
    simp [Try.f18]
    exact Fin.refl ⟨by rw [hr], rfl⟩
  by_cases h4 : E.length ≤ 4
  rotate_left
  · rw [if_neg (by rintro ⟨a1, a2, a3, a4, a5, a6⟩; exact h4 a2)] at hr
    have h4i : (4 : Int) < (E.length : Int) := by omega
    rw [hm] at sM
    refine AW.seq fun _ k2 => AW.regionAt 2 [] Θ_ok fun B hB => ?_
    simp
    refine sM.use (by simp [G.av]) ?_
    refine hB _ ?_
    clear hB B
    simp [h4, h4i]
    refine k2 _ ?_
    refine AW.cond true (by simp [Int.natCast_inj, h4, h4i]) (fun _ => ?_) (fun h => by cases h)
    refine AW.seq fun _ kr => AW.region [] Θ_ok ?_
    simp
    refine kr _ (AW.ret ?_)
    simp [Try.f18]
    exact Fin.refl ⟨by rw [hr], rfl⟩
  have h4j : ¬ (4 : Int) < (E.length : Int) := by omega
  have h4k : ¬ 4 < E.length := by omega
  by_cases h0 : 0 ≤ v
  rotate_left
  · rw [if_neg (by rintro ⟨a1, a2, a3, a4, a5, a6⟩; exact h0 a3)] at hr
    have h0i : v < 0 := by omega
    rw [hm] at sM
    refine AW.seq fun _ k2 => AW.regionAt 2 [] Θ_ok fun B hB => ?_
    simp
    refine sM.use (by simp [G.av]) ?_
    refine hB _ ?_
    clear hB B
    simp [h4j, h4k, h0, h0i]
    refine k2 _ ?_
    refine AW.cond true (by simp [Int.natCast_inj, h4j, h4k, h0, h0i]) (fun _ => ?_) (fun h => by cases h)
    refine AW.seq fun _ kr => AW.region [] Θ_ok ?_
    simp
    refine kr _ (AW.ret ?_)
    simp [Try.f18]
    exact Fin.refl ⟨by rw [hr], rfl⟩
  have h0j : ¬ v < 0 := by omega
  by_cases hn : v < g.owner.length
  rotate_left
  · rw [if_neg (by rintro ⟨a1, a2, a3, a4, a5, a6⟩; exact hn a4)] at hr
    have hni : (g.owner.length : Int) ≤ v := by omega
    rw [hm] at sM
    refine AW.seq fun _ k2 => AW.regionAt 2 [] Θ_ok fun B hB => ?_
    simp
    refine sM.use (by simp [G.av]) ?_
    refine hB _ ?_
    clear hB B
    simp [h4j, h4k, h0j, hn, hni]
    refine k2 _ ?_
    refine AW.cond true (by simp [Int.natCast_inj, h4j, h4k, h0j, hn, hni]) (fun _ => ?_) (fun h => by cases h)
    refine AW.seq fun _ kr => AW.region [] Θ_ok ?_
    simp
    refine kr _ (AW.ret ?_)
    simp [Try.f18]
    exact Fin.refl ⟨by rw [hr], rfl⟩
  have hnj : ¬ (g.owner.length : Int) ≤ v := by omega
  rw [hm] at sM
  refine AW.seq fun _ k2 => AW.regionAt 2 [] Θ_ok fun B hB => ?_
  simp
  refine sM.use (by simp [G.av]) ?_
  refine hB _ ?_
  clear hB B
  simp [h4j, h4k, h0j, hnj]
  refine k2 _ ?_
  refine AW.cond false (by simp [Int.natCast_inj, h4j, h4k, h0j, hnj]) (fun h => by cases h) (fun _ => ?_)
  refine AW.skip ?_
  simp
  refine k1 _ ?_
  refine AW.seq fun _ k1 => AW.regionAt 3 [] Θ_ok fun B hB => ?_
  simp
  refine sR.use (by simp [G.av]) ?_
  refine hB _ ?_
  clear hB B
  simp
  refine k1 _ ?_
  obtain ⟨a, rfl⟩ := Int.eq_ofNat_of_zero_le h0
  have rl : (rowsL g E).length ≤ 4 := rowsL_le g E h4
  generalize rowsL g E = l at *
  refine AW.seq fun _ k1 => ?_
  by_cases hb : 0 ≤ mem
  rotate_left
  · rw [if_neg (by rintro ⟨a1, a2, a3, a4, a5, a6⟩; exact hb a5)] at hr
    have hbi : mem < 0 := by omega
    refine AW.seq fun _ k2 => AW.region [] Θ_ok ?_
    simp [hbi]
    refine k2 _ ?_
    refine AW.cond true (by simp [Int.natCast_inj, hbi]) (fun _ => ?_) (fun h => by cases h)
    refine AW.seq fun _ kr => AW.region [] Θ_ok ?_
    simp
    refine kr _ (AW.ret ?_)
    simp [Try.f18]
    exact Fin.refl ⟨by rw [hr], rfl⟩
  have hbj : ¬ mem < 0 := by omega
  by_cases hc : mem < l.length
  rotate_left
  · rw [if_neg (by rintro ⟨a1, a2, a3, a4, a5, a6⟩; exact hc a6)] at hr
    have hci : (l.length : Int) ≤ mem := by omega
    refine AW.seq fun _ k2 => AW.region [] Θ_ok ?_
    simp [hbj, hci]
    refine k2 _ ?_
    refine AW.cond true (by simp [Int.natCast_inj, hbj, hci]) (fun _ => ?_) (fun h => by cases h)
    refine AW.seq fun _ kr => AW.region [] Θ_ok ?_
    simp
    refine kr _ (AW.ret ?_)
    simp [Try.f18]
    exact Fin.refl ⟨by rw [hr], rfl⟩
  have hcj : ¬ (l.length : Int) ≤ mem := by omega
  rw [if_pos ⟨hm, h4, h0, hn, hb, hc⟩] at hr
  obtain ⟨b, rfl⟩ := Int.eq_ofNat_of_zero_le hb
  have hcn : ¬ l.length ≤ b := by omega
  have sT := plan_then l a b (by omega) (by omega)
  refine AW.seq fun _ k2 => AW.region [] Θ_ok ?_
  simp [hbj, hcj, hcn]
  refine k2 _ ?_
  refine AW.cond false (by simp [Int.natCast_inj, hbj, hcj, hcn]) (fun h => by cases h) (fun _ => ?_)
  refine AW.skip ?_
  simp
  refine k1 _ ?_
  refine AW.seq fun _ kr => AW.regionAt 4 [] Θ_ok fun B hB => ?_
  simp
  refine sT.use (by simp) ?_
  refine hB _ ?_
  clear hB B
  simp
  refine kr _ (AW.ret ?_)
  simp [Try.f18]
  exact Fin.refl ⟨by rw [hr]; rfl, rfl⟩
end Go.Par
