import Derived.Test.YtihlpchiomkinaaRkA
import Derived.Test.YtihlpchiomkinaaAgA
set_option linter.unusedSimpArgs false
set_option linter.unusedVariables false
set_option maxRecDepth 8000
set_option maxHeartbeats 1000000
namespace Go.Par
open Go.Proofs

/-! ### Ranks, round by round: plain laws -/
noncomputable def rkV (g : G) (who : Int) (s : List Bool) (k v : Nat) : Int := if hasN (lev g who s k) v then rkN g who s v else -1
noncomputable def rkS (g : G) (who : Int) (s : List Bool) (k : Nat) : List Int := tab g.owner.length (rkV g who s k)
/-- Half of a round. -/
noncomputable def rkX (g : G) (who : Int) (s : List Bool) (k x : Nat) : List Int := tab g.owner.length fun v => if v < x then rkV g who s (k + 1) v else rkV g who s k v

section
variable {g : G} {who : Int} {s : List Bool} {k x v : Nat}
theorem rkS_len : (rkS g who s k).length = g.owner.length := length_tab _ _
theorem rkX_len : (rkX g who s k x).length = g.owner.length := length_tab _ _
theorem rkX_zero : rkX g who s k 0 = rkS g who s k := tab_congr fun v _ => by rw [if_neg (Nat.not_lt_zero _)]
theorem rkX_full : rkX g who s k g.owner.length = rkS g who s (k + 1) := tab_congr fun v hv => by rw [if_pos hv]
theorem rkX_get (h : x < (rkX g who s k x).length) : (rkX g who s k x)[x] = rkV g who s k x := by
  have hx : x < g.owner.length := by rwa [rkX_len] at h
  have : (rkX g who s k x).getD x 0 = rkV g who s k x := by rw [rkX, getD_tab, if_pos hx, if_neg (Nat.lt_irrefl _)]
  simpa [h] using this
theorem rkX_set {y : Int} (hx : rkV g who s (k + 1) x = y) : (rkX g who s k x).set x y = rkX g who s k (x + 1) := by
  rw [rkX, set_tab]
  refine tab_congr fun v _ => ?_
  by_cases e : v = x
  · subst e; simp [hx]
  · by_cases h : v < x
    · simp [e, h, show v < x + 1 by omega]
    · simp [e, h, show ¬ v < x + 1 by omega]
theorem rkX_not (hx : rkV g who s (k + 1) x = rkV g who s k x) : rkX g who s k x = rkX g who s k (x + 1) := by
  refine tab_congr fun v _ => ?_
  by_cases e : v = x
  · subst e; simp [hx]
  · by_cases h : v < x
    · simp [h, show v < x + 1 by omega]
    · simp [h, show ¬ v < x + 1 by omega]
theorem rkV_neg (hv : v < g.owner.length) : rkV g who s k v < 0 ↔ hasN (lev g who s k) v = false := by
  unfold rkV
  cases q : hasN (lev g who s k) v with
  | false => simp
  | true =>
    have := (rk_le_iff (g := g) (who := who) (a := s) (k := k) (v := v)).2 q
    simp; omega
/-- Who is new in a round. -/
theorem rkV_new (hv : v < g.owner.length) (h1 : hasN (lev g who s k) v = false) (h2 : forceP g who (lev g who s k) v = true) : rkV g who s (k + 1) v = ((k + 1 : Nat) : Int) := by
  have hl : lv g who s (k + 1) v := (lv_succ hv).2 (.inr h2)
  have ha : atR g who s v (k + 1) := ⟨hl, fun j hj q => by
    have := lv_mono q (show j ≤ k by omega)
    unfold lv at this
    rw [h1] at this; cases this⟩
  rw [rkV, if_pos (show hasN (lev g who s (k + 1)) v = true from hl), rk_at ha]
theorem rkV_old (hv : v < g.owner.length) (h : hasN (lev g who s k) v = true ∨ forceP g who (lev g who s k) v = false) : rkV g who s (k + 1) v = rkV g who s k v := by
  have key : hasN (lev g who s (k + 1)) v = hasN (lev g who s k) v := by
    rw [lev, has_or hv, has_force hv]
    rcases h with q | q <;> simp [q]
  unfold rkV; rw [key]
theorem rkS_stop (h : ∀ v, v < g.owner.length → hasN (lev g who s (k + 1)) v = hasN (lev g who s k) v) : rkS g who s k = ranksL g who s := by
  have all : ∀ j, ∀ v, v < g.owner.length → lv g who s (k + j) v → lv g who s k v := by
    intro j
    have e : ∀ j, lev g who s (k + j) = lev g who s k := by
      intro j
      induction j with
      | zero => rfl
      | succ j ih =>
        have e1 : lev g who s (k + 1) = lev g who s k := by
          apply leS.antisymm (lev_len _) (lev_len _) <;> intro v hv q
          · rw [h v hv] at q; exact q
          · rw [h v hv]; exact q
        rw [show k + (j + 1) = (k + j) + 1 by omega, lev, ih, ← lev, e1]
    intro v hv q
    unfold lv at q ⊢
    rw [e] at q; exact q
  refine tab_congr fun v hv => ?_
  unfold rkV
  cases q : hasN (lev g who s k) v with
  | true => rfl
  | false =>
    rcases rk_cases (g := g) (who := who) (s := s) v with ⟨h1, _⟩ | ⟨j, h1, hj⟩
    · simp [h1]
    · have : lv g who s k v := by
        by_cases c : k ≤ j
        · exact all (j - k) v hv (by rw [show k + (j - k) = j by omega]; exact hj.1)
        · exact lv_mono hj.1 (by omega)
      unfold lv at this
      rw [q] at this; cases this
theorem rkS_stop' (h : ∀ v, v < g.owner.length → hasN (lev g who s (k + 1)) v = hasN (lev g who s k) v) : rkS g who s (k + 1) = ranksL g who s := by
  rw [← rkS_stop h]
  exact tab_congr fun v hv => by unfold rkV; rw [h v hv]
theorem rkS_full : rkS g who s g.owner.length = ranksL g who s := by
  refine tab_congr fun v hv => ?_
  unfold rkV
  cases q : hasN (lev g who s g.owner.length) v with
  | true => rfl
  | false =>
    rcases rk_cases (g := g) (who := who) (s := s) v with ⟨h1, _⟩ | ⟨j, h1, hj⟩
    · simp [h1]
    · have := rank_le hj
      have := lv_mono hj.1 this
      unfold lv at this
      rw [q] at this; cases this
end

def RKl (g : G) (a b : Nat) (L : List Bool) (R : List Int) : List (Nat × Ob) := [(b, obI R), (a, obB L)]
def RKH (h : Heap) (g : G) (a b : Nat) (L : List Bool) (R : List Int) : Heap := HL h (RKl g a b L R)
abbrev RKN (h : Heap) (a b : Nat) : Prop := HN h [b, a]
section
variable {h : Heap} {a b : Nat} (N : RKN h a b) (g : G) (L : List Bool) (R : List Int)
include N
theorem RKH.gb : RKH h g a b L R b = some (obI R) := HL.at (k := 0) N.nd rfl
theorem RKH.ga : RKH h g a b L R a = some (obB L) := HL.at (k := 1) N.nd rfl
theorem RKH.putB (R' : List Int) : upd (RKH h g a b L R) b (some (obI R')) = RKH h g a b L R' := HL.put (k := 0) N.nd rfl
theorem RKH.putA (L' : List Bool) : upd (RKH h g a b L R) a (some (obB L')) = RKH h g a b L' R := HL.put (k := 1) N.nd rfl
end

structure RmX where
  y : Nat
  m : Bool
def rk0Y (g : G) (s : List Bool) (x : Nat) : List Int := tab g.owner.length fun v => if v < x then (if hasN s v then 0 else -1) else 0
theorem rk0Y_len (g : G) (s : List Bool) (x : Nat) : (rk0Y g s x).length = g.owner.length := length_tab _ _
theorem rk0Y_set (g : G) (s : List Bool) (x : Nat) {y : Int} (hy : (if hasN s x then (0 : Int) else -1) = y) : (rk0Y g s x).set x y = rk0Y g s (x + 1) := by
  rw [rk0Y, set_tab]
  refine tab_congr fun v _ => ?_
  by_cases e : v = x
  · subst e; simp [hy]
  · by_cases h : v < x
    · simp [e, h, show v < x + 1 by omega]
    · simp [e, h, show ¬ v < x + 1 by omega]
theorem rk0Y_full (g : G) (who : Int) (s : List Bool) : rk0Y g s g.owner.length = rkS g who s 0 := tab_congr fun v hv => by
  rw [if_pos hv, rkV]
  have e : hasN (lev g who s 0) v = hasN s v := by rw [lev, hasN_tab hv]
  rw [e]
  cases q : hasN s v with
  | false => rfl
  | true => simp; exact (rk_all q hv).symm
/-- What is known so far, while it is told anew. -/
noncomputable def nowY (g : G) (who : Int) (s : List Bool) (k x : Nat) : List Bool := tab g.owner.length fun v => if v < x then hasN (lev g who s (k + 1)) v else hasN (lev g who s k) v
theorem nowY_len (g : G) (who : Int) (s : List Bool) (k x : Nat) : (nowY g who s k x).length = g.owner.length := length_tab _ _
theorem nowY_set (g : G) (who : Int) (s : List Bool) (k x : Nat) : (nowY g who s k x).set x (hasN (lev g who s (k + 1)) x) = nowY g who s k (x + 1) := by
  rw [nowY, set_tab]
  refine tab_congr fun v _ => ?_
  by_cases e : v = x
  · subst e; simp
  · by_cases h : v < x
    · simp [e, h, show v < x + 1 by omega]
    · simp [e, h, show ¬ v < x + 1 by omega]
theorem tab_has {l : List Bool} {n : Nat} (hl : l.length = n) : (tab n fun v => hasN l v) = l := (tab_ext hl fun i hi => by simp [hasN, show i < l.length by omega]).symm
theorem nowY_zero (g : G) (who : Int) (s : List Bool) (k : Nat) : nowY g who s k 0 = lev g who s k := by
  rw [← tab_has (l := lev g who s k) (lev_len k)]
  exact tab_congr fun v hv => by simp
theorem nowY_full (g : G) (who : Int) (s : List Bool) (k : Nat) : nowY g who s k g.owner.length = lev g who s (k + 1) := by
  rw [← tab_has (l := lev g who s (k + 1)) (lev_len (k + 1))]
  exact tab_congr fun v hv => by simp [hv]

theorem r9_Ranks (g : G) (hf : g.fits) (who : Int) (s : List Bool) : Pure Try.prog 61 [g.av, .int .i64 who, .ro false (bools s)] (ranksA g who s) := by
  intro h
  refine AC.body Θ_ok Try.func61 rfl rfl (Nat.le_of_ble_eq_true rfl) ?_
  refine AW.seq fun _ k1 => AW.region [] Θ_ok ?_
  simp
  refine k1 _ ?_
  refine AW.seq fun _ k1 => ?_
  by_cases hm : mayE g = 0
  · by_cases hw : who = 0 ∨ who = 1
    · have hok : okForce g who := ⟨hm, hw⟩
      have hn3 := (may_ok hm).1
      have hfin : ranksA g who s = .ro true (ints (ranksL g who s)) := if_pos ⟨hm, hw⟩
      have hw' : (who == 0 || who == 1) = true := by rcases hw with h | h <;> simp [h]
      have sP := r9_Player who
      rw [hw'] at sP
      have sR := r9_RowM g hf.owner s h
      rw [show rowL g s = lev g who s 0 from rfl] at sR
      refine AW.seq fun _ k2 => AW.regionAt 2 [] Θ_ok fun B hB => ?_
      simp
      refine (r9_May g hf).use (by simp [G.av]) ?_
      refine hB _ ?_
      clear hB B
      refine vcOps_split 4 fun B hB => ?_
      simp [hm]
      refine sP.use (by simp) ?_
      refine hB _ ?_
      clear hB B
      simp
      refine k2 _ ?_
      refine AW.cond false (by simp [Int.natCast_inj]) (fun h => by cases h) (fun _ => ?_)
      refine AW.skip ?_
      simp
      refine k1 _ ?_
      refine AW.seq fun _ k1 => AW.regionAt 3 [] Θ_ok fun B hB => ?_
      simp
      refine (sR.wk (by simp [G.av])).mono ?_
      rintro r h' ⟨a, ha, rfl, rfl⟩
      refine hB _ ?_
      clear hB B
      simp
      refine k1 _ ?_
      have l0 : (lev g who s 0).length = g.owner.length := lev_len 0
      refine AW.seq fun _ k1 => AW.region [28] Θ_ok ?_
      simp
      refine ⟨by omega, fun b hb => k1 _ ?_⟩
      rw [replicate_tab, flat_tab (fun _ _ => rfl)]
      have e0 : (tab g.owner.length fun _ => AV.int .i64 0) = (rk0Y g s 0).map (AV.int .i64) := by
        rw [rk0Y, map_tab]; exact tab_congr fun v _ => by simp
      rw [e0, obI_mk]
      have N : RKN h a b := HL.new (l := [(a, obB (lev g who s 0))]) (HL.new (l := []) ⟨List.nodup_nil, fun o ho => by cases ho⟩ ha) hb
      rw [show upd (upd h a (some (obB (lev g who s 0)))) b (some (obI (rk0Y g s 0))) = RKH h g a b (lev g who s 0) (rk0Y g s 0) from rfl]
      clear e0 ha hb sR
      refine AW.seq fun _ k1 => ?_
      refine AW.seq fun _ k2 => AW.region [] Θ_ok ?_
      simp
      refine k2 _ ?_
      refine AW.block ?_
      refine AW.loopI (X := Nat) (fun x => x ≤ g.owner.length) (fun x => ⟨91, [(1, .int .i64 who), (3, .rop [.ro false (ints g.owner), .ro false (rows g.next)]), (7, .mu a g.owner.length), (8, .mu b g.owner.length), (30, .int .i64 g.owner.length), (31, .int .i64 x)], RKH h g a b (lev g who s 0) (rk0Y g s x)⟩) (fun x => g.owner.length - x) 0 (Nat.zero_le _) (GStep.eq (by simp) (subH.refl _)) fun x hx => ?_
      refine AW.seq fun _ k2 => AW.region [] Θ_ok ?_
      simp
      refine k2 _ ?_
      by_cases hlt : x < g.owner.length
      · have inc := wrap_succ (show x < 9223372036854775807 by omega)
        have hltL : x < (lev g who s 0).length := by omega
        have hL : (lev g who s 0)[x] = hasN s x := by
          have : hasN (lev g who s 0) x = hasN s x := by rw [lev, hasN_tab hlt]
          simpa [hasN, hltL] using this
        have set2 := fun y => rk0Y_set g s x (y := y)
        have lX := rk0Y_len g s x
        generalize hWs : rk0Y g s (x + 1) = T2 at *
        generalize rk0Y g s x = T1 at *
        generalize lev g who s 0 = L0 at *
        have gb := RKH.gb N g L0 T1
        have pB := RKH.putB N g L0 T1 (T1.set x (-1))
        have gb2 := RKH.gb N g L0 (T1.set x (-1))
        have ga2 := RKH.ga N g L0 (T1.set x (-1))
        have pB2 := RKH.putB N g L0 (T1.set x (-1)) ((T1.set x (-1)).set x 0)
        have mX := map_set_int T1 x (-1)
        have lX3 : (T1.set x (-1)).length = g.owner.length := by simp [lX]
        have e3 : (T1.set x (-1)).set x 0 = T1.set x 0 := List.set_set ..
        rw [e3] at pB2
        have mX2 := map_set_int (T1.set x (-1)) x 0
        rw [e3] at mX2
        have dL := map_drop_bool L0 hltL
        rw [hL] at dL
        clear e3
        generalize hT3 : T1.set x (-1) = T3 at *
        generalize hT4 : T1.set x 0 = T4 at *
        refine AW.seq fun _ k2 => AW.cond true (by simp [Int.natCast_inj, hlt]) (fun _ => ?_) (fun h => by cases h)
        refine AW.skip ?_
        simp
        refine k2 _ ?_
        refine AW.seq fun _ k2 => ?_
        refine AW.block ?_
        refine AW.seq fun _ k3 => AW.region [] Θ_ok ?_
        simp
        refine k3 _ ?_
        refine AW.seq fun _ k3 => AW.region [] Θ_ok ?_
        simp [gb, hlt, lX, mX, obI_mk, pB]
        refine ⟨by omega, k3 _ ?_⟩
        refine AW.seq fun _ k3 => AW.region [] Θ_ok ?_
        simp [ga2, hlt, dL]
        refine k3 _ ?_
        cases hb : hasN s x
        · refine AW.cond false (by simp [Int.natCast_inj, hb]) (fun h => by cases h) (fun _ => ?_)
          refine AW.skip ?_
          simp
          refine k2 _ ?_
          refine AW.region [] Θ_ok ?_
          simp
          have e := set2 (-1) (by rw [hb]; rfl)
          exact ⟨x + 1, by omega, by omega, GStep.eq (by simp [inc]) (subH_of_eq (by rw [hWs, ← e, hT3]))⟩
        · refine AW.cond true (by simp [Int.natCast_inj, hb]) (fun _ => ?_) (fun h => by cases h)
          refine AW.region [] Θ_ok ?_
          simp [gb2, hlt, lX3, mX2, obI_mk, pB2]
          refine ⟨by omega, k2 _ ?_⟩
          have e := set2 0 (by rw [hb]; rfl)
          refine AW.region [] Θ_ok ?_
          simp
          exact ⟨x + 1, by omega, by omega, GStep.eq (by simp [inc]) (subH_of_eq (by rw [hWs, ← e, hT4]))⟩
      obtain rfl : x = g.owner.length := by omega
      refine AW.seq fun _ k2 => AW.cond false (by simp [Int.natCast_inj]) (fun h => by cases h) (fun _ => ?_)
      refine AW.exit ?_
      simp
      refine k1 _ ?_
      rw [rk0Y_full g who s]
      clear l0
      have hsub : ∀ L R, subH h (upd (RKH h g a b L R) b none) := fun L R => by
        have nb : h b = none := N.free _ (by simp)
        intro o x hx
        rw [upd_ne _ _ (fun e => by rw [e, nb] at hx; cases hx)]
        exact HL.sub N o x hx
      refine AW.seq fun _ k1 => ?_
      refine AW.seq fun _ k2 => AW.region [] Θ_ok ?_
      simp
      refine k2 _ ?_
      refine AW.block ?_
      refine AW.loopI (X := Nat) (fun k => k ≤ g.owner.length) (fun k => ⟨91, [(1, .int .i64 who), (3, .rop [.ro false (ints g.owner), .ro false (rows g.next)]), (7, .mu a g.owner.length), (8, .mu b g.owner.length), (10, .int .i64 (k + 1 : Nat))], RKH h g a b (lev g who s k) (rkS g who s k)⟩) (fun k => g.owner.length - k) 0 (Nat.zero_le _) (GStep.eq (by simp) (subH.refl _)) fun k hk => ?_
      refine AW.seq fun _ k2 => ?_
      have gbk := RKH.gb N g (lev g who s k) (rkS g who s k)
      have gak := RKH.ga N g (lev g who s k) (rkS g who s k)
      have lS : (rkS g who s k).length = g.owner.length := rkS_len
      have lLk : (lev g who s k).length = g.owner.length := lev_len k
      refine AW.seq fun _ k3 => AW.region [] Θ_ok ?_
      simp
      refine k3 _ ?_
      by_cases hlt : k + 1 ≤ g.owner.length
      · have hltI : ((k + 1 : Nat) : Int) ≤ g.owner.length := by omega
        have hltI2 : (k : Int) + 1 ≤ g.owner.length := by omega
        have hltk : k < g.owner.length := by omega
        refine AW.cond true (by simp [hltk, hltI, hltI2]) (fun _ => ?_) (fun h => by cases h)
        refine AW.skip ?_
        simp
        refine k2 _ ?_
        refine AW.seq fun _ k2 => ?_
        refine AW.block ?_
        refine AW.seq fun _ k3 => AW.region [] Θ_ok ?_
        simp
        refine k3 _ ?_
        refine AW.seq fun _ k3 => ?_
        have sF := AC.lendNew (h := RKH h g a b (lev g who s k) (rkS g who s k)) (us := [g.av, .int .i64 who, .mu a g.owner.length]) (us' := [g.av, .int .i64 who, .ro false (bools (lev g who s k))]) (.cons (.same (show wk _ _ from rfl)) (.cons (.same (show wk _ _ from rfl)) (.cons (Lend.bools gak lLk) .nil))) (fun h0 => r9_ForceM g hf who (lev g who s k) hok h0) (fun u hu => by obtain ⟨z, _, rfl⟩ := List.mem_map.1 hu; rfl) rfl
        refine AW.seq fun _ k4 => AW.regionAt 4 [] Θ_ok fun B hB => ?_
        simp
        refine sF.mono ?_
        rintro r h' ⟨c, hc, rfl, rfl⟩
        refine hB _ ?_
        clear hB B
        simp
        refine k4 _ ?_
        have hF : ∀ v, v < g.owner.length → hasN (forceL g who (lev g who s k)) v = forceP g who (lev g who s k) v := fun v hv => has_force hv
        have lF := len_force g who (lev g who s k)
        generalize forceL g who (lev g who s k) = F at *
        refine AW.freeze 54 true rfl (upd_same _ _ _) (fun _ => rfl) rfl (by simp [lF]) (fun u hu => by obtain ⟨z, _, rfl⟩ := List.mem_map.1 hu; rfl) ?_
        simp only [upd_upd, upd_none_id hc]
        rw [← rkX_zero]
        clear sF hc gbk gak lS
        refine AW.block ?_
        refine AW.loopI (X := RmX) (fun z => z.y ≤ g.owner.length ∧ (z.m = false → ∀ v, v < z.y → hasN (lev g who s (k + 1)) v = hasN (lev g who s k) v)) (fun z => ⟨91, [(1, .int .i64 who), (3, .rop [.ro false (ints g.owner), .ro false (rows g.next)]), (7, .mu a g.owner.length), (8, .mu b g.owner.length), (10, .int .i64 (k + 1 : Nat)), (11, .bool z.m), (54, .ro true (bools F)), (55, .int .i64 g.owner.length), (56, .int .i64 z.y)], RKH h g a b (lev g who s k) (rkX g who s k z.y)⟩) (fun z => g.owner.length - z.y) ⟨0, false⟩ ⟨Nat.zero_le _, fun _ v hv => absurd hv (Nat.not_lt_zero v)⟩ (GStep.eq (by simp) (subH.refl _)) ?_
        rintro ⟨y, more⟩ ⟨hy, hmore⟩
        simp only at hy hmore ⊢
        refine AW.seq fun _ k4 => AW.region [] Θ_ok ?_
        simp
        refine k4 _ ?_
        by_cases hlt2 : y < g.owner.length
        · have inc2 := wrap_succ (show y < 9223372036854775807 by omega)
          have hltF : y < F.length := by omega
          have hFy : F[y] = forceP g who (lev g who s k) y := by
            have := hF y hlt2
            simpa [hasN, hltF] using this
          have vneg := rkV_neg (g := g) (who := who) (s := s) (k := k) hlt2
          have vnew := rkV_new (g := g) (who := who) (s := s) (k := k) hlt2
          have vold := rkV_old (g := g) (who := who) (s := s) (k := k) hlt2
          have lX : (rkX g who s k y).length = g.owner.length := rkX_len
          have gX := rkX_get (g := g) (who := who) (s := s) (k := k) (x := y) (by omega)
          have xset := fun z => rkX_set (g := g) (who := who) (s := s) (k := k) (x := y) (y := z)
          have xnot := rkX_not (g := g) (who := who) (s := s) (k := k) (x := y)
          have lvS : hasN (lev g who s (k + 1)) y = (hasN (lev g who s k) y || forceP g who (lev g who s k) y) := by rw [lev, has_or hlt2, has_force hlt2]
          rw [← hFy] at vnew vold lvS
          have hXl : y < (rkX g who s k y).length := by omega
          have dX := map_drop_int (rkX g who s k y) hXl
          rw [gX] at dX
          clear gX hXl
          generalize hW2 : rkX g who s k (y + 1) = X2 at *
          generalize rkX g who s k y = X1 at *
          have gb := RKH.gb N g (lev g who s k) X1
          have pB := RKH.putB N g (lev g who s k) X1 (X1.set y ((k : Int) + 1))
          have mX := map_set_int X1 y ((k : Int) + 1)
          generalize hX3 : X1.set y ((k : Int) + 1) = X3 at *
          generalize hH : RKH h g a b (lev g who s k) X1 = H at *
          generalize rkV g who s k y = v0 at *
          generalize rkV g who s (k + 1) y = v1 at *
          refine AW.seq fun _ k4 => AW.cond true (by simp [Int.natCast_inj, hlt2]) (fun _ => ?_) (fun h => by cases h)
          refine AW.skip ?_
          simp
          refine k4 _ ?_
          refine AW.seq fun _ k4 => ?_
          refine AW.block ?_
          refine AW.seq fun _ k5 => AW.region [] Θ_ok ?_
          simp [hltF]
          refine k5 _ ?_
          cases hb : F[y]
          · have e1 := vold (.inr hb)
            refine AW.seq fun _ k5 => AW.region [] Θ_ok ?_
            simp [hb]
            refine k5 _ ?_
            refine AW.cond false (by simp [Int.natCast_inj, hb]) (fun h => by cases h) (fun _ => ?_)
            refine AW.skip ?_
            simp
            refine k4 _ ?_
            refine AW.region [] Θ_ok ?_
            simp
            refine ⟨⟨y + 1, more⟩, ⟨by simp only; omega, fun e v hv => ?_⟩, by simp only; omega, GStep.eq (by simp [inc2]) (subH_of_eq (by simp only [hW2]; rw [← xnot e1, hH]))⟩
            by_cases c : v = y
            · subst c; rw [lvS, hb, Bool.or_false]
            · exact hmore e v (by simp only at hv; omega)
          · by_cases c1 : v0 < 0
            · have e0 := vneg.1 c1
              have e1 : v1 = (k : Int) + 1 := by have := vnew e0 hb; omega
              have e2 := xset _ e1
              rw [hX3] at e2
              subst e2
              refine AW.seq fun _ k5 => AW.region [] Θ_ok ?_
              simp [hb, gb, hlt2, dX, c1]
              refine k5 _ ?_
              refine AW.cond true (by simp [Int.natCast_inj, hb, c1]) (fun _ => ?_) (fun h => by cases h)
              refine AW.region [] Θ_ok ?_
              simp [gb, hlt2, lX, mX, obI_mk, pB]
              refine ⟨by omega, k4 _ ?_⟩
              refine AW.region [] Θ_ok ?_
              simp
              exact ⟨⟨y + 1, true⟩, ⟨by simp only; omega, fun e => (by cases e)⟩, by simp only; omega, GStep.eq (by simp [inc2]) (subH_of_eq (by simp only [hW2]))⟩
            · have c2 : 0 ≤ v0 := by omega
              have e0 : hasN (lev g who s k) y = true := by
                cases q : hasN (lev g who s k) y with
                | true => rfl
                | false => exact absurd (vneg.2 q) c1
              have e1 := vold (.inl e0)
              refine AW.seq fun _ k5 => AW.region [] Θ_ok ?_
              simp [hb, gb, hlt2, dX, c1, c2]
              refine k5 _ ?_
              refine AW.cond false (by simp [Int.natCast_inj, hb, c1, c2]) (fun h => by cases h) (fun _ => ?_)
              refine AW.skip ?_
              simp
              refine k4 _ ?_
              refine AW.region [] Θ_ok ?_
              simp
              refine ⟨⟨y + 1, more⟩, ⟨by simp only; omega, fun e v hv => ?_⟩, by simp only; omega, GStep.eq (by simp [inc2]) (subH_of_eq (by simp only [hW2]; rw [← xnot e1, hH]))⟩
              by_cases c : v = y
              · subst c; rw [lvS, e0, Bool.true_or]
              · exact hmore e v (by simp only at hv; omega)
        obtain rfl : y = g.owner.length := by omega
        rw [rkX_full]
        have lS : (rkS g who s (k + 1)).length = g.owner.length := rkS_len
        refine AW.seq fun _ k4 => AW.cond false (by simp [Int.natCast_inj]) (fun h => by cases h) (fun _ => ?_)
        refine AW.exit ?_
        simp
        refine k3 _ ?_
        refine AW.seq fun _ k3 => ?_
        refine AW.seq fun _ k4 => AW.region [] Θ_ok ?_
        simp
        refine k4 _ ?_
        cases more
        · have est := rkS_stop' (hmore rfl)
          refine AW.cond true (by simp [Int.natCast_inj]) (fun _ => ?_) (fun h => by cases h)
          refine AW.exit ?_
          simp
          refine k1 _ ?_
          refine AW.seq fun _ kr => AW.region [] Θ_ok ?_
          simp
          refine kr _ (AW.ret ?_)
          simp [Try.f61]
          refine Fin.freeze (k := true) (RKH.gb N g _ _) (fun _ => rfl) rfl (by simp [lS]) (fun u hu => by obtain ⟨z, _, rfl⟩ := List.mem_map.1 hu; rfl) h (hsub _ _) ⟨?_, rfl⟩
          rw [hfin, ← est]; rfl
        · clear hmore
          refine AW.cond false (by simp [Int.natCast_inj]) (fun h => by cases h) (fun _ => ?_)
          refine AW.skip ?_
          simp
          refine k3 _ ?_
          refine AW.seq fun _ k3 => AW.region [] Θ_ok ?_
          simp
          refine k3 _ ?_
          refine AW.block ?_
          refine AW.loopI (X := Nat) (fun y => y ≤ g.owner.length) (fun y => ⟨91, [(1, .int .i64 who), (3, .rop [.ro false (ints g.owner), .ro false (rows g.next)]), (7, .mu a g.owner.length), (8, .mu b g.owner.length), (10, .int .i64 (k + 1 : Nat)), (77, .int .i64 g.owner.length), (78, .int .i64 y)], RKH h g a b (nowY g who s k y) (rkS g who s (k + 1))⟩) (fun y => g.owner.length - y) 0 (Nat.zero_le _) (GStep.eq (by simp) (subH_of_eq (by rw [nowY_zero]))) fun y hy => ?_
          refine AW.seq fun _ k3 => AW.region [] Θ_ok ?_
          simp
          refine k3 _ ?_
          by_cases hlt2 : y < g.owner.length
          · have inc2 := wrap_succ (show y < 9223372036854775807 by omega)
            have hyl : y < (rkS g who s (k + 1)).length := by omega
            have hv : (rkS g who s (k + 1))[y] = rkV g who s (k + 1) y := by
              have : (rkS g who s (k + 1)).getD y 0 = rkV g who s (k + 1) y := by rw [rkS, getD_tab, if_pos hlt2]
              simpa [hyl] using this
            have hge : decide (0 ≤ rkV g who s (k + 1) y) = hasN (lev g who s (k + 1)) y := by
              have := rkV_neg (g := g) (who := who) (s := s) (k := k + 1) hlt2
              cases q : hasN (lev g who s (k + 1)) y with
              | false => rw [q] at this; have := this.2 rfl; simp; omega
              | true => rw [q] at this; have : ¬ rkV g who s (k + 1) y < 0 := fun c => by have := this.1 c; cases this
                        simp; omega
            have set2 := nowY_set g who s k y
            have dS := map_drop_int (rkS g who s (k + 1)) hyl
            rw [hv] at dS
            clear hv
            have lX := nowY_len g who s k y
            rw [← hge] at set2
            generalize hWs : nowY g who s k (y + 1) = L2 at *
            generalize nowY g who s k y = L1 at *
            have gb := RKH.gb N g L1 (rkS g who s (k + 1))
            have ga := RKH.ga N g L1 (rkS g who s (k + 1))
            have pA := RKH.putA N g L1 (rkS g who s (k + 1)) L2
            have mX := map_set_bool L1 y (decide (0 ≤ rkV g who s (k + 1) y))
            rw [set2] at mX
            generalize rkV g who s (k + 1) y = v1 at *
            generalize rkS g who s (k + 1) = S1 at *
            generalize hH : RKH h g a b L1 S1 = H at *
            refine AW.seq fun _ k3 => AW.cond true (by simp [Int.natCast_inj, hlt2]) (fun _ => ?_) (fun h => by cases h)
            refine AW.skip ?_
            simp
            refine k3 _ ?_
            refine AW.seq fun _ k3 => ?_
            refine AW.block ?_
            refine AW.seq fun _ k4 => AW.region [] Θ_ok ?_
            simp
            refine k4 _ ?_
            refine AW.region [] Θ_ok ?_
            simp [gb, ga, hlt2, dS, lX, mX, obB_mk, pA]
            refine ⟨by omega, k3 _ ?_⟩
            refine AW.region [] Θ_ok ?_
            simp
            exact ⟨y + 1, by omega, by omega, GStep.eq (by simp [inc2]) (subH_of_eq (by rw [hWs, ← pA]))⟩
          obtain rfl : y = g.owner.length := by omega
          rw [nowY_full]
          refine AW.seq fun _ k3 => AW.cond false (by simp [Int.natCast_inj]) (fun h => by cases h) (fun _ => ?_)
          refine AW.exit ?_
          simp
          refine k2 _ ?_
          have inc3 : IntKind.i64.wrap ((k : Int) + 1 + 1) = (k : Int) + 1 + 1 := wrap_id (by omega) (by omega)
          refine AW.region [] Θ_ok ?_
          simp
          exact ⟨k + 1, by omega, by omega, GStep.eq (by simp [inc3]) (subH.refl _)⟩
      · have hnI : ¬ ((k + 1 : Nat) : Int) ≤ g.owner.length := by omega
        have hnI2 : ¬ (k : Int) + 1 ≤ g.owner.length := by omega
        obtain rfl : k = g.owner.length := by omega
        refine AW.cond false (by simp [hnI, hnI2]) (fun h => by cases h) (fun _ => ?_)
        refine AW.exit ?_
        simp
        refine k1 _ ?_
        refine AW.seq fun _ kr => AW.region [] Θ_ok ?_
        simp
        refine kr _ (AW.ret ?_)
        simp [Try.f61]
        refine Fin.freeze (k := true) (RKH.gb N g _ _) (fun _ => rfl) rfl (by simp [lS]) (fun u hu => by obtain ⟨z, _, rfl⟩ := List.mem_map.1 hu; rfl) h (hsub _ _) ⟨?_, rfl⟩
        rw [hfin, ← rkS_full]; rfl
    · have hfin : ranksA g who s = .nils := if_neg fun q => hw q.2
      have hw' : (who == 0 || who == 1) = false := by
        cases q : (who == 0 || who == 1) with
        | false => rfl
        | true => exact absurd (by simpa using q) hw
      have sP := r9_Player who
      rw [hw'] at sP
      refine AW.seq fun _ k2 => AW.regionAt 2 [] Θ_ok fun B hB => ?_
      simp
      refine (r9_May g hf).use (by simp [G.av]) ?_
      refine hB _ ?_
      clear hB B
      refine vcOps_split 4 fun B hB => ?_
      simp [hm]
      refine sP.use (by simp) ?_
      refine hB _ ?_
      clear hB B
      simp
      refine k2 _ ?_
      refine AW.cond true (by simp [Int.natCast_inj]) (fun _ => ?_) (fun h => by cases h)
      refine AW.seq fun _ kr => AW.region [] Θ_ok ?_
      simp
      refine kr _ (AW.ret ?_)
      simp [Try.f61]
      exact Fin.refl ⟨hfin.symm, rfl⟩
  · have hfin : ranksA g who s = .nils := if_neg fun q => hm q.1
    refine AW.seq fun _ k2 => AW.regionAt 2 [] Θ_ok fun B hB => ?_
    simp
    refine (r9_May g hf).use (by simp [G.av]) ?_
    refine hB _ ?_
    clear hB B
    simp [hm]
    refine k2 _ ?_
    refine AW.cond true (by simp [Int.natCast_inj, hm]) (fun _ => ?_) (fun h => by cases h)
    refine AW.seq fun _ kr => AW.region [] Θ_ok ?_
    simp
    refine kr _ (AW.ret ?_)
    simp [Try.f61]
    exact Fin.refl ⟨hfin.symm, rfl⟩
end Go.Par
