/- Texts WpA WpD, one behind another. -/
import Derived.Test.YtigipgahgkngcaaKgA
set_option linter.unusedSimpArgs false
set_option linter.unusedVariables false
namespace Go.Par

def BadAt (E : Nat → Nat → Prop) (S : Nat → Prop) (pr : Nat → Int) (rest : Int) (w : Nat) : Prop := pr w % 2 ≠ rest ∧ Way E (fun x => S x ∧ pr x ≤ pr w) w w
def onR (next : List (List Int)) (from_ : List Bool) : Nat → Prop := kS next (reachL (nG next) from_)
def prPv (P : List Int) (v : Nat) : Int := P.getD v 0
open Classical in
noncomputable def parB (next : List (List Int)) (P : List Int) (from_ : List Bool) (rest : Int) : Bool := decide (¬ ∃ w, BadAt (kE next) (onR next from_) (prPv P) rest w)
open Classical in
theorem parB_iff {next : List (List Int)} {P : List Int} {from_ : List Bool} {rest : Int} : parB next P from_ rest = true ↔ ∀ w, ¬ BadAt (kE next) (onR next from_) (prPv P) rest w := by
  unfold parB
  rw [decide_eq_true_eq, not_exists]
theorem onR_iff {next : List (List Int)} {from_ : List Bool} {v : Nat} : onR next from_ v ↔ v < next.length ∧ Reaches (nG next) from_ v := by
  unfold onR kS
  constructor
  · rintro ⟨h1, h2⟩
    refine ⟨h1, ?_⟩
    have := (reachL_has.1 h2).2
    exact this
  · rintro ⟨h1, h2⟩
    exact ⟨h1, reachL_has.2 ⟨by rw [nG_len]; exact h1, h2⟩⟩

/-! ### A map of numbers that are done -/
def mpD (L : List Int) : List AV := L.map fun p => .tup [.int .i64 p, .int .i64 1]
theorem mpD_look (p : Int) : ∀ L : List Int, lookM (some [p]) (mpD L) = if p ∈ L then some (.int .i64 1) else none
  | [] => rfl
  | q :: L => by
    have ih := mpD_look p L
    unfold mpD at ih ⊢
    simp only [List.map_cons, lookM, keyI, ih, List.mem_cons]
    by_cases e : q = p
    · subst e; simp
    · have : ¬ p = q := fun h => e h.symm
      simp [e, this]
theorem mpD_put (p : Int) : ∀ L : List Int, p ∉ L → putM (.int .i64 p) (.int .i64 1) (mpD L) = mpD (L ++ [p])
  | [], _ => rfl
  | q :: L, h => by
    have ih := mpD_put p L fun k => h (by simp [k])
    have : ¬ q = p := fun e => h (by simp [e])
    unfold mpD at ih ⊢
    simp only [List.cons_append, List.map_cons, putM, keyI, ih]
    simp [this]
theorem mpD_keys {Q : Program} {kt : TypeId} (hk : Q.underlying kt = some (.int .i64)) {L : List Int} (nd : L.Nodup) : KeysA Q kt (mpD L) := by
  refine ⟨fun u hu => ?_, ?_⟩
  · obtain ⟨p, _, rfl⟩ := List.mem_map.1 hu
    exact ⟨_, _, rfl, hk⟩
  · have e : (mpD L).map entK = L.map fun p => some [p] := by simp [mpD, entK, keyI, Function.comp_def]
    rw [e, List.nodup_iff_pairwise_ne, List.pairwise_map]
    rw [List.nodup_iff_pairwise_ne] at nd
    exact nd.imp fun h e => h (by simpa using e)

/-! ### Those below a priority -/
def belowL (n : Nat) (R : List Bool) (P : List Int) (p : Int) (x : Nat) : List Bool := tab n fun v => decide (v < x) && (hasN R v && decide (prPv P v ≤ p))
theorem belowL_zero (n : Nat) (R : List Bool) (P : List Int) (p : Int) : belowL n R P p 0 = List.replicate n false := by
  rw [replicate_tab]; exact tab_congr fun i _ => by simp
theorem belowL_len (n : Nat) (R : List Bool) (P : List Int) (p : Int) (x : Nat) : (belowL n R P p x).length = n := length_tab _ _
theorem belowL_set (n : Nat) (R : List Bool) (P : List Int) (p : Int) (x : Nat) : (belowL n R P p x).set x (hasN R x && decide (prPv P x ≤ p)) = belowL n R P p (x + 1) := by
  unfold belowL
  rw [set_tab]
  refine tab_congr fun i _ => ?_
  by_cases e : i = x
  · subst e; simp
  · by_cases h : i < x
    · simp [e, h, show i < x + 1 by omega]
    · simp [e, h, show ¬ i < x + 1 by omega]
theorem below_kS {next : List (List Int)} {R : List Bool} {P : List Int} {p : Int} {v : Nat} : kS next (belowL next.length R P p next.length) v ↔ kS next R v ∧ prPv P v ≤ p := by
  unfold kS belowL
  constructor
  · rintro ⟨h1, h2⟩
    rw [hasN, getD_tab, if_pos h1] at h2
    simp [h1] at h2
    exact ⟨⟨h1, h2.1⟩, h2.2⟩
  · rintro ⟨⟨h1, h2⟩, h3⟩
    refine ⟨h1, ?_⟩
    rw [hasN, getD_tab, if_pos h1]
    simp [h1, h2, h3]
theorem below_bad {next : List (List Int)} {R : List Bool} {P : List Int} {p rest : Int} {C : List Int} (hC : CirOk (kE next) (kS next (belowL next.length R P p next.length)) next.length C) (hp : p % 2 ≠ rest) {v : Nat} (hv : v < next.length) (hpv : prPv P v = p) :
    0 ≤ C.getD v 0 ↔ BadAt (kE next) (kS next R) (prPv P) rest v := by
  have hw : Way (kE next) (kS next (belowL next.length R P p next.length)) v v ↔ Way (kE next) (fun x => kS next R x ∧ prPv P x ≤ prPv P v) v v := by
    rw [hpv]
    exact ⟨fun h => h.sub fun a q => below_kS.1 q, fun h => h.sub fun a q => below_kS.2 q⟩
  unfold BadAt
  rw [← hw]
  constructor
  · intro h
    refine ⟨by rw [hpv]; exact hp, Classical.byContradiction fun q => ?_⟩
    have := hC.no v hv q
    rw [List.getD_eq_getElem?_getD, this] at h
    simp at h
  · rintro ⟨_, h⟩
    obtain ⟨r, hr, _⟩ := hC.yes v h
    rw [List.getD_eq_getElem?_getD, hr]
    simp

/-- Done with some priorities, and with the vertices up to 'x'. -/
structure PrtI (next : List (List Int)) (P : List Int) (R : List Bool) (rest : Int) (x : Nat) (L : List Int) : Prop where
  nd : L.Nodup
  was : ∀ p ∈ L, ∀ v, prPv P v = p → ¬ BadAt (kE next) (kS next R) (prPv P) rest v
  up : ∀ v, v < x → ¬ BadAt (kE next) (kS next R) (prPv P) rest v
theorem PrtI.init {next : List (List Int)} {P : List Int} {R : List Bool} {rest : Int} : PrtI next P R rest 0 [] := ⟨List.nodup_nil, fun p hp => (by cases hp), fun v hv => (by omega)⟩
theorem PrtI.skip {next : List (List Int)} {P : List Int} {R : List Bool} {rest : Int} {x : Nat} {L : List Int} (I : PrtI next P R rest x L) (h : hasN R x = false ∨ prPv P x % 2 = rest ∨ prPv P x ∈ L) : PrtI next P R rest (x + 1) L := by
  refine ⟨I.nd, I.was, fun v hv => ?_⟩
  by_cases e : v = x
  · subst e
    rcases h with h | h | h
    · rintro ⟨_, k⟩
      have := k.fst.1.2
      rw [h] at this; cases this
    · exact fun k => k.1 h
    · exact I.was _ h v rfl
  · exact I.up v (by omega)
theorem PrtI.add {next : List (List Int)} {P : List Int} {R : List Bool} {rest : Int} {x : Nat} {L : List Int} (I : PrtI next P R rest x L) {p : Int} (hp : prPv P x = p) (hn : p ∉ L) (h : ∀ v, v < next.length → prPv P v = p → ¬ BadAt (kE next) (kS next R) (prPv P) rest v) : PrtI next P R rest (x + 1) (L ++ [p]) := by
  have h' : ∀ v, prPv P v = p → ¬ BadAt (kE next) (kS next R) (prPv P) rest v := fun v hv k => h v k.2.fst.1.1 hv k
  refine ⟨by rw [List.nodup_append]; exact ⟨I.nd, by simp, fun a ha b hb => by simp at hb; subst hb; exact fun e => hn (e ▸ ha)⟩, fun q hq v hv => ?_, fun v hv => ?_⟩
  · rw [List.mem_append, List.mem_singleton] at hq
    rcases hq with hq | rfl
    · exact I.was q hq v hv
    · exact h' v hv
  · by_cases e : v = x
    · subst e; exact h' v hp
    · exact I.up v (by omega)
theorem PrtI.done {next : List (List Int)} {P : List Int} {from_ : List Bool} {rest : Int} {L : List Int} (I : PrtI next P (reachL (nG next) from_) rest next.length L) : parB next P from_ rest = true :=
  parB_iff.2 fun w k => I.up w (onR_iff.1 k.2.fst.1).1 k
theorem par_no {next : List (List Int)} {P : List Int} {from_ : List Bool} {rest : Int} {v : Nat} (k : BadAt (kE next) (kS next (reachL (nG next) from_)) (prPv P) rest v) : parB next P from_ rest = false := by
  cases h : parB next P from_ rest with
  | false => rfl
  | true => exact absurd k (parB_iff.1 h v)
end Go.Par

set_option linter.unusedSimpArgs false
set_option linter.unusedVariables false
set_option maxRecDepth 8000
set_option maxHeartbeats 4000000
namespace Go.Par
open Go.Proofs

def obD (L : List Int) : Ob := ⟨mpD L, 79, 0, true⟩
theorem obD_cells (L : List Int) : (obD L).cells = mpD L := rfl
theorem obD_mk (L L' : List Int) : (⟨mpD L', (obD L).ty, (obD L).sz, (obD L).nn⟩ : Ob) = obD L' := rfl
theorem int_under : Try.prog.underlying 3 = some (.int .i64) := by kernel_rfl

theorem andI_one (a : Int) : andI .i64 a 1 = a % 2 := by
  unfold andI
  have e : (BitVec.ofInt IntKind.i64.bits a &&& BitVec.ofInt IntKind.i64.bits 1).toNat = (a % 2).toNat := by
    rw [BitVec.toNat_and, BitVec.toNat_ofInt, BitVec.toNat_ofInt]
    show (a % (18446744073709551616 : Int)).toNat &&& 1 = _
    rw [Nat.and_one_is_mod]; omega
  rw [e, wrap_nat (by omega)]; omega

structure PrtX where
  L : List Int
  x : Nat

theorem r9_Parity (next : List (List Int)) (ok : BigOk next) (P : List Int) (hP : P.length = next.length) (from_ : List Bool) (rest : Int) : Pure Try.prog 43 [.ro false (rows next), .ro false (ints P), .ro false (bools from_), .int .i64 rest] (.bool (parB next P from_ rest)) := by
  have hl := ok.len
  have sR := r9_reach next ok.ok from_
  have lRe : (reachL (nG next) from_).length = next.length := by simp [reachL]
  have hdone := fun L => PrtI.done (next := next) (P := P) (from_ := from_) (rest := rest) (L := L)
  have hbad := fun v => par_no (next := next) (P := P) (from_ := from_) (rest := rest) (v := v)
  obtain ⟨RE, hRE⟩ : ∃ RE, RE = reachL (nG next) from_ := ⟨_, rfl⟩
  rw [← hRE] at sR lRe hdone hbad
  clear hRE
  generalize parB next P from_ rest = res at *
  obtain ⟨all, hall⟩ : ∃ all, all = tab next.length fun _ => true := ⟨_, rfl⟩
  rw [← hall] at sR
  intro h
  refine AC.body Θ_ok Try.func43 rfl rfl (Nat.le_of_ble_eq_true rfl) ?_
  refine AW.seq fun _ k1 => AW.region [] Θ_ok ?_
  simp
  refine k1 _ ?_
  refine AW.seq fun _ k1 => AW.region [21] Θ_ok ?_
  simp
  refine ⟨by omega, fun o ho => k1 _ ?_⟩
  rw [replicate_tab, flat_tab (fun _ _ => rfl)]
  refine AW.seqTo ⟨113, [(0, .ro false (rows next)), (1, .ro false (ints P)), (2, .ro false (bools from_)), (3, .int .i64 rest), (9, .ro true (bools all))], h⟩ (fun _ k1 => ?_) ?_
  · refine AW.seq fun _ k2 => AW.region [] Θ_ok ?_
    simp
    refine k2 _ ?_
    refine AW.block ?_
    refine AW.loopI (X := Nat) (fun x => x ≤ next.length) (fun x => ⟨113, [(0, .ro false (rows next)), (1, .ro false (ints P)), (2, .ro false (bools from_)), (3, .int .i64 rest), (9, .mu o next.length), (23, .int .i64 next.length), (24, .int .i64 x)], upd h o (some ⟨tab next.length fun i => .bool (decide (i < x)), 4, 1, true⟩)⟩) (fun x => next.length - x) 0 (Nat.zero_le _) (GStep.eq (by simp) ?_) fun x hx => ?_
    · simp; exact subH.refl _
    refine AW.seq fun _ k2 => AW.region [] Θ_ok ?_
    simp
    refine k2 _ ?_
    by_cases hlt : x < next.length
    · have inc := wrap_succ (show x < 9223372036854775807 by omega)
      have hset : (tab next.length fun i => AV.bool (decide (i < x))).set x (.bool true) = tab next.length fun i => .bool (decide (i < x + 1)) := by
        rw [set_tab]
        refine tab_congr fun i hi => ?_
        by_cases e : i = x
        · subst e; simp
        · by_cases h1 : i < x
          · simp [e, h1, show i < x + 1 by omega]
          · simp [e, h1, show ¬ i < x + 1 by omega]
      refine AW.seq fun _ k2 => AW.cond true (by simp [Int.natCast_inj, hlt]) (fun _ => ?_) (fun h => by cases h)
      refine AW.skip ?_
      simp
      refine k2 _ ?_
      refine AW.seq fun _ k2 => ?_
      refine AW.block ?_
      refine AW.seq fun _ k3 => AW.region [] Θ_ok ?_
      simp
      refine k3 _ ?_
      refine AW.region [] Θ_ok ?_
      simp [hlt]
      refine ⟨by omega, k2 _ ?_⟩
      refine AW.region [] Θ_ok ?_
      simp
      exact ⟨x + 1, by omega, by omega, GStep.eq (by simp [inc]) (subH_of_eq (congrArg (fun c => upd h o (some ⟨c, 4, 1, true⟩)) hset))⟩
    obtain rfl : x = next.length := by omega
    refine AW.seq fun _ k2 => AW.cond false (by simp [Int.natCast_inj]) (fun h => by cases h) (fun _ => ?_)
    refine AW.exit ?_
    simp
    have ea : (tab next.length fun i => AV.bool (decide (i < next.length))) = bools all := by
      rw [hall]; simp only [bools, map_tab]; exact tab_congr fun i hi => by simp [hi]
    rw [ea]
    refine k1 _ (GStep.trans (GStep.freeze (t := 9) (n := next.length) (k := true) (by simp) (upd_same _ _ _) (fun _ => rfl) rfl (by simp [hall]) (fun u hu => by obtain ⟨z, _, rfl⟩ := List.mem_map.1 hu; rfl)) (GStep.eq (by simp) ?_))
    simp only
    rw [upd_upd, upd_none_id ho]; exact subH.refl _
  clear hall ho o
  refine AW.seq fun _ k1 => AW.region [] Θ_ok ?_
  simp
  refine sR.use (by simp) ?_
  refine k1 _ ?_
  refine AW.seq fun _ k1 => AW.region [] Θ_ok ?_
  simp
  refine fun m hm => k1 _ ?_
  have hsub : ∀ L, subH h (upd h m (some (obD L))) := fun L y z hy => by
    have : y ≠ m := fun e => by rw [e, hm] at hy; cases hy
    rw [upd_ne _ _ this]; exact hy
  refine AW.seq fun _ k11 => ?_
  refine AW.seq fun _ k12 => AW.region [] Θ_ok ?_
  simp
  refine k12 _ ?_
  refine AW.block ?_
  refine AW.loopI (X := PrtX) (fun t => t.x ≤ next.length ∧ PrtI next P RE rest t.x t.L) (fun t => ⟨113, [(0, .ro false (rows next)), (1, .ro false (ints P)), (3, .int .i64 rest), (11, .ro true (bools RE)), (12, .mp m), (36, .ro false (ints P)), (37, .int .i64 next.length), (38, .int .i64 t.x)], upd h m (some (obD t.L))⟩) (fun t => next.length - t.x) ⟨[], 0⟩ ⟨Nat.zero_le _, PrtI.init⟩ (GStep.eq (by simp [hP]) (by simp only [obD, mpD, List.map_nil]; exact subH.refl _)) ?_
  rintro ⟨L, x⟩ ⟨hx, I⟩
  simp only at hx I ⊢
  have hmh : upd h m (some (obD L)) m = some (obD L) := upd_same _ _ _
  have hK1 := mpD_keys (Q := Try.prog) (kt := 3) int_under I.nd
  refine AW.seq fun _ k13 => AW.region [] Θ_ok ?_
  simp [hP]
  refine k13 _ ?_
  by_cases hlt : x < next.length
  · have inc := wrap_succ (show x < 9223372036854775807 by omega)
    have hxP : x < P.length := by omega
    have hxR : x < RE.length := by omega
    have lRE : ¬ (RE.length : Int) ≤ x := by omega
    have lRE' : (x : Int) < RE.length := by omega
    obtain ⟨p, hp⟩ : ∃ p, P[x] = p := ⟨_, rfl⟩
    have hpp : prPv P x = p := by rw [← hp]; simp [prPv, hxP]
    have hKp : KeyA Try.prog 3 (.int .i64 p) := int_under
    have hLk := mpD_look p L
    have hRx : RE[x] = hasN RE x := by simp [hasN, hxR]
    refine AW.seq fun _ k14 => AW.cond true (by simp [Int.natCast_inj, hlt]) (fun _ => ?_) (fun h => by cases h)
    refine AW.skip ?_
    simp
    refine k14 _ ?_
    refine AW.seq fun _ k15 => ?_
    refine AW.block ?_
    refine AW.seq fun _ k16 => AW.region [] Θ_ok ?_
    simp [hxP, hp]
    refine k16 _ ?_
    refine AW.seq fun _ k17 => ?_
    by_cases h1 : hasN RE x = true
    · by_cases h2 : p % 2 = rest
      · have h2' : andI .i64 p 1 = rest := by rw [andI_one]; exact h2
        refine AW.seq fun _ k18 => AW.region [] Θ_ok ?_
        simp [lRE, lRE', hxR, hRx, h1, h2']
        refine k18 _ ?_
        refine AW.cond true (by simp [Int.natCast_inj]) (fun _ => ?_) (fun h => by cases h)
        refine AW.exit ?_
        simp
        refine k15 _ ?_
        refine AW.region [] Θ_ok ?_
        simp
        exact ⟨⟨L, x + 1⟩, ⟨hlt, I.skip (.inr (.inl (by rw [hpp]; exact h2)))⟩, by simp only; omega, GStep.eq (by simp [inc]) (subH.refl _)⟩
      · have h2' : ¬ andI .i64 p 1 = rest := by rw [andI_one]; exact h2
        by_cases h3 : p ∈ L
        · rw [if_pos h3] at hLk
          refine AW.seq fun _ k18 => AW.region [] Θ_ok ?_
          simp [lRE, lRE', hxR, hRx, h1, h2', hmh, obD_cells, hK1, hKp, keyI, hLk]
          refine k18 _ ?_
          refine AW.cond true (by simp [Int.natCast_inj]) (fun _ => ?_) (fun h => by cases h)
          refine AW.exit ?_
          simp
          refine k15 _ ?_
          refine AW.region [] Θ_ok ?_
          simp
          exact ⟨⟨L, x + 1⟩, ⟨hlt, I.skip (.inr (.inr (by rw [hpp]; exact h3)))⟩, by simp only; omega, GStep.eq (by simp [inc]) (subH.refl _)⟩
        · rw [if_neg h3] at hLk
          have hput := mpD_put p L h3
          refine AW.seq fun _ k18 => AW.region [] Θ_ok ?_
          simp [lRE, lRE', hxR, hRx, h1, h2', hmh, obD_cells, hK1, hKp, keyI, hLk]
          refine k18 _ ?_
          refine AW.cond false (by simp [Int.natCast_inj]) (fun h => by cases h) (fun _ => ?_)
          refine AW.skip ?_
          simp
          refine k17 _ ?_
          refine AW.seq fun _ k19 => AW.region [] Θ_ok ?_
          simp [hmh, obD_cells, hK1, hKp, hput, obD_mk]
          refine k19 _ ?_
          obtain ⟨L2, hL2⟩ : ∃ L2, L2 = L ++ [p] := ⟨_, rfl⟩
          rw [← hL2]
          have hs2 := hsub L2
          obtain ⟨H, hH⟩ : ∃ H, H = upd h m (some (obD L2)) := ⟨_, rfl⟩
          rw [← hH] at hs2 ⊢
          refine AW.seq fun _ k20 => AW.region [70] Θ_ok ?_
          simp
          refine ⟨by omega, fun q hq => k20 _ ?_⟩
          rw [replicate_tab, flat_tab (fun _ _ => rfl), ← replicate_tab]
          have hb0 : (⟨List.replicate next.length (.bool false), 4, 1, true⟩ : Ob) = obBk (belowL next.length RE P p 0) := by
            rw [belowL_zero]; simp [obBk]
          rw [hb0]
          obtain ⟨BL, hBL⟩ : ∃ BL, BL = belowL next.length RE P p next.length := ⟨_, rfl⟩
          have lBL : BL.length = next.length := by rw [hBL]; exact belowL_len _ _ _ _ _
          refine AW.seqTo ⟨113, [(0, .ro false (rows next)), (1, .ro false (ints P)), (3, .int .i64 rest), (11, .ro true (bools RE)), (12, .mp m), (14, .int .i64 p), (15, .ro true (bools BL)), (36, .ro false (ints P)), (37, .int .i64 next.length), (38, .int .i64 x)], H⟩ (fun _ k21 => ?_) ?_
          · refine AW.seq fun _ k22 => AW.region [] Θ_ok ?_
            simp
            refine k22 _ ?_
            refine AW.block ?_
            refine AW.loopI (X := Nat) (fun y => y ≤ next.length) (fun y => ⟨113, [(0, .ro false (rows next)), (1, .ro false (ints P)), (3, .int .i64 rest), (11, .ro true (bools RE)), (12, .mp m), (14, .int .i64 p), (15, .mu q next.length), (36, .ro false (ints P)), (37, .int .i64 next.length), (38, .int .i64 x), (72, .int .i64 next.length), (73, .int .i64 y)], upd H q (some (obBk (belowL next.length RE P p y)))⟩) (fun y => next.length - y) 0 (Nat.zero_le _) (GStep.eq (by simp) (subH.refl _)) fun y hy => ?_
            have hqq : upd H q (some (obBk (belowL next.length RE P p y))) q = some (obBk (belowL next.length RE P p y)) := upd_same _ _ _
            refine AW.seq fun _ k23 => AW.region [] Θ_ok ?_
            simp
            refine k23 _ ?_
            by_cases hly : y < next.length
            · have incy := wrap_succ (show y < 9223372036854775807 by omega)
              have hyP : y < P.length := by omega
              have hyR : y < RE.length := by omega
              have hyl : y < (belowL next.length RE P p y).length := by rw [belowL_len]; exact hly
              have st := belowL_set next.length RE P p y
              have hRy : RE[y] = hasN RE y := by simp [hasN, hyR]
              have hPy : P[y] = prPv P y := by simp [prPv, hyP]
              have hset := mapk_set (belowL next.length RE P p y) y (hasN RE y && decide (prPv P y ≤ p))
              rw [st] at hset
              refine AW.seq fun _ k24 => AW.cond true (by simp [Int.natCast_inj, hly]) (fun _ => ?_) (fun h => by cases h)
              refine AW.skip ?_
              simp
              refine k24 _ ?_
              refine AW.seq fun _ k25 => ?_
              refine AW.block ?_
              refine AW.seq fun _ k26 => AW.region [] Θ_ok ?_
              simp
              refine k26 _ ?_
              cases h4 : hasN RE y with
              | false =>
                rw [h4, Bool.false_and] at hset
                refine AW.region [] Θ_ok ?_
                simp [hyR, hRy, h4, hqq, belowL_len, hly, hset, obBk_mk]
                refine ⟨hly, k25 _ ?_⟩
                refine AW.region [] Θ_ok ?_
                simp
                exact ⟨y + 1, by omega, by omega, GStep.eq (by simp [incy]) (subH.refl _)⟩
              | true =>
                rw [h4, Bool.true_and] at hset
                by_cases h5 : prPv P y ≤ p
                · simp only [h5, decide_true] at hset
                  refine AW.region [] Θ_ok ?_
                  simp [hyR, hRy, h4, hyP, hPy, h5, hqq, belowL_len, hly, hset, obBk_mk]
                  refine ⟨hly, k25 _ ?_⟩
                  refine AW.region [] Θ_ok ?_
                  simp
                  exact ⟨y + 1, by omega, by omega, GStep.eq (by simp [incy]) (subH.refl _)⟩
                · simp only [h5, decide_false] at hset
                  refine AW.region [] Θ_ok ?_
                  simp [hyR, hRy, h4, hyP, hPy, h5, hqq, belowL_len, hly, hset, obBk_mk]
                  refine ⟨hly, k25 _ ?_⟩
                  refine AW.region [] Θ_ok ?_
                  simp
                  exact ⟨y + 1, by omega, by omega, GStep.eq (by simp [incy]) (subH.refl _)⟩
            · obtain rfl : y = next.length := by omega
              refine AW.seq fun _ k24 => AW.cond false (by simp [Int.natCast_inj]) (fun h => by cases h) (fun _ => ?_)
              refine AW.exit ?_
              simp
              rw [← hBL] at hqq ⊢
              refine k21 _ (GStep.trans (GStep.freeze (t := 15) (n := next.length) (k := true) (by simp) hqq (fun _ => rfl) rfl (by simp [lBL]) (fun u hu => by obtain ⟨z, _, rfl⟩ := List.mem_map.1 hu; rfl)) (GStep.eq (by simp [bools]) ?_))
              simp only
              rw [upd_upd, upd_none_id hq]; exact subH.refl _
          have sC := r9_circles next ok BL
          have hC2 := fun C => below_bad (next := next) (R := RE) (P := P) (p := p) (rest := rest) (C := C)
          rw [← hBL] at hC2
          clear hq hb0 hBL
          refine AW.seq fun _ k27 => AW.regionAt 3 [] Θ_ok fun B hB => ?_
          simp
          refine ((sC H).wk (by simp)).mono fun r h' hq => ?_
          obtain ⟨C, rfl, hC, rfl⟩ := hq
          have lC := hC.len
          have hC3 := fun v => hC2 C hC h2 (v := v)
          refine hB _ ?_
          clear hB B
          simp [lC]
          refine k27 _ ?_
          refine AW.block ?_
          refine AW.loopI (X := Nat) (fun y => y ≤ next.length ∧ ∀ v, v < y → prPv P v = p → ¬ BadAt (kE next) (kS next RE) (prPv P) rest v) (fun y => ⟨113, [(0, .ro false (rows next)), (1, .ro false (ints P)), (3, .int .i64 rest), (11, .ro true (bools RE)), (12, .mp m), (14, .int .i64 p), (36, .ro false (ints P)), (37, .int .i64 next.length), (38, .int .i64 x), (94, .ro true (ints C)), (95, .int .i64 next.length), (96, .int .i64 y)], h'⟩) (fun y => next.length - y) 0 ⟨Nat.zero_le _, fun v hv => absurd hv (Nat.not_lt_zero _)⟩ (GStep.eq (by simp) (subH.refl _)) fun y hy => ?_
          obtain ⟨hy, hno⟩ := hy
          refine AW.seq fun _ k28 => AW.region [] Θ_ok ?_
          simp
          refine k28 _ ?_
          by_cases hly : y < next.length
          · have incy := wrap_succ (show y < 9223372036854775807 by omega)
            have hyP : y < P.length := by omega
            have hyC : y < C.length := by omega
            have hPy : P[y] = prPv P y := by simp [prPv, hyP]
            have hCy : C.getD y 0 = C[y] := by simp [hyC]
            obtain ⟨c, hc⟩ : ∃ c, C[y] = c := ⟨_, rfl⟩
            have hC4 := hC3 y hly
            rw [hCy, hc] at hC4
            have nx : (prPv P y = p → ¬ BadAt (kE next) (kS next RE) (prPv P) rest y) → ∀ v, v < y + 1 → prPv P v = p → ¬ BadAt (kE next) (kS next RE) (prPv P) rest v := fun q v hv => by
              by_cases e : v = y
              · subst e; exact q
              · exact hno v (by omega)
            refine AW.seq fun _ k29 => AW.cond true (by simp [Int.natCast_inj, hly]) (fun _ => ?_) (fun h => by cases h)
            refine AW.skip ?_
            simp
            refine k29 _ ?_
            refine AW.seq fun _ k30 => ?_
            refine AW.block ?_
            refine AW.seq fun _ k31 => AW.region [] Θ_ok ?_
            simp [hyC, hc]
            refine k31 _ ?_
            by_cases h4 : 0 ≤ c
            · by_cases h5 : prPv P y = p
              · refine AW.seq fun _ k32 => AW.region [] Θ_ok ?_
                simp [h4, Int.not_lt.2 h4, hyP, hPy, h5]
                refine k32 _ ?_
                refine AW.cond true (by simp [Int.natCast_inj]) (fun _ => ?_) (fun h => by cases h)
                refine AW.seq fun _ kr => AW.region [] Θ_ok ?_
                simp
                refine kr _ (AW.ret ?_)
                simp [Try.f43]
                exact Fin.gv (GV.sub hs2) (Fin.refl ⟨by rw [hbad y ((hC4 h5).1 h4)], rfl⟩)
              · refine AW.seq fun _ k32 => AW.region [] Θ_ok ?_
                simp [h4, Int.not_lt.2 h4, hyP, hPy, h5]
                refine k32 _ ?_
                refine AW.cond false (by simp [Int.natCast_inj, h5]) (fun h => by cases h) (fun _ => ?_)
                refine AW.skip ?_
                simp
                refine k30 _ ?_
                refine AW.region [] Θ_ok ?_
                simp
                exact ⟨y + 1, ⟨hly, nx fun q => absurd q h5⟩, by omega, GStep.eq (by simp [incy]) (subH.refl _)⟩
            · refine AW.seq fun _ k32 => AW.region [] Θ_ok ?_
              simp [h4, Int.not_le.1 h4]
              refine k32 _ ?_
              refine AW.cond false (by simp [Int.natCast_inj]) (fun h => by cases h) (fun _ => ?_)
              refine AW.skip ?_
              simp
              refine k30 _ ?_
              refine AW.region [] Θ_ok ?_
              simp
              exact ⟨y + 1, ⟨hly, nx fun q k => h4 ((hC4 q).2 k)⟩, by omega, GStep.eq (by simp [incy]) (subH.refl _)⟩
          · obtain rfl : y = next.length := by omega
            refine AW.seq fun _ k29 => AW.cond false (by simp [Int.natCast_inj]) (fun h => by cases h) (fun _ => ?_)
            refine AW.exit ?_
            simp
            refine k15 _ ?_
            refine AW.region [] Θ_ok ?_
            simp
            refine ⟨⟨L2, x + 1⟩, ⟨hlt, ?_⟩, by simp only; omega, GStep.eq (by simp [inc]) (by rw [hH]; exact subH.refl _)⟩
            rw [hL2]
            exact I.add hpp h3 hno
    · have h1' : hasN RE x = false := by simpa using h1
      refine AW.seq fun _ k18 => AW.region [] Θ_ok ?_
      simp [lRE, lRE', hxR, hRx, h1']
      refine k18 _ ?_
      refine AW.cond true (by simp [Int.natCast_inj]) (fun _ => ?_) (fun h => by cases h)
      refine AW.exit ?_
      simp
      refine k15 _ ?_
      refine AW.region [] Θ_ok ?_
      simp
      exact ⟨⟨L, x + 1⟩, ⟨hlt, I.skip (.inl h1')⟩, by simp only; omega, GStep.eq (by simp [inc]) (subH.refl _)⟩
  · obtain rfl : x = next.length := by omega
    refine AW.seq fun _ k13 => AW.cond false (by simp [Int.natCast_inj]) (fun h => by cases h) (fun _ => ?_)
    refine AW.exit ?_
    simp
    refine k11 _ ?_
    refine AW.seq fun _ kr => AW.region [] Θ_ok ?_
    simp
    refine kr _ (AW.ret ?_)
    simp [Try.f43]
    exact Fin.gv (GV.sub (hsub L)) (Fin.refl ⟨by rw [hdone L I], rfl⟩)
end Go.Par
