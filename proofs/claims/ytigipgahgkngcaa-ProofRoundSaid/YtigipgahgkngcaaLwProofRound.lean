/- P17.1, P17.2: ProofRound. -/
import Derived.Test.YtigipgahgkngcaaLwProofLess
import Derived.Test.YtigipgahgkngcaaTjU
set_option linter.unusedSimpArgs false
set_option linter.unusedVariables false
set_option maxRecDepth 8000
set_option maxHeartbeats 4000000
namespace Go.Par
open Go.Proofs

/-- The ways made so far, as cells. -/
def rdC (n x : Nat) : List AV := tab n fun v => if v < x then .ro true (ints [((v + 1 : Nat) : Int)]) else .nils
theorem rdC_len (n x : Nat) : (rdC n x).length = n := length_tab _ _
theorem rdC_zero (n : Nat) : rdC n 0 = List.replicate n .nils := by unfold rdC; rw [replicate_tab]; exact tab_congr fun i hi => by simp
theorem rdC_set (n x : Nat) : (rdC n x).set x (.ro true (ints [((x + 1 : Nat) : Int)])) = rdC n (x + 1) := by
  unfold rdC
  rw [set_tab]
  refine tab_congr fun i hi => ?_
  by_cases e : i = x
  · subst e; simp
  · by_cases h1 : i < x
    · simp [e, h1, show i < x + 1 by omega]
    · simp [e, h1, show ¬ i < x + 1 by omega]
theorem rdC_end {n t : Nat} (hn : 0 < n) : ((rdC n n).set (n - 1) (.ro true (ints [(t : Int)]))).map weak = rows (rdN n t) := by
  unfold rdC rdN rows
  rw [set_tab, map_tab, map_tab]
  refine tab_congr fun i hi => ?_
  unfold rdS
  by_cases e : i = n - 1
  · subst e; rw [if_pos rfl, if_pos (by omega)]; simp [weak, weak.weakL]
  · rw [if_neg e, if_pos hi, if_neg (by omega)]; simp [weak, weak.weakL]
def rdMB (r : List Bool) (t x : Nat) : Bool := (List.range x).any fun w => decide (t ≤ w) && hasN r w
theorem rdMB_step (r : List Bool) (t x : Nat) : rdMB r t (x + 1) = (rdMB r t x || (decide (t ≤ x) && hasN r x)) := by
  unfold rdMB; rw [List.range_succ, List.any_append]; simp
theorem rdMB_low (r : List Bool) {t x : Nat} (h : x ≤ t) : rdMB r t x = false := by
  unfold rdMB
  rw [List.any_eq_false]
  intro w hw
  rw [List.mem_range] at hw
  simp; omega
theorem rdMB_iff {r : List Bool} {t n : Nat} : rdMB r t n = true ↔ rdM n t r := by
  unfold rdMB rdM
  simp only [List.any_eq_true, List.mem_range, Bool.and_eq_true, decide_eq_true_eq]
  exact ⟨fun ⟨w, h1, h2, h3⟩ => ⟨w, h2, h1, h3⟩, fun ⟨w, h1, h2, h3⟩ => ⟨w, h2, h1, h3⟩⟩
def rdAM (A : List (List Bool)) (t n y : Nat) : Bool := (A.take y).all fun r => rdMB r t n
theorem rdAM_step (A : List (List Bool)) (t n : Nat) {y : Nat} (hy : y < A.length) : rdAM A t n (y + 1) = (rdAM A t n y && rdMB A[y] t n) := by
  unfold rdAM; rw [List.take_succ_eq_append_getElem hy, List.all_append]; simp
theorem rdAM_iff {A : List (List Bool)} {t n : Nat} : rdAM A t n A.length = true ↔ ∀ r ∈ A, rdM n t r := by
  unfold rdAM
  rw [List.take_length, List.all_eq_true]
  exact forall_congr' fun r => forall_congr' fun _ => rdMB_iff
theorem andI_one17 (a : Int) : andI .i64 a 1 = a % 2 := by
  unfold andI
  have e : (BitVec.ofInt IntKind.i64.bits a &&& BitVec.ofInt IntKind.i64.bits 1).toNat = (a % 2).toNat := by
    rw [BitVec.toNat_and, BitVec.toNat_ofInt, BitVec.toNat_ofInt]
    show (a % (18446744073709551616 : Int)).toNat &&& 1 = _
    rw [Nat.and_one_is_mod]; omega
  rw [e, wrap_nat (by omega)]; omega
theorem tmod2 (a : Int) : a.tmod 2 = 0 ↔ a % 2 = 0 := by
  rw [← Int.dvd_iff_tmod_eq_zero, Int.dvd_iff_emod_eq_zero]
theorem rdN_sound {n t : Nat} (ht : t < n) : soundB (rdN n t) = true := by
  rw [sound_iff]
  intro l hl w hw
  obtain ⟨i, hi, rfl⟩ := mem_tab.1 hl
  rw [List.mem_singleton] at hw
  have := rdS_lt ht hi
  rw [hw, rdN_len]; omega
def mxR (P : List Int) (t x : Nat) : Int := (List.range x).foldl (fun m v => if t ≤ v then (if m < prF2 P v then prF2 P v else m) else m) (prF2 P t)
theorem mxR_step (P : List Int) (t x : Nat) : mxR P t (x + 1) = if t ≤ x then (if mxR P t x < prF2 P x then prF2 P x else mxR P t x) else mxR P t x := by
  unfold mxR; rw [List.range_succ, List.foldl_append]; rfl
theorem mxR_all (P : List Int) (t : Nat) : ∀ x, (∀ u, t ≤ u → u < x → prF2 P u ≤ mxR P t x) ∧ ∃ w, t ≤ w ∧ (w < x ∨ w = t) ∧ mxR P t x = prF2 P w
  | 0 => ⟨fun u _ h => absurd h (Nat.not_lt_zero _), t, Nat.le_refl _, .inr rfl, rfl⟩
  | x + 1 => by
    obtain ⟨h1, w, h2, h3, h4⟩ := mxR_all P t x
    rw [mxR_step]
    by_cases q : t ≤ x
    · rw [if_pos q]
      by_cases c : mxR P t x < prF2 P x
      · rw [if_pos c]
        refine ⟨fun u hu hun => ?_, x, q, .inl (by omega), rfl⟩
        by_cases e : u = x
        · subst e; exact Int.le_refl _
        · have := h1 u hu (by omega); omega
      · rw [if_neg c]
        refine ⟨fun u hu hun => ?_, w, h2, h3.elim (fun z => .inl (by omega)) .inr, h4⟩
        by_cases e : u = x
        · subst e; omega
        · exact h1 u hu (by omega)
    · rw [if_neg q]
      exact ⟨fun u hu hun => by omega, w, h2, h3.elim (fun z => .inl (by omega)) .inr, h4⟩

theorem law_ProofRound (P : List Int) (hP : (DK.sl .int).fits P) (t0 : Int) (ht0 : DK.int.fits t0) (la : List (List Bool)) (hA : (DK.sl (.sl .bool)).fits la) (lb : List (List Bool)) (hB : (DK.sl (.sl .bool)).fits lb) :
    Pure Try.prog 4 [.ro false (ints P), .int .i64 t0, .ro false (bools2 la), .ro false (bools2 lb)] (.bool true) := by
  obtain ⟨a1, a2⟩ := fits_bb hA
  obtain ⟨b1, b2⟩ := fits_bb hB
  have hPl : P.length ≤ 17592186044416 := by
    have : P.length * 8 ≤ reachBytes := hP.1
    unfold reachBytes at this; omega
  have sA := l17_awake
  intro h
  refine AC.body Θ_ok Try.func4 rfl rfl (Nat.le_of_ble_eq_true rfl) ?_
  refine AW.seq fun _ k1 => AW.region [] Θ_ok ?_
  simp
  refine k1 _ ?_
  refine AW.seq fun _ k1 => AW.region [] Θ_ok ?_
  simp
  refine k1 _ ?_
  refine AW.seq fun _ k1 => ?_
  by_cases hok : (1 ≤ P.length ∧ P.length ≤ 40) ∧ la.length ≤ 4 ∧ lb.length ≤ 4
  · obtain ⟨⟨n1, n2⟩, c1, c2⟩ := hok
    have n1' : ¬ (P.length : Int) < 1 := by omega
    have n2' : ¬ (40 : Int) < P.length := by omega
    have c1' : ¬ (4 : Int) < la.length := by omega
    have c2' : ¬ (4 : Int) < lb.length := by omega
    have n1'' : ¬ P.length = 0 := by omega
    have n1''' : ¬ P = [] := fun e => by rw [e] at n1; simp at n1
    refine AW.seq fun _ k2 => AW.region [] Θ_ok ?_
    simp [n1', n2', c1', c2', n1'', n1''']
    refine k2 _ ?_
    refine AW.cond false (by simp [Int.natCast_inj]) (fun h => by cases h) (fun _ => ?_)
    refine AW.skip ?_
    simp
    refine k1 _ ?_
    obtain ⟨tl, htl, etl⟩ := mod17 t0 (show 0 < P.length by omega) (by omega)
    have hu := u64_nat17 (show P.length < 9223372036854775808 by omega)
    obtain ⟨n, hn⟩ : ∃ n, n = P.length := ⟨_, rfl⟩
    refine AW.seq fun _ k4 => AW.region [] Θ_ok ?_
    simp [hu, etl]
    refine ⟨n1''', k4 _ ?_⟩
    refine AW.seq fun _ k4 => AW.region [47] Θ_ok ?_
    simp
    refine ⟨by omega, fun o ho => k4 _ ?_⟩
    have e1 : List.flatMap AV.flat (List.replicate P.length AV.nils) = rdC P.length 0 := by
      rw [flat_ones (fun u hu => by rw [(List.mem_replicate.1 hu).2]; rfl), rdC_zero]
    rw [e1]
    clear e1
    have eP : ∀ v, (hv : v < P.length) → P[v] = prF2 P v := fun v hv => by simp [prF2, hv]
    refine AW.seq fun _ k4 => AW.region [] Θ_ok ?_
    simp [htl, eP]
    refine k4 _ ?_
    refine AW.seqTo ⟨164, [(0, .ro false (ints P)), (1, .int .i64 tl), (2, .ro false (bools2 la)), (3, .ro false (bools2 lb)), (9, .int .i64 P.length), (10, .mu o P.length), (11, .int .i64 (mxR P tl P.length))], upd h o (some ⟨rdC P.length P.length, 28, 1, true⟩)⟩ (fun _ k1 => ?_) ?_
    · refine AW.seq fun _ k2 => AW.region [] Θ_ok ?_
      simp
      refine k2 _ ?_
      refine AW.block ?_
      refine AW.loopI (X := Nat) (fun x => x ≤ P.length) (fun x => ⟨164, [(0, .ro false (ints P)), (1, .int .i64 tl), (2, .ro false (bools2 la)), (3, .ro false (bools2 lb)), (9, .int .i64 P.length), (10, .mu o P.length), (11, .int .i64 (mxR P tl x)), (53, .int .i64 P.length), (54, .int .i64 x)], upd h o (some ⟨rdC P.length x, 28, 1, true⟩)⟩) (fun x => P.length - x) 0 (Nat.zero_le _) (GStep.eq (by simp [mxR]) (subH.refl _)) fun x hx => ?_
      refine AW.seq fun _ k2 => AW.region [] Θ_ok ?_
      simp
      refine k2 _ ?_
      by_cases hlt : x < P.length
      · have inc := wrap_succ (show x < 9223372036854775807 by omega)
        have st := mxR_step P tl x
        have se : (rdC P.length x).set x (.ro true [.int .i64 ((x : Int) + 1)]) = rdC P.length (x + 1) := rdC_set P.length x
        have lc := rdC_len P.length x
    
        refine AW.seq fun _ k2 => AW.cond true (by simp [Int.natCast_inj, hlt]) (fun _ => ?_) (fun h => by cases h)
        refine AW.skip ?_
        simp
        refine k2 _ ?_
        refine AW.seq fun _ k2 => ?_
        refine AW.block ?_
        refine AW.seq fun _ k3 => AW.region [] Θ_ok ?_
        simp
        refine k3 _ ?_
        refine AW.seq fun _ k3 => AW.region [] Θ_ok ?_
        simp [inc, lc, hlt, se]
        refine ⟨by omega, k3 _ ?_⟩
        refine AW.seq fun _ k3 => AW.region [] Θ_ok ?_
        simp
        refine k3 _ ?_
        by_cases c : tl ≤ x
        · rw [if_pos c] at st
          refine AW.cond true (by simp [Int.natCast_inj, c]) (fun _ => ?_) (fun h => by cases h)
          refine AW.region [] Θ_ok ?_
          simp [hlt, eP]
          refine k2 _ ?_
          refine AW.region [] Θ_ok ?_
          simp
          exact ⟨x + 1, by omega, by omega, GStep.eq (by simp [inc, st]) (subH.refl _)⟩
        · rw [if_neg c] at st
          refine AW.cond false (by simp [Int.natCast_inj, c]) (fun h => by cases h) (fun _ => ?_)
          refine AW.skip ?_
          simp
          refine k2 _ ?_
          refine AW.region [] Θ_ok ?_
          simp
          exact ⟨x + 1, by omega, by omega, GStep.eq (by simp [inc, st]) (subH.refl _)⟩
      · obtain rfl : x = P.length := by omega
        refine AW.seq fun _ k2 => AW.cond false (by simp [Int.natCast_inj]) (fun h => by cases h) (fun _ => ?_)
        refine AW.exit ?_
        simp
        exact k1 _ (GStep.eq (by simp) (subH.refl _))
    have w3 : IntKind.i64.wrap ((P.length : Int) - 1) = ((P.length - 1 : Nat) : Int) := by
      rw [show ((P.length : Int) - 1) = ((P.length - 1 : Nat) : Int) by omega]; exact wrap_nat (by omega)
    have lc := rdC_len P.length P.length
    obtain ⟨ix, hix⟩ : ∃ ix, ix = P.length - 1 := ⟨_, rfl⟩
    have hixl : ix < P.length := by omega
    rw [← hix] at w3
    refine AW.seq fun _ k4 => AW.region [] Θ_ok ?_
    simp [w3, lc, hixl]
    refine ⟨by omega, k4 _ ?_⟩
    have ce : ((rdC P.length P.length).set ix (.ro true [.int .i64 (tl : Int)])).map weak = rows (rdN P.length tl) := by
      rw [hix]; exact rdC_end (by omega)
    have cl : ((rdC P.length P.length).set ix (.ro true [.int .i64 (tl : Int)])).length = P.length := by simp [lc]
    have c1 : ∀ u ∈ (rdC P.length P.length).set ix (.ro true [.int .i64 (tl : Int)]), u.flat = [u] := fun u hu => by
      rcases List.mem_or_eq_of_mem_set hu with q | q
      · obtain ⟨i, hi, rfl⟩ := mem_tab.1 q
        simp only [if_pos hi]; rfl
      · rw [q]; rfl
    obtain ⟨CE, hCE⟩ : ∃ CE, CE = (rdC P.length P.length).set ix (.ro true [.int .i64 (tl : Int)]) := ⟨_, rfl⟩
    rw [← hCE] at ce cl c1 ⊢
    refine AW.freeze 10 (n := P.length) false (by simp) (upd_same _ _ _) (fun e => by cases e) rfl cl c1 ?_
    simp only
    rw [upd_upd, upd_none_id ho]
    clear c1 cl w3 lc
    refine AW.seq fun _ k4 => AW.region [] Θ_ok ?_
    simp
    refine k4 _ ?_
    refine AW.seq fun _ k4 => AW.region [14] Θ_ok ?_
    simp [newA]
    refine fun q hq => k4 _ ?_
    refine AW.seqTo ⟨164, [(0, .ro false (ints P)), (2, .ro false (bools2 la)), (3, .ro false (bools2 lb)), (10, .ro false CE), (11, .int .i64 (mxR P tl P.length)), (13, .ro true [.bool true]), (14, .ptr q 0)], upd h q (some ⟨[.bool (rdAM la tl P.length la.length), .bool (rdAM lb tl P.length lb.length)], 30, 2, true⟩)⟩ (fun _ k1 => ?_) ?_
    · refine AW.seq fun _ k4 => AW.region [] Θ_ok ?_
      simp
      refine k4 _ ?_
      refine AW.block ?_
      refine AW.loopI (X := Nat) (fun x => x ≤ 2) (fun x => ⟨164, [(0, .ro false (ints P)), (1, .int .i64 tl), (2, .ro false (bools2 la)), (3, .ro false (bools2 lb)), (9, .int .i64 P.length), (10, .ro false CE), (11, .int .i64 (mxR P tl P.length)), (13, .ro true [.bool true]), (14, .ptr q 0), (83, .agg [.ro false (bools2 la), .ro false (bools2 lb)]), (84, .int .i64 x)], upd h q (some ⟨[.bool (if 0 < x then rdAM la tl P.length la.length else true), .bool (if 1 < x then rdAM lb tl P.length lb.length else true)], 30, 2, true⟩)⟩) (fun x => 2 - x) 0 (by omega) (GStep.eq (by simp) (subH.refl _)) fun x hx => ?_
      refine AW.seq fun _ k2 => AW.region [] Θ_ok ?_
      simp
      refine k2 _ ?_
      match x, hx with
      | 2, _ =>
        refine AW.seq fun _ k3 => AW.cond false (by simp) (fun h => by cases h) (fun _ => ?_)
        refine AW.exit ?_
        simp
        exact k1 _ (GStep.eq (by simp) (subH.refl _))
      | 0, _ =>
        refine AW.seq fun _ k3 => AW.cond true (by simp) (fun _ => ?_) (fun h => by cases h)
        refine AW.skip ?_
        simp
        refine k3 _ ?_
        refine AW.seq fun _ k3 => ?_
        refine AW.block ?_
        refine AW.seq fun _ k4 => AW.region [] Θ_ok ?_
        simp
        refine k4 _ ?_
        refine AW.seq fun _ k4 => AW.region [] Θ_ok ?_
        simp
        refine k4 _ ?_
        refine AW.block ?_
        refine AW.loopI (X := Nat) (fun y => y ≤ la.length) (fun y => ⟨164, [(0, .ro false (ints P)), (1, .int .i64 tl), (2, .ro false (bools2 la)), (3, .ro false (bools2 lb)), (9, .int .i64 P.length), (10, .ro false CE), (11, .int .i64 (mxR P tl P.length)), (13, .ro true [.bool true]), (14, .ptr q 0), (15, .int .i64 0), (83, .agg [.ro false (bools2 la), .ro false (bools2 lb)]), (84, .int .i64 0), (88, .ro false (bools2 la)), (89, .int .i64 la.length), (90, .int .i64 y)], upd h q (some ⟨[.bool (rdAM la tl P.length y), .bool true], 30, 2, true⟩)⟩) (fun y => la.length - y) 0 (Nat.zero_le _) (GStep.eq (by simp) (by simp [rdAM]; exact subH.refl _)) fun y hy => ?_
        refine AW.seq fun _ k5 => AW.region [] Θ_ok ?_
        simp
        refine k5 _ ?_
        by_cases hly : y < la.length
        · have incy := wrap_succ (show y < 9223372036854775807 by omega)
          have sty := rdAM_step la tl P.length hly
          refine AW.seq fun _ k5 => AW.cond true (by simp [Int.natCast_inj, hly]) (fun _ => ?_) (fun h => by cases h)
          refine AW.skip ?_
          simp
          refine k5 _ ?_
          refine AW.seq fun _ k5 => ?_
          refine AW.block ?_
          refine AW.seq fun _ k6 => AW.region [] Θ_ok ?_
          simp [hly]
          refine k6 _ ?_
          refine AW.seq fun _ k6 => AW.region [] Θ_ok ?_
          simp
          refine k6 _ ?_
          obtain ⟨r, hr⟩ : ∃ r, r = la[y] := ⟨_, rfl⟩
          rw [← hr] at sty ⊢
          refine AW.seq fun _ k6 => ?_
          refine AW.seq fun _ k7 => AW.region [] Θ_ok ?_
          simp
          refine k7 _ ?_
          refine AW.block ?_
          refine AW.loopI (X := Nat) (fun v => tl ≤ v ∧ v ≤ P.length) (fun v => ⟨164, [(0, .ro false (ints P)), (1, .int .i64 tl), (2, .ro false (bools2 la)), (3, .ro false (bools2 lb)), (9, .int .i64 P.length), (10, .ro false CE), (11, .int .i64 (mxR P tl P.length)), (13, .ro true [.bool true]), (14, .ptr q 0), (15, .int .i64 0), (18, .ro false (bools r)), (19, .bool (rdMB r tl v)), (20, .int .i64 v), (83, .agg [.ro false (bools2 la), .ro false (bools2 lb)]), (84, .int .i64 0), (88, .ro false (bools2 la)), (89, .int .i64 la.length), (90, .int .i64 y)], upd h q (some ⟨[.bool (rdAM la tl P.length y), .bool true], 30, 2, true⟩)⟩) (fun v => P.length - v) tl ⟨Nat.le_refl _, by omega⟩ (GStep.eq (by simp [rdMB_low]) (subH.refl _)) fun v hv => ?_
          obtain ⟨hv1, hv⟩ := hv
          refine AW.seq fun _ k8 => ?_
          refine AW.seq fun _ k9 => AW.region [] Θ_ok ?_
          simp
          refine k9 _ ?_
          by_cases hlv : v < P.length
          · have incv := wrap_succ (show v < 9223372036854775807 by omega)
            have stv := rdMB_step r tl v
            simp only [hv1, decide_true, Bool.true_and] at stv
            refine AW.cond true (by simp [Int.natCast_inj, hlv]) (fun _ => ?_) (fun h => by cases h)
            refine AW.skip ?_
            simp
            refine k8 _ ?_
            refine AW.seq fun _ k8 => ?_
            refine AW.block ?_
            have key : rdMB r tl (v + 1) = (rdMB r tl v || hasN r v) := stv
            cases hm : rdMB r tl v with
            | true =>
              rw [hm] at stv
              refine AW.region [] Θ_ok ?_
              simp [hm]
              refine k8 _ ?_
              refine AW.region [] Θ_ok ?_
              simp
              exact ⟨v + 1, ⟨by omega, hlv⟩, by omega, GStep.eq (by simp [incv, stv]) (subH.refl _)⟩
            | false =>
              rw [hm] at stv
              by_cases hvr : v < r.length
              · have eh : hasN r v = r[v] := by simp [hasN, hvr]
                rw [eh] at stv
                cases hb : r[v] with
                | false =>
                  rw [hb] at stv
                  refine AW.region [] Θ_ok ?_
                  simp [hm, hvr, hb]
                  refine k8 _ ?_
                  refine AW.region [] Θ_ok ?_
                  simp
                  exact ⟨v + 1, ⟨by omega, hlv⟩, by omega, GStep.eq (by simp [incv, stv]) (subH.refl _)⟩
                | true =>
                  rw [hb] at stv
                  refine AW.region [] Θ_ok ?_
                  simp [hm, hvr, hb]
                  refine k8 _ ?_
                  refine AW.region [] Θ_ok ?_
                  simp
                  exact ⟨v + 1, ⟨by omega, hlv⟩, by omega, GStep.eq (by simp [incv, stv]) (subH.refl _)⟩
              · have eh : hasN r v = false := by simp [hasN, List.getElem?_eq_none (Nat.le_of_not_lt hvr)]
                rw [eh] at stv
                refine AW.region [] Θ_ok ?_
                simp [hm, hvr]
                refine k8 _ ?_
                refine AW.region [] Θ_ok ?_
                simp
                exact ⟨v + 1, ⟨by omega, hlv⟩, by omega, GStep.eq (by simp [incv, stv]) (subH.refl _)⟩
          · obtain rfl : v = P.length := by omega
            refine AW.cond false (by simp [Int.natCast_inj, hlv]) (fun h => by cases h) (fun _ => ?_)
            refine AW.exit ?_
            simp
            refine k6 _ ?_
            cases hA2 : rdAM la tl P.length y with
            | true =>
              rw [hA2, Bool.true_and] at sty
              refine AW.region [] Θ_ok ?_
              simp [hA2]
              refine k5 _ ?_
              refine AW.region [] Θ_ok ?_
              simp
              exact ⟨y + 1, by omega, by omega, GStep.eq (by simp [incy]) (by rw [sty]; exact subH.refl _)⟩
            | false =>
              rw [hA2, Bool.false_and] at sty
              refine AW.region [] Θ_ok ?_
              simp [hA2]
              refine k5 _ ?_
              refine AW.region [] Θ_ok ?_
              simp
              exact ⟨y + 1, by omega, by omega, GStep.eq (by simp [incy]) (by rw [sty]; exact subH.refl _)⟩
        · obtain rfl : y = la.length := by omega
          refine AW.seq fun _ k5 => AW.cond false (by simp [Int.natCast_inj]) (fun h => by cases h) (fun _ => ?_)
          refine AW.exit ?_
          simp
          refine k3 _ ?_
          refine AW.region [] Θ_ok ?_
          simp
          exact ⟨0 + 1, by omega, by omega, GStep.eq (by simp; decide) (by simp; exact subH.refl _)⟩
      | 1, _ =>
        refine AW.seq fun _ k3 => AW.cond true (by simp) (fun _ => ?_) (fun h => by cases h)
        refine AW.skip ?_
        simp
        refine k3 _ ?_
        refine AW.seq fun _ k3 => ?_
        refine AW.block ?_
        refine AW.seq fun _ k4 => AW.region [] Θ_ok ?_
        simp
        refine k4 _ ?_
        refine AW.seq fun _ k4 => AW.region [] Θ_ok ?_
        simp
        refine k4 _ ?_
        refine AW.block ?_
        refine AW.loopI (X := Nat) (fun y => y ≤ lb.length) (fun y => ⟨164, [(0, .ro false (ints P)), (1, .int .i64 tl), (2, .ro false (bools2 la)), (3, .ro false (bools2 lb)), (9, .int .i64 P.length), (10, .ro false CE), (11, .int .i64 (mxR P tl P.length)), (13, .ro true [.bool true]), (14, .ptr q 0), (15, .int .i64 1), (83, .agg [.ro false (bools2 la), .ro false (bools2 lb)]), (84, .int .i64 1), (88, .ro false (bools2 lb)), (89, .int .i64 lb.length), (90, .int .i64 y)], upd h q (some ⟨[.bool (rdAM la tl P.length la.length), .bool (rdAM lb tl P.length y)], 30, 2, true⟩)⟩) (fun y => lb.length - y) 0 (Nat.zero_le _) (GStep.eq (by simp) (by simp [rdAM]; exact subH.refl _)) fun y hy => ?_
        refine AW.seq fun _ k5 => AW.region [] Θ_ok ?_
        simp
        refine k5 _ ?_
        by_cases hly : y < lb.length
        · have incy := wrap_succ (show y < 9223372036854775807 by omega)
          have sty := rdAM_step lb tl P.length hly
          refine AW.seq fun _ k5 => AW.cond true (by simp [Int.natCast_inj, hly]) (fun _ => ?_) (fun h => by cases h)
          refine AW.skip ?_
          simp
          refine k5 _ ?_
          refine AW.seq fun _ k5 => ?_
          refine AW.block ?_
          refine AW.seq fun _ k6 => AW.region [] Θ_ok ?_
          simp [hly]
          refine k6 _ ?_
          refine AW.seq fun _ k6 => AW.region [] Θ_ok ?_
          simp
          refine k6 _ ?_
          obtain ⟨r, hr⟩ : ∃ r, r = lb[y] := ⟨_, rfl⟩
          rw [← hr] at sty ⊢
          refine AW.seq fun _ k6 => ?_
          refine AW.seq fun _ k7 => AW.region [] Θ_ok ?_
          simp
          refine k7 _ ?_
          refine AW.block ?_
          refine AW.loopI (X := Nat) (fun v => tl ≤ v ∧ v ≤ P.length) (fun v => ⟨164, [(0, .ro false (ints P)), (1, .int .i64 tl), (2, .ro false (bools2 la)), (3, .ro false (bools2 lb)), (9, .int .i64 P.length), (10, .ro false CE), (11, .int .i64 (mxR P tl P.length)), (13, .ro true [.bool true]), (14, .ptr q 0), (15, .int .i64 1), (18, .ro false (bools r)), (19, .bool (rdMB r tl v)), (20, .int .i64 v), (83, .agg [.ro false (bools2 la), .ro false (bools2 lb)]), (84, .int .i64 1), (88, .ro false (bools2 lb)), (89, .int .i64 lb.length), (90, .int .i64 y)], upd h q (some ⟨[.bool (rdAM la tl P.length la.length), .bool (rdAM lb tl P.length y)], 30, 2, true⟩)⟩) (fun v => P.length - v) tl ⟨Nat.le_refl _, by omega⟩ (GStep.eq (by simp [rdMB_low]) (subH.refl _)) fun v hv => ?_
          obtain ⟨hv1, hv⟩ := hv
          refine AW.seq fun _ k8 => ?_
          refine AW.seq fun _ k9 => AW.region [] Θ_ok ?_
          simp
          refine k9 _ ?_
          by_cases hlv : v < P.length
          · have incv := wrap_succ (show v < 9223372036854775807 by omega)
            have stv := rdMB_step r tl v
            simp only [hv1, decide_true, Bool.true_and] at stv
            refine AW.cond true (by simp [Int.natCast_inj, hlv]) (fun _ => ?_) (fun h => by cases h)
            refine AW.skip ?_
            simp
            refine k8 _ ?_
            refine AW.seq fun _ k8 => ?_
            refine AW.block ?_
            have key : rdMB r tl (v + 1) = (rdMB r tl v || hasN r v) := stv
            cases hm : rdMB r tl v with
            | true =>
              rw [hm] at stv
              refine AW.region [] Θ_ok ?_
              simp [hm]
              refine k8 _ ?_
              refine AW.region [] Θ_ok ?_
              simp
              exact ⟨v + 1, ⟨by omega, hlv⟩, by omega, GStep.eq (by simp [incv, stv]) (subH.refl _)⟩
            | false =>
              rw [hm] at stv
              by_cases hvr : v < r.length
              · have eh : hasN r v = r[v] := by simp [hasN, hvr]
                rw [eh] at stv
                cases hb : r[v] with
                | false =>
                  rw [hb] at stv
                  refine AW.region [] Θ_ok ?_
                  simp [hm, hvr, hb]
                  refine k8 _ ?_
                  refine AW.region [] Θ_ok ?_
                  simp
                  exact ⟨v + 1, ⟨by omega, hlv⟩, by omega, GStep.eq (by simp [incv, stv]) (subH.refl _)⟩
                | true =>
                  rw [hb] at stv
                  refine AW.region [] Θ_ok ?_
                  simp [hm, hvr, hb]
                  refine k8 _ ?_
                  refine AW.region [] Θ_ok ?_
                  simp
                  exact ⟨v + 1, ⟨by omega, hlv⟩, by omega, GStep.eq (by simp [incv, stv]) (subH.refl _)⟩
              · have eh : hasN r v = false := by simp [hasN, List.getElem?_eq_none (Nat.le_of_not_lt hvr)]
                rw [eh] at stv
                refine AW.region [] Θ_ok ?_
                simp [hm, hvr]
                refine k8 _ ?_
                refine AW.region [] Θ_ok ?_
                simp
                exact ⟨v + 1, ⟨by omega, hlv⟩, by omega, GStep.eq (by simp [incv, stv]) (subH.refl _)⟩
          · obtain rfl : v = P.length := by omega
            refine AW.cond false (by simp [Int.natCast_inj, hlv]) (fun h => by cases h) (fun _ => ?_)
            refine AW.exit ?_
            simp
            refine k6 _ ?_
            cases hA2 : rdAM lb tl P.length y with
            | true =>
              rw [hA2, Bool.true_and] at sty
              refine AW.region [] Θ_ok ?_
              simp [hA2]
              refine k5 _ ?_
              refine AW.region [] Θ_ok ?_
              simp
              exact ⟨y + 1, by omega, by omega, GStep.eq (by simp [incy]) (by rw [sty]; exact subH.refl _)⟩
            | false =>
              rw [hA2, Bool.false_and] at sty
              refine AW.region [] Θ_ok ?_
              simp [hA2]
              refine k5 _ ?_
              refine AW.region [] Θ_ok ?_
              simp
              exact ⟨y + 1, by omega, by omega, GStep.eq (by simp [incy]) (by rw [sty]; exact subH.refl _)⟩
        · obtain rfl : y = lb.length := by omega
          refine AW.seq fun _ k5 => AW.cond false (by simp [Int.natCast_inj]) (fun h => by cases h) (fun _ => ?_)
          refine AW.exit ?_
          simp
          refine k3 _ ?_
          refine AW.region [] Θ_ok ?_
          simp
          exact ⟨1 + 1, by omega, by omega, GStep.eq (by simp; decide) (by simp; exact subH.refl _)⟩
    have lR : (rdN P.length tl).length = P.length := rdN_len
    have rR : ∀ l ∈ rdN P.length tl, l.length ≤ 1000000000 := fun l hl => by
      obtain ⟨i, hi, rfl⟩ := mem_tab.1 hl; simp
    have mR : mayN (rdN P.length tl) = true := by rw [sound_may (by omega)]; exact rdN_sound htl
    have e1 := proof_Even (rdN P.length tl) (by omega) rR P [true]
    have f1 := proof_Fair (rdN P.length tl) (by omega) rR [true] la lb a1 b1
    have u1 := proof_Unfair (rdN P.length tl) (by omega) rR [true] la lb a1 b1
    obtain ⟨m1, w, w1, w2, w3⟩ := mxR_all P tl P.length
    have ev := rd_even htl (P := P) w1 (by omega) (fun u hu hun => by rw [← w3]; exact m1 u hu hun)
    rw [← w3] at ev
    have fv : fairB (rdN P.length tl) [true] la lb = (!rdAM la tl P.length la.length || rdAM lb tl P.length lb.length) := by
      rw [Bool.eq_iff_iff, rd_fair htl, ← rdAM_iff, ← rdAM_iff]
      cases rdAM la tl P.length la.length <;> cases rdAM lb tl P.length lb.length <;> simp
    have uv : unfairB (rdN P.length tl) [true] la lb = (rdAM la tl P.length la.length && !rdAM lb tl P.length lb.length) := by
      rw [Bool.eq_iff_iff, rd_unfair htl, ← rdAM_iff, ← rdAM_iff]
      cases rdAM la tl P.length la.length <;> cases rdAM lb tl P.length lb.length <;> simp
    rw [mR, ev, show decide (P.length = (rdN P.length tl).length) = true by rw [lR]; simp, Bool.true_and, Bool.true_and] at e1
    rw [mR, fv, Bool.true_and] at f1
    rw [mR, uv, Bool.true_and] at u1
    have ea : (decide ((mxR P tl P.length).tmod 2 = 0)) = decide (andI .i64 (mxR P tl P.length) 1 = 0) := by
      rw [andI_one17]; exact decide_eq_decide.2 (tmod2 _)
    rw [ea] at e1
    obtain ⟨am, ham⟩ : ∃ am, andI .i64 (mxR P tl P.length) 1 = am := ⟨_, rfl⟩
    rw [ham] at e1
    generalize rdAM la tl P.length la.length = A0 at *
    generalize rdAM lb tl P.length lb.length = A1 at *
    clear ea ev fv uv m1 w3 w2 w1 mR rR
    have am2 : am = 0 ∨ ¬ am = 0 := Classical.em _
    rcases am2 with h0 | h0
    all_goals
      simp only [h0, decide_true, decide_false] at e1
      cases A0 <;> cases A1
      all_goals
        refine AW.seq fun _ kr => AW.draw [] 42 [] Θ_ok mixed (by kernel_rfl) (by kernel_rfl) ?_
        refine vcDraw_split 4 fun B hB => ?_
        simp [vcPre, vcTail, callA, isAlloc, isLoad, effOp, obl, obA, mkOK, valA]
        refine ⟨_, e1.wk (by simp [wks, weak, weak.weakL, weakL_map, ce]), ?_⟩
        refine hB _ _ _ ?_
        clear hB B
        refine vcPre_split 10 fun B hB => ?_
        simp [vcPre, vcTail, callA, isAlloc, isLoad, effOp, obl, obA, mkOK, valA, ham, h0]
        refine ⟨_, f1.wk (by simp [wks, weak, weak.weakL, weakL_map, ce]), ?_⟩
        refine hB _ _ _ ?_
        clear hB B
        refine vcPre_split 15 fun B hB => ?_
        simp [vcPre, vcTail, callA, isAlloc, isLoad, effOp, obl, obA, mkOK, valA, ham, h0]
        refine ⟨_, u1.wk (by simp [wks, weak, weak.weakL, weakL_map, ce]), ?_⟩
        refine hB _ _ _ ?_
        clear hB B
        refine vcPre_split 11 fun B hB => ?_
        simp [vcPre, vcTail, callA, isAlloc, isLoad, effOp, obl, obA, mkOK, valA, ham, h0]
        refine ⟨_, sA.wk (by simp), ?_⟩
        refine hB _ _ _ ?_
        clear hB B
        simp [vcPre, vcTail, callA, isAlloc, isLoad, effOp, obl, obA, mkOK, valA, ham, h0]
        refine kr _ (AW.ret ?_)
        simp [Try.f4]
        exact Fin.gv (GV.sub (h' := h) (fun y z hy => by
          have : y ≠ q := fun e => by rw [e, hq] at hy; cases hy
          rw [upd_ne _ _ this]; exact hy)) (Fin.refl ⟨rfl, rfl⟩)
  · by_cases c0 : P.length < 1
    · have c0' : (P.length : Int) < 1 := by omega
      have c0'' : P = [] := List.length_eq_zero_iff.1 (by omega)
      subst c0''
      refine AW.seq fun _ k2 => AW.region [] Θ_ok ?_
      simp
      refine k2 _ ?_
      refine AW.cond true (by simp [Int.natCast_inj]) (fun _ => ?_) (fun h => by cases h)
      refine AW.seq fun _ kr => AW.region [] Θ_ok ?_
      simp
      refine sA.use (by simp) ?_
      try simp
      refine kr _ (AW.ret ?_)
      simp [Try.f4]
      exact Fin.refl ⟨rfl, rfl⟩
    · have n1' : ¬ (P.length : Int) < 1 := by omega
      have n1'' : ¬ P.length = 0 := by omega
      have n1''' : ¬ P = [] := fun e => by rw [e] at c0; simp at c0
      by_cases d1 : P.length ≤ 40
      · have n2' : ¬ (40 : Int) < P.length := by omega
        by_cases d2 : la.length ≤ 4
        · have c1' : ¬ (4 : Int) < la.length := by omega
          have c2' : (4 : Int) < lb.length := by
            have : ¬ lb.length ≤ 4 := fun q => hok ⟨⟨by omega, d1⟩, d2, q⟩
            omega
          refine AW.seq fun _ k2 => AW.region [] Θ_ok ?_
          simp [n1', n2', c1', c2', n1'', n1''']
          refine k2 _ ?_
          refine AW.cond true (by simp [Int.natCast_inj]) (fun _ => ?_) (fun h => by cases h)
          refine AW.seq fun _ kr => AW.region [] Θ_ok ?_
          simp
          refine sA.use (by simp) ?_
          try simp
          refine kr _ (AW.ret ?_)
          simp [Try.f4]
          exact Fin.refl ⟨rfl, rfl⟩
        · have c1' : (4 : Int) < la.length := by omega
          refine AW.seq fun _ k2 => AW.region [] Θ_ok ?_
          simp [n1', n2', c1', n1'', n1''']
          refine k2 _ ?_
          refine AW.cond true (by simp [Int.natCast_inj]) (fun _ => ?_) (fun h => by cases h)
          refine AW.seq fun _ kr => AW.region [] Θ_ok ?_
          simp
          refine sA.use (by simp) ?_
          try simp
          refine kr _ (AW.ret ?_)
          simp [Try.f4]
          exact Fin.refl ⟨rfl, rfl⟩
      · have n2' : (40 : Int) < P.length := by omega
        refine AW.seq fun _ k2 => AW.region [] Θ_ok ?_
        simp [n1', n2', n1'', n1''']
        refine k2 _ ?_
        refine AW.cond true (by simp [Int.natCast_inj]) (fun _ => ?_) (fun h => by cases h)
        refine AW.seq fun _ kr => AW.region [] Θ_ok ?_
        simp
        refine sA.use (by simp) ?_
        try simp
        refine kr _ (AW.ret ?_)
        simp [Try.f4]
        exact Fin.refl ⟨rfl, rfl⟩
end Go.Par
