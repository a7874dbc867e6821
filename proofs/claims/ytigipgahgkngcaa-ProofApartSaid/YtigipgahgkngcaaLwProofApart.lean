/- P17.1, P17.2: ProofApart. -/
import Derived.Test.YtigipgahgkngcaaTjT
import Derived.Test.YtigipgahgkngcaaKgA
set_option linter.unusedSimpArgs false
set_option linter.unusedVariables false
set_option maxRecDepth 8000
set_option maxHeartbeats 4000000
namespace Go.Par
open Go.Proofs

def apV (n : Nat) (fa fb : List Bool) (v : Nat) : Bool := if v < n then hasN fa v else hasN fb (v - n)
def apK (n m : Nat) (fa fb : List Bool) (k : Nat) : List Bool := tab (n + m) fun v => decide (v < k) && apV n fa fb v
theorem apK_len (n m : Nat) (fa fb : List Bool) (k : Nat) : (apK n m fa fb k).length = n + m := length_tab _ _
theorem apK_set (n m : Nat) (fa fb : List Bool) (k : Nat) : (apK n m fa fb k).set k (apV n fa fb k) = apK n m fa fb (k + 1) := by
  unfold apK
  rw [set_tab]
  refine tab_congr fun i hi => ?_
  by_cases e : i = k
  · subst e; simp
  · by_cases h1 : i < k
    · simp [e, h1, show i < k + 1 by omega]
    · simp [e, h1, show ¬ i < k + 1 by omega]
theorem apK_zero (n m : Nat) (fa fb : List Bool) : apK n m fa fb 0 = List.replicate (n + m) false := by
  unfold apK; rw [replicate_tab]; exact tab_congr fun i hi => by simp
theorem apK_all (n m : Nat) (fa fb : List Bool) : apK n m fa fb (n + m) = apF n m fa fb := by
  unfold apK apF; exact tab_congr fun i hi => by simp [hi, apV]

def apX (a b : List (List Int)) (x : Nat) : List (List Int) := a ++ (b.map (shL a.length)).take x
theorem apX_len (a b : List (List Int)) {x : Nat} (h : x ≤ b.length) : (apX a b x).length = a.length + x := by simp [apX]; omega
theorem apX_step (a b : List (List Int)) {x : Nat} (h : x < b.length) : apX a b (x + 1) = apX a b x ++ [shL a.length b[x]] := by
  unfold apX
  rw [List.take_succ_eq_append_getElem (show x < (b.map (shL a.length)).length by simpa using h)]; simp
theorem apX_zero (a b : List (List Int)) : apX a b 0 = a := by simp [apX]
theorem apX_all (a b : List (List Int)) : apX a b b.length = apN a b := by
  unfold apX apN; rw [List.take_of_length_le (by simp)]
theorem shL_step (n : Nat) (l : List Int) {y : Nat} (h : y < l.length) : shL n (l.take (y + 1)) = shL n (l.take y) ++ [l[y] + n] := by
  unfold shL; rw [List.take_succ_eq_append_getElem h, List.map_append]; rfl
theorem shL_len (n : Nat) (l : List Int) : (shL n l).length = l.length := by simp [shL]
structure APX where
  no : Nat
  po : Nat
  n1 : Bool
  n2 : Bool
  x : Nat

theorem law_ProofApart (a : List (List Int)) (ha : (DK.sl (.sl .int)).fits a) (b : List (List Int)) (hb : (DK.sl (.sl .int)).fits b) (pa : List Int) (hpa : (DK.sl .int).fits pa) (pb : List Int) (hpb : (DK.sl .int).fits pb) (fa : List Bool) (hfa : (DK.sl .bool).fits fa) (fb : List Bool) (hfb : (DK.sl .bool).fits fb) :
    Pure Try.prog 6 [.ro false (rows a), .ro false (rows b), .ro false (ints pa), .ro false (ints pb), .ro false (bools fa), .ro false (bools fb)] (.bool true) := by
  obtain ⟨a1, a2⟩ := fits_ll ha
  obtain ⟨b1, b2⟩ := fits_ll hb
  have sLa := l17_light a a1 a2 fa (fits_b hfa) [] (by simp) (fun A h => by cases h) (fun A h => by cases h)
  have sLb := l17_light b b1 b2 fb (fits_b hfb) [] (by simp) (fun A h => by cases h) (fun A h => by cases h)
  have sSa := l17_sound a a1 a2
  have sSb := l17_sound b b1 b2
  have sA := l17_awake
  have eI : ∀ {x y : Nat}, (x : Int) = (y : Int) ↔ x = y := Int.natCast_inj
  intro h
  refine AC.body Θ_ok Try.func6 rfl rfl (Nat.le_of_ble_eq_true rfl) ?_
  refine AW.seq fun _ k1 => AW.region [] Θ_ok ?_
  simp
  refine k1 _ ?_
  refine AW.seq fun _ k1 => ?_
  by_cases hla : light17 a fa [] = true
  · rw [hla] at sLa
    refine AW.seq fun _ k2 => AW.regionAt 3 [] Θ_ok fun B hB => ?_
    simp
    refine sLa.use (by simp [bools3]) ?_
    by_cases hlb : light17 b fb [] = true
    · rw [hlb] at sLb
      refine hB _ ?_
      clear hB B
      refine vcOps_split 5 fun B hB => ?_
      simp
      refine sLb.use (by simp [bools3]) ?_
      by_cases ca : pa.length = a.length
      · by_cases cb : pb.length = b.length
        · by_cases hsa : soundB a = true
          · rw [hsa] at sSa
            refine hB _ ?_
            clear hB B
            refine vcOps_split 19 fun B hB => ?_
            simp [ca, cb]
            refine sSa.use (by simp) ?_
            by_cases hsb : soundB b = true
            · rw [hsb] at sSb
              refine hB _ ?_
              clear hB B
              refine vcOps_split 5 fun B hB => ?_
              simp
              refine sSb.use (by simp) ?_
              refine hB _ ?_
              clear hB B
              simp
              refine k2 _ ?_
              refine AW.cond false (by simp [Int.natCast_inj]) (fun h => by cases h) (fun _ => ?_)
              refine AW.skip ?_
              simp
              refine k1 _ ?_
              obtain ⟨hNa, _, _, hra, _⟩ := light_row hla
              obtain ⟨hNb, _, _, hrb, _⟩ := light_row hlb
              clear sLa sLb sSa sSb hla hlb hfa hfb hpa hpb ha hb
              obtain ⟨M, hM⟩ : ∃ M, M = a.length + b.length := ⟨_, rfl⟩
              have w1 : IntKind.i64.wrap ((a.length : Int) + (b.length : Int)) = (M : Int) := by
                rw [hM, ← Int.natCast_add]; exact wrap_nat (by omega)
              refine AW.seq fun _ k1 => AW.region [] Θ_ok ?_
              simp
              refine k1 _ ?_
              refine AW.seq fun _ k1 => AW.region [] Θ_ok ?_
              simp
              refine k1 _ ?_
              refine AW.seq fun _ k1 => AW.region [64] Θ_ok ?_
              simp [w1]
              refine ⟨by omega, fun fo hfo => k1 _ ?_⟩
              have e1 : List.flatMap AV.flat (List.replicate M (AV.bool false)) = (apK a.length b.length fa fb 0).map AV.bool := by
                rw [flat_ones (fun u hu => by rw [(List.mem_replicate.1 hu).2]; rfl), apK_zero, hM]; simp
              rw [e1, obBk_mk]
              have N1 : HN h [fo] := HL.new (l := []) ⟨List.nodup_nil, fun o ho => by cases ho⟩ hfo
              refine AW.mine 14 3 1 rfl fun po hpo => ?_
              simp only at hpo ⊢
              have N2 : HN h [po, fo] := HL.new (l := [(fo, obBk (apK a.length b.length fa fb 0))]) N1 hpo
              refine AW.mine 13 28 1 rfl fun no hno => ?_
              simp only at hno ⊢
              have N3 : HN h [no, po, fo] := HL.new (l := [(po, ⟨[], 3, 1, false⟩), (fo, obBk (apK a.length b.length fa fb 0))]) N2 hno
              rw [show upd (upd (upd h fo (some (obBk (apK a.length b.length fa fb 0)))) po (some ⟨[], 3, 1, false⟩)) no (some ⟨[], 28, 1, false⟩) = apH h no po fo (obRo [] false) [] false (apK a.length b.length fa fb 0) from rfl]
              clear N1 N2 hno hpo hfo e1
              refine AW.seqEx (X := APX) (fun t => HN h [t.no, t.po, fo]) (fun t => ⟨173, [(0, .ro false (rows a)), (1, .ro false (rows b)), (2, .ro false (ints pa)), (3, .ro false (ints pb)), (4, .ro false (bools fa)), (5, .ro false (bools fb)), (13, .mu t.no a.length), (14, .mu t.po a.length), (15, .mu fo M)], apH h t.no t.po fo (obRo a t.n1) pa t.n2 (apK a.length b.length fa fb a.length)⟩) (fun _ k1 => ?_) ?_
              · refine AW.seq fun _ k2 => AW.region [] Θ_ok ?_
                simp
                refine k2 _ ?_
                refine AW.block ?_
                refine AW.loopI (X := APX) (fun t => HN h [t.no, t.po, fo] ∧ t.x ≤ a.length) (fun t => ⟨173, [(0, .ro false (rows a)), (1, .ro false (rows b)), (2, .ro false (ints pa)), (3, .ro false (ints pb)), (4, .ro false (bools fa)), (5, .ro false (bools fb)), (13, .mu t.no t.x), (14, .mu t.po t.x), (15, .mu fo M), (65, .ro false (rows a)), (66, .int .i64 a.length), (67, .int .i64 t.x)], apH h t.no t.po fo (obRo (a.take t.x) t.n1) (pa.take t.x) t.n2 (apK a.length b.length fa fb t.x)⟩) (fun t => a.length - t.x) ⟨no, po, false, false, 0⟩ ⟨N3, Nat.zero_le _⟩ (GStep.eq (by simp) (subH.refl _)) ?_
                clear N3 no po
                rintro ⟨no, po, n1, n2, x⟩ ⟨N, hx⟩
                simp only at N hx ⊢
                refine AW.seq fun _ k2 => AW.region [] Θ_ok ?_
                simp
                refine k2 _ ?_
                by_cases hlt : x < a.length
                · have inc := wrap_succ (show x < 9223372036854775807 by omega)
                  have hrl := hra _ (List.getElem_mem hlt)
                  have an := apH.an N (obRo (a.take x) n1) (pa.take x) n2 (apK a.length b.length fa fb x)
                  have lt1 : (a.take x).length = x := by rw [List.length_take]; omega
                  have lt2 : (pa.take x).length = x := by rw [List.length_take]; omega
                  have tk1 : a.take (x + 1) = a.take x ++ [a[x]] := List.take_succ_eq_append_getElem hlt
                  have hlp : x < pa.length := by omega
                  have tk2 : pa.take (x + 1) = pa.take x ++ [pa[x]] := List.take_succ_eq_append_getElem hlp
                  obtain ⟨NX, hNX⟩ : ∃ NX, NX = a.take x := ⟨_, rfl⟩
                  obtain ⟨PX, hPX⟩ : ∃ PX, PX = pa.take x := ⟨_, rfl⟩
                  obtain ⟨FX, hFX⟩ : ∃ FX, FX = apK a.length b.length fa fb x := ⟨_, rfl⟩
                  rw [← hNX] at an lt1 tk1 ⊢
                  rw [← hPX] at an lt2 tk2 ⊢
                  rw [← hFX] at an ⊢
                  have ef : List.flatMap AV.flat (ints a[x]) = ints a[x] := flat_ones fun u hu => by obtain ⟨_, _, rfl⟩ := List.mem_map.1 hu; rfl
                  refine AW.seq fun _ k2 => AW.cond true (by simp [Int.natCast_inj, hlt]) (fun _ => ?_) (fun h => by cases h)
                  refine AW.skip ?_
                  simp
                  refine k2 _ ?_
                  refine AW.seq fun _ k2 => ?_
                  refine AW.block ?_
                  refine AW.seq fun _ k3 => AW.region [] Θ_ok ?_
                  simp [hlt]
                  refine k3 _ ?_
                  refine AW.seq fun _ k3 => AW.region [73] Θ_ok ?_
                  simp [an, appendA, obA, mkOK, valA, newA, ef, lt1]
                  refine fun b0 hb0 => ⟨rfl, ⟨by omega, by omega⟩, fun m1 h1 => ⟨rfl, ?_⟩⟩
                  simp only [upd_none_id hb0]
                  obtain ⟨_, h1'⟩ := ne_of_none h1 (by simp)
                  have N4 : HN h [m1, no, po, fo] := HL.new (l := [(no, obRo NX n1), (po, obTd PX n2), (fo, obBk FX)]) N h1'
                  rw [show upd (apH h no po fo (obRo NX n1) PX n2 FX) m1 (some ⟨ints a[x], 3, 1, true⟩) = HL h [(m1, obTd a[x] true), (no, obRo NX n1), (po, obTd PX n2), (fo, obBk FX)] from rfl]
                  rw [show HL h [(m1, obTd a[x] true), (no, obRo NX n1), (po, obTd PX n2), (fo, obBk FX)] no = some (obRo NX n1) from HL.at (k := 1) N4.nd rfl]
                  simp only
                  refine ⟨⟨rfl, rfl, by simp [lt1], by omega, by omega⟩, fun no' hno' => k3 _ ?_⟩
                  obtain ⟨r1, N5⟩ := HL.ren (h0 := h) (A' := ⟨rows NX ++ [.mu m1 a[x].length], 28, 1, true⟩) (l := [(m1, obTd a[x] true), (no, obRo NX n1), (po, obTd PX n2), (fo, obBk FX)]) (k := 1) N4 rfl hno'
                  have ert : List.take x (obRo NX n1).cells = rows NX := List.take_of_length_le (by simp [lt1])
                  rw [ert, r1]
                  refine AW.ghost (ap_row N5 NX a[x] true PX n2 FX _ _) ?_
                  have N6 : HN h [no', po, fo] := HN.del N5 0
                  rw [← tk1]
                  clear ert r1 N5 hno' N4 h1' h1 hb0 an N
                  have ap := apH.ap N6 (obRo (a.take (x + 1)) true) PX n2 FX
                  have gp := fun o' ho => apH.gp N6 (obRo (a.take (x + 1)) true) PX n2 FX (o' := o') ho (PX ++ [pa[x]])
                  have e5 : (⟨List.take x (ints PX) ++ [.int .i64 pa[x]], 3, 1, true⟩ : Ob) = obTd (PX ++ [pa[x]]) true := obTd_snocK _ _ _ lt2.symm
                  refine AW.seq fun _ k3 => AW.region [] Θ_ok ?_
                  simp [ap, appendA, hlp, lt2, e5]
                  refine ⟨rfl, ⟨by omega, by omega⟩, fun po' hpo' => k3 _ ?_⟩
                  obtain ⟨g1, N7⟩ := gp po' hpo'
                  rw [g1, ← tk2]
                  clear g1 gp ap e5 hpo' N6
                  have af := apH.af N7 (obRo (a.take (x + 1)) true) (pa.take (x + 1)) true FX
                  have pf := apH.pf N7 (obRo (a.take (x + 1)) true) (pa.take (x + 1)) true FX (apK a.length b.length fa fb (x + 1))
                  have lF : FX.length = M := by rw [hFX, apK_len, hM]
                  have ms := mapk_set FX x (hasN fa x)
                  rw [show FX.set x (hasN fa x) = apK a.length b.length fa fb (x + 1) by rw [hFX, ← apK_set]; congr 1; unfold apV; rw [if_pos hlt]] at ms
                  have sH := has_r9 fa x
                  have hxM : x < M := by omega
                  generalize hasN fa x = bv at sH ms
                  refine AW.regionAt 5 [] Θ_ok fun B hB => ?_
                  simp
                  refine sH.use (by simp) ?_
                  refine hB _ ?_
                  clear hB B
                  simp [af, hxM, lF, ms, obBk_mk, pf]
                  refine ⟨by omega, k2 _ ?_⟩
                  refine AW.region [] Θ_ok ?_
                  simp
                  exact ⟨⟨no', po', true, true, x + 1⟩, ⟨N7, hlt⟩, by simp only; omega, GStep.eq (by simp [inc]) (subH.refl _)⟩
                · obtain rfl : x = a.length := by omega
                  refine AW.seq fun _ k2 => AW.cond false (by simp [Int.natCast_inj]) (fun h => by cases h) (fun _ => ?_)
                  refine AW.exit ?_
                  simp
                  refine k1 _ ⟨no, po, n1, n2, 0⟩ N (GStep.eq (by simp) ?_)
                  simp only
                  rw [show List.take a.length pa = pa from by rw [← ca]; exact List.take_length]
                  exact subH.refl _
              clear N3 no po
              rintro ⟨no, po, n1, n2, _⟩ N
              simp only at N ⊢
              have hbs := sound_iff.1 hsb
              refine AW.seqEx (X := APX) (fun t => HN h [t.no, t.po, fo]) (fun t => ⟨173, [(0, .ro false (rows a)), (1, .ro false (rows b)), (2, .ro false (ints pa)), (3, .ro false (ints pb)), (4, .ro false (bools fa)), (5, .ro false (bools fb)), (13, .mu t.no (a.length + b.length)), (14, .mu t.po (a.length + b.length)), (15, .mu fo M)], apH h t.no t.po fo (obRo (apN a b) t.n1) (pa ++ pb) t.n2 (apF a.length b.length fa fb)⟩) (fun _ k1 => ?_) ?_
              · refine AW.seq fun _ k2 => AW.region [] Θ_ok ?_
                simp
                refine k2 _ ?_
                refine AW.block ?_
                refine AW.loopI (X := APX) (fun t => HN h [t.no, t.po, fo] ∧ t.x ≤ b.length) (fun t => ⟨173, [(0, .ro false (rows a)), (1, .ro false (rows b)), (2, .ro false (ints pa)), (3, .ro false (ints pb)), (4, .ro false (bools fa)), (5, .ro false (bools fb)), (13, .mu t.no (a.length + t.x)), (14, .mu t.po (a.length + t.x)), (15, .mu fo M), (92, .ro false (rows b)), (93, .int .i64 b.length), (94, .int .i64 t.x)], apH h t.no t.po fo (obRo (apX a b t.x) t.n1) (pa ++ pb.take t.x) t.n2 (apK a.length b.length fa fb (a.length + t.x))⟩) (fun t => b.length - t.x) ⟨no, po, n1, n2, 0⟩ ⟨N, Nat.zero_le _⟩ (GStep.eq (by simp) (by simp only [List.take_zero, apX_zero, List.append_nil, Nat.add_zero]; exact subH.refl _)) ?_
                clear N no po n1 n2
                rintro ⟨no, po, n1, n2, x⟩ ⟨N, hx⟩
                simp only at N hx ⊢
                refine AW.seq fun _ k2 => AW.region [] Θ_ok ?_
                simp
                refine k2 _ ?_
                by_cases hlt : x < b.length
                · have inc := wrap_succ (show x < 9223372036854775807 by omega)
                  have hrl := hrb _ (List.getElem_mem hlt)
                  have hbx := hbs _ (List.getElem_mem hlt)
                  have lt1 := apX_len a b hx
                  have lt2 : (pa ++ pb.take x).length = a.length + x := by simp; omega
                  have tk1 := apX_step a b hlt
                  have hlp : x < pb.length := by omega
                  have tk2 : pa ++ pb.take (x + 1) = (pa ++ pb.take x) ++ [pb[x]] := by rw [List.take_succ_eq_append_getElem hlp]; simp
                  obtain ⟨NX, hNX⟩ : ∃ NX, NX = apX a b x := ⟨_, rfl⟩
                  obtain ⟨PX, hPX⟩ : ∃ PX, PX = pa ++ pb.take x := ⟨_, rfl⟩
                  obtain ⟨FX, hFX⟩ : ∃ FX, FX = apK a.length b.length fa fb (a.length + x) := ⟨_, rfl⟩
                  rw [← hNX] at lt1 tk1 ⊢
                  rw [← hPX] at lt2 tk2 ⊢
                  rw [← hFX]
                  refine AW.seq fun _ k2 => AW.cond true (by simp [Int.natCast_inj, hlt]) (fun _ => ?_) (fun h => by cases h)
                  refine AW.skip ?_
                  simp
                  refine k2 _ ?_
                  refine AW.seq fun _ k2 => ?_
                  refine AW.block ?_
                  refine AW.seq fun _ k3 => AW.region [] Θ_ok ?_
                  simp [hlt]
                  refine k3 _ ?_
                  refine AW.seq fun _ k3 => AW.region [] Θ_ok ?_
                  simp
                  refine k3 _ ?_
                  refine AW.mine 20 3 1 rfl fun m hm => ?_
                  simp only at hm ⊢
                  have N4 : HN h [m, no, po, fo] := HL.new (l := [(no, obRo NX n1), (po, obTd PX n2), (fo, obBk FX)]) N hm
                  rw [show upd (apH h no po fo (obRo NX n1) PX n2 FX) m (some ⟨[], 3, 1, false⟩) = HL h [(m, obTd (shL a.length (b[x].take 0)) false), (no, obRo NX n1), (po, obTd PX n2), (fo, obBk FX)] from rfl]
                  clear hm
                  refine AW.seqEx (X := APX) (fun t => HN h [t.no, no, po, fo]) (fun t => ⟨173, [(0, .ro false (rows a)), (1, .ro false (rows b)), (2, .ro false (ints pa)), (3, .ro false (ints pb)), (4, .ro false (bools fa)), (5, .ro false (bools fb)), (13, .mu no (a.length + x)), (14, .mu po (a.length + x)), (15, .mu fo M), (18, .int .i64 x), (20, .mu t.no b[x].length), (92, .ro false (rows b)), (93, .int .i64 b.length), (94, .int .i64 x)], HL h [(t.no, obTd (shL a.length b[x]) t.n1), (no, obRo NX n1), (po, obTd PX n2), (fo, obBk FX)]⟩) (fun _ k3 => ?_) ?_
                  · refine AW.seq fun _ k4 => AW.region [] Θ_ok ?_
                    simp
                    refine k4 _ ?_
                    refine AW.block ?_
                    refine AW.loopI (X := APX) (fun t => HN h [t.no, no, po, fo] ∧ t.x ≤ b[x].length) (fun t => ⟨173, [(0, .ro false (rows a)), (1, .ro false (rows b)), (2, .ro false (ints pa)), (3, .ro false (ints pb)), (4, .ro false (bools fa)), (5, .ro false (bools fb)), (13, .mu no (a.length + x)), (14, .mu po (a.length + x)), (15, .mu fo M), (18, .int .i64 x), (20, .mu t.no t.x), (92, .ro false (rows b)), (93, .int .i64 b.length), (94, .int .i64 x), (99, .ro false (ints b[x])), (100, .int .i64 b[x].length), (101, .int .i64 t.x)], HL h [(t.no, obTd (shL a.length (b[x].take t.x)) t.n1), (no, obRo NX n1), (po, obTd PX n2), (fo, obBk FX)]⟩) (fun t => b[x].length - t.x) ⟨m, 0, false, false, 0⟩ ⟨N4, Nat.zero_le _⟩ (GStep.eq (by simp) (subH.refl _)) ?_
                    clear N4 m
                    rintro ⟨m, _, nm, _, y⟩ ⟨N4, hy⟩
                    simp only at N4 hy ⊢
                    refine AW.seq fun _ k4 => AW.region [] Θ_ok ?_
                    simp
                    refine k4 _ ?_
                    by_cases hly : y < b[x].length
                    · have incy := wrap_succ (show y < 9223372036854775807 by omega)
                      obtain ⟨g0, g1⟩ := hbx _ (List.getElem_mem hly)
                      have tk := shL_step a.length b[x] hly
                      have lsh : (shL a.length (b[x].take y)).length = y := by simp [shL]; omega
                      obtain ⟨w, hw⟩ := Int.eq_ofNat_of_zero_le g0
                      have w2 : IntKind.i64.wrap ((w : Int) + (a.length : Int)) = (w : Int) + (a.length : Int) := by
                        rw [← Int.natCast_add]; exact wrap_nat (by omega)
                      have am : HL h [(m, obTd (shL a.length (b[x].take y)) nm), (no, obRo NX n1), (po, obTd PX n2), (fo, obBk FX)] m = some (obTd (shL a.length (b[x].take y)) nm) := HL.at (k := 0) N4.nd rfl
                      have re := fun (o' : Nat) (ho : HL h [(m, obTd (shL a.length (b[x].take y)) nm), (no, obRo NX n1), (po, obTd PX n2), (fo, obBk FX)] o' = none) => HL.ren (h0 := h) (a' := o') (A' := obTd (shL a.length (b[x].take (y + 1))) true) (l := [(m, obTd (shL a.length (b[x].take y)) nm), (no, obRo NX n1), (po, obTd PX n2), (fo, obBk FX)]) (k := 0) N4 rfl ho
                      rw [hw] at tk
                      have e5 : (⟨List.take y (ints (shL a.length (b[x].take y))) ++ [.int .i64 ((w : Int) + (a.length : Int))], 3, 1, true⟩ : Ob) = obTd (shL a.length (b[x].take (y + 1))) true := by
                        rw [tk]; exact obTd_snocK _ _ _ lsh.symm
                      obtain ⟨SH, hSH⟩ : ∃ SH, SH = shL a.length (b[x].take y) := ⟨_, rfl⟩
                      rw [← hSH] at am re e5 lsh ⊢
                      obtain ⟨H4, hH4⟩ : ∃ H4, H4 = HL h [(m, obTd SH nm), (no, obRo NX n1), (po, obTd PX n2), (fo, obBk FX)] := ⟨_, rfl⟩
                      rw [← hH4] at am re ⊢
                      refine AW.seq fun _ k4 => AW.cond true (by simp [Int.natCast_inj, hly]) (fun _ => ?_) (fun h => by cases h)
                      refine AW.skip ?_
                      simp
                      refine k4 _ ?_
                      refine AW.seq fun _ k4 => ?_
                      refine AW.block ?_
                      refine AW.seq fun _ k5 => AW.region [] Θ_ok ?_
                      simp [hly, hw]
                      refine k5 _ ?_
                      refine AW.region [] Θ_ok ?_
                      simp [am, appendA, w2, e5, lsh]
                      refine ⟨rfl, ⟨by omega, by omega⟩, fun m' hm' => k4 _ ?_⟩
                      obtain ⟨r1, N5⟩ := re m' hm'
                      rw [r1]
                      refine AW.region [] Θ_ok ?_
                      simp
                      exact ⟨⟨m', 0, true, true, y + 1⟩, ⟨N5, hly⟩, by simp only; omega, GStep.eq (by simp [incy]) (subH.refl _)⟩
                    · obtain rfl : y = b[x].length := by omega
                      refine AW.seq fun _ k4 => AW.cond false (by simp [Int.natCast_inj]) (fun h => by cases h) (fun _ => ?_)
                      refine AW.exit ?_
                      simp
                      exact k3 _ ⟨m, 0, nm, nm, 0⟩ N4 (GStep.eq (by simp) (by simp only [List.take_length]; exact subH.refl _))
                  clear N4 m
                  rintro ⟨m, _, nm, _, _⟩ N4
                  simp only at N4 ⊢
                  refine AW.freeze 20 (n := b[x].length) false (by simp) (HL.at (k := 0) N4.nd rfl) (fun e => by cases e) rfl (by simp [shL_len]) (fun u hu => by obtain ⟨z, _, rfl⟩ := List.mem_map.1 hu; rfl) ?_
                  simp only
                  rw [HL.del (k := 0) N4 rfl, show HL h (List.eraseIdx [(m, obTd (shL a.length b[x]) nm), (no, obRo NX n1), (po, obTd PX n2), (fo, obBk FX)] 0) = apH h no po fo (obRo NX n1) PX n2 FX from rfl]
                  clear N4
                  have an := apH.an N (obRo NX n1) PX n2 FX
                  have gn := fun o' ho => apH.gn N (obRo NX n1) PX n2 FX (o' := o') ho (obRo (apX a b (x + 1)) true)
                  obtain ⟨sh, hsh⟩ : ∃ sh, sh = shL a.length b[x] := ⟨_, rfl⟩
                  rw [← hsh] at tk1 ⊢
                  rw [obTd_cells]
                  have e5 : (⟨List.take (a.length + x) (rows NX) ++ [.ro false (ints sh)], 28, 1, true⟩ : Ob) = obRo (apX a b (x + 1)) true := by
                    rw [tk1, List.take_of_length_le (by simp [lt1])]; simp [obRo, rows]
                  refine AW.seq fun _ k3 => AW.region [] Θ_ok ?_
                  simp [an, appendA, lt1, e5]
                  refine ⟨rfl, ⟨by omega, by omega⟩, fun no' hno' => k3 _ ?_⟩
                  obtain ⟨g1, N6⟩ := gn no' hno'
                  rw [g1]
                  clear g1 gn an e5 hno' N
                  have ap := apH.ap N6 (obRo (apX a b (x + 1)) true) PX n2 FX
                  have gp := fun o' ho => apH.gp N6 (obRo (apX a b (x + 1)) true) PX n2 FX (o' := o') ho (PX ++ [pb[x]])
                  have e5 : (⟨List.take (a.length + x) (ints PX) ++ [.int .i64 pb[x]], 3, 1, true⟩ : Ob) = obTd (PX ++ [pb[x]]) true := obTd_snocK _ _ _ lt2.symm
                  refine AW.seq fun _ k3 => AW.region [] Θ_ok ?_
                  simp [ap, appendA, hlp, lt2, e5]
                  refine ⟨rfl, ⟨by omega, by omega⟩, fun po' hpo' => k3 _ ?_⟩
                  obtain ⟨g1, N7⟩ := gp po' hpo'
                  rw [g1, ← tk2]
                  clear g1 gp ap e5 hpo' N6
                  have af := apH.af N7 (obRo (apX a b (x + 1)) true) (pa ++ pb.take (x + 1)) true FX
                  have pf := apH.pf N7 (obRo (apX a b (x + 1)) true) (pa ++ pb.take (x + 1)) true FX (apK a.length b.length fa fb (a.length + (x + 1)))
                  have lF : FX.length = M := by rw [hFX, apK_len, hM]
                  have ms := mapk_set FX (a.length + x) (hasN fb x)
                  rw [show FX.set (a.length + x) (hasN fb x) = apK a.length b.length fa fb (a.length + (x + 1)) by
                    rw [hFX, ← Nat.add_assoc, ← apK_set]; congr 1; unfold apV; rw [if_neg (by omega), show a.length + x - a.length = x by omega]] at ms
                  have sH := has_r9 fb x
                  obtain ⟨ix, hix⟩ : ∃ ix, ix = a.length + x := ⟨_, rfl⟩
                  have hxM : ix < M := by omega
                  have w2 : IntKind.i64.wrap ((a.length : Int) + (x : Int)) = (ix : Int) := by
                    rw [hix, ← Int.natCast_add]; exact wrap_nat (by omega)
                  rw [← hix] at ms
                  generalize hasN fb x = bv at sH ms
                  refine AW.regionAt 8 [] Θ_ok fun B hB => ?_
                  simp [w2]
                  refine sH.use (by simp) ?_
                  refine hB _ ?_
                  clear hB B
                  simp [af, hxM, lF, ms, obBk_mk, pf]
                  refine ⟨by omega, k2 _ ?_⟩
                  refine AW.region [] Θ_ok ?_
                  simp
                  exact ⟨⟨no', po', true, true, x + 1⟩, ⟨N7, hlt⟩, by simp only; omega, GStep.eq (by simp [inc, hix, Nat.add_assoc]) (subH.refl _)⟩
                · obtain rfl : x = b.length := by omega
                  refine AW.seq fun _ k2 => AW.cond false (by simp [Int.natCast_inj]) (fun h => by cases h) (fun _ => ?_)
                  refine AW.exit ?_
                  simp
                  refine k1 _ ⟨no, po, n1, n2, 0⟩ N (GStep.eq (by simp) ?_)
                  simp only
                  rw [apX_all, apK_all, show List.take b.length pb = pb from by rw [← cb]; exact List.take_length]
                  exact subH.refl _
              clear N no po
              rintro ⟨no, po, n1, n2, _⟩ N
              simp only at N ⊢
              refine AW.freeze 13 (n := a.length + b.length) false (by simp) (apH.an N _ _ _ _) (fun e => by cases e) rfl (by simp [apN_len]) (fun u hu => by obtain ⟨z, _, rfl⟩ := List.mem_map.1 hu; rfl) ?_
              simp only
              rw [show upd (apH h no po fo (obRo (apN a b) n1) (pa ++ pb) n2 (apF a.length b.length fa fb)) no none = HL h [(po, obTd (pa ++ pb) n2), (fo, obBk (apF a.length b.length fa fb))] from HL.del (k := 0) N rfl]
              have N2 : HN h [po, fo] := HN.del N 0
              refine AW.freeze 14 (n := a.length + b.length) false (by simp) (HL.at (k := 0) N2.nd rfl) (fun e => by cases e) rfl (by simp; omega) (fun u hu => by obtain ⟨z, _, rfl⟩ := List.mem_map.1 hu; rfl) ?_
              simp only
              rw [HL.del (k := 0) N2 rfl, show HL h (List.eraseIdx [(po, obTd (pa ++ pb) n2), (fo, obBk (apF a.length b.length fa fb))] 0) = HL h [(fo, obBk (apF a.length b.length fa fb))] from rfl]
              have N3 : HN h [fo] := HN.del N2 0
              refine AW.freeze 15 (n := M) false (by simp) (HL.at (k := 0) N3.nd rfl) (fun e => by cases e) rfl (by simp [apF, hM]) (fun u hu => by obtain ⟨z, _, rfl⟩ := List.mem_map.1 hu; rfl) ?_
              simp only
              rw [HL.del (k := 0) N3 rfl, show HL h (List.eraseIdx [(fo, obBk (apF a.length b.length fa fb))] 0) = h from rfl]
              simp only [obRo_cells, obTd_cells, obBk_cells]
              rw [show List.map AV.bool (apF a.length b.length fa fb) = bools (apF a.length b.length fa fb) from rfl]
              clear N N2 N3
              have lAB : (apN a b).length = a.length + b.length := apN_len
              have rAB : ∀ l ∈ apN a b, l.length ≤ 1000000000 := fun l hl => by
                unfold apN at hl
                rw [List.mem_append] at hl
                rcases hl with q | q
                · exact hra l q
                · obtain ⟨l', h1, rfl⟩ := List.mem_map.1 q
                  rw [shL_len]; exact hrb l' h1
              have sAB : soundB (apN a b) = true := by
                rw [sound_iff] at hsa hsb ⊢
                intro l hl w hw
                unfold apN at hl
                rw [List.mem_append] at hl
                rw [lAB]
                rcases hl with q | q
                · have := hsa l q w hw; omega
                · obtain ⟨l', h1, rfl⟩ := List.mem_map.1 q
                  obtain ⟨w', h2, rfl⟩ := List.mem_map.1 hw
                  have := hsb l' h1 w' h2; omega
              have e1 := proof_Even (apN a b) (by omega) rAB (pa ++ pb) (apF a.length b.length fa fb)
              have e2 := proof_Even a a1 hra pa fa
              have e3 := proof_Even b b1 hrb pb fb
              have f1 := proof_Fair (apN a b) (by omega) rAB (apF a.length b.length fa fb) [] [apF a.length b.length fa fb] (by simp) (by simp)
              have f2 := proof_Fair a a1 hra fa [] [fa] (by simp) (by simp)
              have f3 := proof_Fair b b1 hrb fb [] [fb] (by simp) (by simp)
              rw [sound_may (by omega), sAB, apart_even hsa hsb ca, show decide ((pa ++ pb).length = (apN a b).length) = true by rw [lAB]; simp; omega, Bool.true_and, Bool.true_and] at e1
              rw [sound_may (by omega), hsa, show decide (pa.length = a.length) = true by simpa using ca, Bool.true_and, Bool.true_and] at e2
              rw [sound_may (by omega), hsb, show decide (pb.length = b.length) = true by simpa using cb, Bool.true_and, Bool.true_and] at e3
              rw [sound_may (by omega), sAB, apart_fair hsa hsb, Bool.true_and] at f1
              rw [sound_may (by omega), hsa, Bool.true_and] at f2
              rw [sound_may (by omega), hsb, Bool.true_and] at f3
              generalize evB a pa (reachL (nG a) fa) = x1 at *
              generalize evB b pb (reachL (nG b) fb) = x2 at *
              generalize fairB a fa [] [fa] = y1 at *
              generalize fairB b fb [] [fb] = y2 at *
              generalize apF a.length b.length fa fb = FF at *
              generalize apN a b = NN at *
              refine AW.seq fun _ k2 => AW.region [] Θ_ok ?_
              simp
              refine k2 _ ?_
              cases x2 <;> cases y2
              all_goals
                cases x1 with
                | false =>
                  refine AW.seq fun _ k2 => AW.regionAt 4 [] Θ_ok fun B hB => ?_
                  simp
                  refine e1.use (by simp) ?_
                  refine hB _ ?_
                  clear hB B
                  refine vcOps_split 4 fun B hB => ?_
                  simp
                  refine e2.use (by simp) ?_
                  refine hB _ ?_
                  clear hB B
                  refine vcOps_split 12 fun B hB => ?_
                  simp
                  refine f1.use (by simp [bools2]) ?_
                  refine hB _ ?_
                  clear hB B
                  refine vcOps_split 5 fun B hB => ?_
                  simp
                  refine f2.use (by simp [bools2]) ?_
                  cases y1 with
                  | false =>
                    refine hB _ ?_
                    clear hB B
                    refine vcOps_split 11 fun B hB => ?_
                    simp
                    refine sA.use (by simp) ?_
                    refine hB _ ?_
                    clear hB B
                    simp
                    refine k2 _ (AW.ret ?_)
                    simp [Try.f6]
                    exact Fin.refl ⟨rfl, rfl⟩
                  | true =>
                    refine hB _ ?_
                    clear hB B
                    refine vcOps_split 6 fun B hB => ?_
                    simp
                    refine f3.use (by simp [bools2]) ?_
                    refine hB _ ?_
                    clear hB B
                    refine vcOps_split 5 fun B hB => ?_
                    simp
                    refine sA.use (by simp) ?_
                    refine hB _ ?_
                    clear hB B
                    simp
                    refine k2 _ (AW.ret ?_)
                    simp [Try.f6]
                    exact Fin.refl ⟨rfl, rfl⟩
                | true =>
                  refine AW.seq fun _ k2 => AW.regionAt 4 [] Θ_ok fun B hB => ?_
                  simp
                  refine e1.use (by simp) ?_
                  refine hB _ ?_
                  clear hB B
                  refine vcOps_split 4 fun B hB => ?_
                  simp
                  refine e2.use (by simp) ?_
                  refine hB _ ?_
                  clear hB B
                  refine vcOps_split 5 fun B hB => ?_
                  simp
                  refine e3.use (by simp) ?_
                  refine hB _ ?_
                  clear hB B
                  refine vcOps_split 7 fun B hB => ?_
                  simp
                  refine f1.use (by simp [bools2]) ?_
                  refine hB _ ?_
                  clear hB B
                  refine vcOps_split 5 fun B hB => ?_
                  simp
                  refine f2.use (by simp [bools2]) ?_
                  cases y1 with
                  | false =>
                    refine hB _ ?_
                    clear hB B
                    refine vcOps_split 11 fun B hB => ?_
                    simp
                    refine sA.use (by simp) ?_
                    refine hB _ ?_
                    clear hB B
                    simp
                    refine k2 _ (AW.ret ?_)
                    simp [Try.f6]
                    exact Fin.refl ⟨rfl, rfl⟩
                  | true =>
                    refine hB _ ?_
                    clear hB B
                    refine vcOps_split 6 fun B hB => ?_
                    simp
                    refine f3.use (by simp [bools2]) ?_
                    refine hB _ ?_
                    clear hB B
                    refine vcOps_split 5 fun B hB => ?_
                    simp
                    refine sA.use (by simp) ?_
                    refine hB _ ?_
                    clear hB B
                    simp
                    refine k2 _ (AW.ret ?_)
                    simp [Try.f6]
                    exact Fin.refl ⟨rfl, rfl⟩
            · have hsb' : soundB b = false := by simpa using hsb
              rw [hsb'] at sSb
              refine hB _ ?_
              clear hB B
              refine vcOps_split 5 fun B hB => ?_
              simp
              refine sSb.use (by simp) ?_
              refine hB _ ?_
              clear hB B
              simp
              refine k2 _ ?_
              refine AW.cond true (by simp [Int.natCast_inj]) (fun _ => ?_) (fun h => by cases h)
              refine AW.seq fun _ kr => AW.region [] Θ_ok ?_
              simp
              refine sA.use (by simp) ?_
              try simp
              refine kr _ (AW.ret ?_)
              simp [Try.f6]
              exact Fin.refl ⟨rfl, rfl⟩
          · have hsa' : soundB a = false := by simpa using hsa
            rw [hsa'] at sSa
            refine hB _ ?_
            clear hB B
            refine vcOps_split 19 fun B hB => ?_
            simp [ca, cb]
            refine sSa.use (by simp) ?_
            refine hB _ ?_
            clear hB B
            simp
            refine k2 _ ?_
            refine AW.cond true (by simp [Int.natCast_inj]) (fun _ => ?_) (fun h => by cases h)
            refine AW.seq fun _ kr => AW.region [] Θ_ok ?_
            simp
            refine sA.use (by simp) ?_
            try simp
            refine kr _ (AW.ret ?_)
            simp [Try.f6]
            exact Fin.refl ⟨rfl, rfl⟩
        · have cb' : ¬ (pb.length : Int) = b.length := by omega
          refine hB _ ?_
          clear hB B
          simp [ca, cb, cb']
          refine k2 _ ?_
          refine AW.cond true (by simp [Int.natCast_inj, cb]) (fun _ => ?_) (fun h => by cases h)
          refine AW.seq fun _ kr => AW.region [] Θ_ok ?_
          simp
          refine sA.use (by simp) ?_
          try simp
          refine kr _ (AW.ret ?_)
          simp [Try.f6]
          exact Fin.refl ⟨rfl, rfl⟩
      · have ca' : ¬ (pa.length : Int) = a.length := by omega
        refine hB _ ?_
        clear hB B
        simp [ca, ca']
        refine k2 _ ?_
        refine AW.cond true (by simp [Int.natCast_inj, ca]) (fun _ => ?_) (fun h => by cases h)
        refine AW.seq fun _ kr => AW.region [] Θ_ok ?_
        simp
        refine sA.use (by simp) ?_
        try simp
        refine kr _ (AW.ret ?_)
        simp [Try.f6]
        exact Fin.refl ⟨rfl, rfl⟩
    · have hlb' : light17 b fb [] = false := by simpa using hlb
      rw [hlb'] at sLb
      refine hB _ ?_
      clear hB B
      refine vcOps_split 5 fun B hB => ?_
      simp
      refine sLb.use (by simp [bools3]) ?_
      refine hB _ ?_
      clear hB B
      simp
      refine k2 _ ?_
      refine AW.cond true (by simp [Int.natCast_inj]) (fun _ => ?_) (fun h => by cases h)
      refine AW.seq fun _ kr => AW.region [] Θ_ok ?_
      simp
      refine sA.use (by simp) ?_
      try simp
      refine kr _ (AW.ret ?_)
      simp [Try.f6]
      exact Fin.refl ⟨rfl, rfl⟩
  · have hla' : light17 a fa [] = false := by simpa using hla
    rw [hla'] at sLa
    refine AW.seq fun _ k2 => AW.regionAt 3 [] Θ_ok fun B hB => ?_
    simp
    refine sLa.use (by simp [bools3]) ?_
    refine hB _ ?_
    clear hB B
    simp
    refine k2 _ ?_
    refine AW.cond true (by simp [Int.natCast_inj]) (fun _ => ?_) (fun h => by cases h)
    refine AW.seq fun _ kr => AW.region [] Θ_ok ?_
    simp
    refine sA.use (by simp) ?_
    try simp
    refine kr _ (AW.ret ?_)
    simp [Try.f6]
    exact Fin.refl ⟨rfl, rfl⟩
end Go.Par
