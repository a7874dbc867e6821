/- parryref9.Winners. -/
import Derived.Test.YtkpdhglbkmbojaaSmD
set_option linter.unusedSimpArgs false
set_option linter.unusedVariables false
set_option maxRecDepth 8000
set_option maxHeartbeats 1000000
namespace Go.Par
open Go.Proofs

def winOf (m : Ms) : Int := if (msN m).t then 0 else 1
def winM (L : List Ms) : List Int := L.map winOf
noncomputable def winRA (g : G) (P : List Int) : AV := if mayP g P then .ro false (ints (winM (measL g P))) else .nils
theorem least_ex {g : G} {P : List Int} (ok : MG g P) : ∃ x, Least g P x := by
  have key : ∀ n L, Lfi g P L → slackM L ≤ n → ∃ x, Least g P x := by
    intro n
    induction n with
    | zero =>
      intro L F hs
      refine ⟨L, F.done fun v hv => ?_⟩
      by_cases q : mcode (shouldM g P L v) ≤ mcode (xM L v)
      · exact q
      · have := slack_lift (x := L) (by rw [F.ok.1]; exact hv) (Nat.not_le.1 q) (mcode_top ok.mo (should_ok ok F.ok hv)).1
        omega
    | succ n ih =>
      intro L F hs
      by_cases q : Pre g P L
      · exact ⟨L, F.done q⟩
      · have : ∃ v, v < g.owner.length ∧ ¬ mcode (shouldM g P L v) ≤ mcode (xM L v) := Classical.byContradiction fun no => q fun v hv => Classical.byContradiction fun no2 => no ⟨v, hv, no2⟩
        obtain ⟨v, hv, q2⟩ := this
        have := slack_lift (x := L) (by rw [F.ok.1]; exact hv) (Nat.not_le.1 q2) (mcode_top ok.mo (should_ok ok F.ok hv)).1
        exact ih _ (F.lift ok hv) (by omega)
  exact key _ _ Lfi.zero (Nat.le_refl _)
theorem meas_least {g : G} {P : List Int} (ok : MG g P) : Least g P (measL g P) := by
  unfold measL
  rw [dif_pos (least_ex ok)]
  exact Classical.choose_spec (least_ex ok)
theorem meas_len {g : G} {P : List Int} (ok : MG g P) : (measL g P).length = g.owner.length := (meas_least ok).ok.1
def wOb (L : List Ms) (x : Nat) (nn : Bool) : Ob := ⟨ints ((L.take x).map winOf), 3, 1, nn⟩
@[simp] theorem wOb_ty (L : List Ms) (x : Nat) (nn : Bool) : (wOb L x nn).ty = 3 := rfl
@[simp] theorem wOb_sz (L : List Ms) (x : Nat) (nn : Bool) : (wOb L x nn).sz = 1 := rfl
theorem wOb_len {L : List Ms} {x : Nat} {nn : Bool} (h : x ≤ L.length) : (wOb L x nn).cells.length = x := by simp [wOb]; omega
theorem wOb_snoc {L : List Ms} {x : Nat} {nn : Bool} (h : x < L.length) {w : Int} (hw : winOf L[x] = w) : (⟨List.take x (wOb L x nn).cells ++ [.int .i64 w], 3, 1, true⟩ : Ob) = wOb L (x + 1) true := by
  have e : List.take x (wOb L x nn).cells = (wOb L x nn).cells := List.take_of_length_le (by rw [wOb_len (by omega)]; exact Nat.le_refl _)
  rw [e]
  simp only [wOb]
  rw [List.take_succ_eq_append_getElem h, ← hw]
  simp only [ints, List.map_append, List.map_cons, List.map_nil]
theorem mss_len (L : List Ms) : (mss L).length = L.length := by simp [mss]
theorem mss_get {L : List Ms} {x : Nat} (h : x < L.length) (h' : x < (mss L).length) : (mss L)[x] = .agg (msN L[x]).l := by simp [mss, avM]
theorem agg_flat (l : List AV) : (AV.agg l).flat = l := rfl
structure WR where
  a : Nat
  x : Nat
  nn : Bool

theorem r9_Winners (g : G) (hf : g.fits) (P : List Int) (hP : P.length ≤ 1152921504606846976) : Pure Try.prog 38 [g.av, .ro false (ints P)] (winRA g P) := by
  have sM := r9_Measures g hf P hP
  intro h
  refine AC.body Θ_ok Try.func38 rfl rfl (Nat.le_of_ble_eq_true rfl) ?_
  refine AW.seq fun _ k1 => AW.region [] Θ_ok ?_
  simp
  refine k1 _ ?_
  refine AW.seq fun _ k1 => AW.region [] Θ_ok ?_
  simp
  refine k1 _ ?_
  by_cases hmp : mayP g P = true
  · have hfin : winRA g P = .ro false (ints (winM (measL g P))) := by unfold winRA; rw [if_pos hmp]
    rw [measRA, if_pos hmp] at sM
    have ok := mayP_mg hmp
    have hn := (may_ok ok.m).1
    obtain ⟨L, hL⟩ : ∃ L, L = measL g P := ⟨_, rfl⟩
    rw [← hL] at sM hfin
    have hlen : L.length ≤ 3000 := by rw [hL, meas_len ok]; exact hn
    refine AW.mine 5 3 1 rfl fun a ha => ?_
    simp only at ha ⊢
    have N1 : HN h [a] := HL.new (l := []) ⟨List.nodup_nil, fun o ho => by cases ho⟩ ha
    rw [show upd h a (some ⟨[], 3, 1, false⟩) = HL h [(a, wOb L 0 false)] from rfl]
    clear ha
    refine AW.seq fun _ k1 => ?_
    refine AW.seq fun _ k2 => AW.regionAt 3 [] Θ_ok fun B hB => ?_
    simp
    refine sM.use (by simp [G.av]) ?_
    refine hB _ ?_
    clear hB B
    simp [mss_len]
    refine k2 _ ?_
    refine AW.block ?_
    refine AW.loopI (X := WR) (fun s => HN h [s.a] ∧ s.x ≤ L.length) (fun s => ⟨26, [(5, .mu s.a s.x), (10, .ro true (mss L)), (11, .int .i64 L.length), (12, .int .i64 s.x)], HL h [(s.a, wOb L s.x s.nn)]⟩) (fun s => L.length - s.x) ⟨a, 0, false⟩ ⟨N1, Nat.zero_le _⟩ (GStep.eq (by simp) (subH.refl _)) ?_
    clear N1 a
    rintro ⟨a, x, nn⟩ ⟨N, hx⟩
    simp only at N hx ⊢
    refine AW.seq fun _ k2 => AW.region [] Θ_ok ?_
    simp
    refine k2 _ ?_
    by_cases hlt : x < L.length
    · have inc := wrap_succ (show x < 9223372036854775807 by omega)
      have lm := mss_len L
      have gm := mss_get hlt
      have tl : List.take 4 (msN L[x]).l = (msN L[x]).l := rfl
      have ew : winOf L[x] = if (msN L[x]).t then 0 else 1 := rfl
      refine AW.seq fun _ k2 => AW.cond true (by simp [Int.natCast_inj, hlt]) (fun _ => ?_) (fun h => by cases h)
      refine AW.skip ?_
      simp
      refine k2 _ ?_
      refine AW.seq fun _ k2 => ?_
      refine AW.block ?_
      refine AW.seq fun _ k3 => AW.region [7] Θ_ok ?_
      simp [newA, hlt, lm, gm, agg_flat, tl, M4.llen, M4.one, M4.over0]
      refine fun c hc => k3 _ ?_
      rw [M4.mkL]
      obtain ⟨M, hM⟩ : ∃ M, M = msN L[x] := ⟨_, rfl⟩
      rw [← hM] at ew ⊢
      have N2 : HN h [c, a] := HL.new (l := [(a, wOb L x nn)]) N hc
      have hne : c ≠ a := by have := N2.nd; simp at this; exact this
      rw [show upd (HL h [(a, wOb L x nn)]) c (some (obM 69 M)) = HL h [(c, obM 69 M), (a, wOb L x nn)] from rfl]
      have gc := HL.at (h0 := h) (l := [(c, obM 69 M), (a, wOb L x nn)]) (k := 0) N2.nd rfl
      have ga := HL.at (h0 := h) (l := [(c, obM 69 M), (a, wOb L x nn)]) (k := 1) N2.nd rfl
      have wl := wOb_len (nn := nn) hx
      clear hc gm lm
      refine AW.seq fun _ k3 => AW.region [] Θ_ok ?_
      simp [gc, M4.drop3]
      refine k3 _ ?_
      cases hb : M.t with
      | true =>
        rw [hb, if_pos rfl] at ew
        refine AW.cond true (by simp [Int.natCast_inj, hb]) (fun _ => ?_) (fun h => by cases h)
        refine AW.region [] Θ_ok ?_
        simp [ga, appendA, wl]
        refine ⟨rfl, ⟨by omega, by omega⟩, fun d hd => k2 _ ?_⟩
        have e := wOb_snoc (nn := nn) hlt ew
        obtain ⟨he, N3⟩ := HL.ren (A' := wOb L (x + 1) true) (k := 1) N2 rfl hd
        rw [e, he]
        replace N3 : HN h [c, d] := N3
        have nd := N3.nd
        simp only [List.nodup_cons, List.mem_cons, not_or, List.not_mem_nil, not_false_iff, and_true] at nd
        have hcn : HL h [(d, wOb L (x + 1) true)] c = none := by
          rw [HL.out (by simp [nms, nd])]; exact N3.free c (by simp)
        refine AW.region [] Θ_ok ?_
        simp
        exact ⟨⟨d, x + 1, true⟩, ⟨⟨by simp, fun o ho => N3.free o (by simp only [List.mem_cons] at ho ⊢; exact .inr ho)⟩, by simp only; omega⟩, by simp only; omega, GStep.eq (by simp [inc]) (HL.forget (X := obM 69 M) hcn)⟩
      | false =>
        rw [hb, if_neg (by decide)] at ew
        refine AW.cond false (by simp [Int.natCast_inj, hb]) (fun h => by cases h) (fun _ => ?_)
        refine AW.region [] Θ_ok ?_
        simp [ga, appendA, wl]
        refine ⟨rfl, ⟨by omega, by omega⟩, fun d hd => k2 _ ?_⟩
        have e := wOb_snoc (nn := nn) hlt ew
        obtain ⟨he, N3⟩ := HL.ren (A' := wOb L (x + 1) true) (k := 1) N2 rfl hd
        rw [e, he]
        replace N3 : HN h [c, d] := N3
        have nd := N3.nd
        simp only [List.nodup_cons, List.mem_cons, not_or, List.not_mem_nil, not_false_iff, and_true] at nd
        have hcn : HL h [(d, wOb L (x + 1) true)] c = none := by
          rw [HL.out (by simp [nms, nd])]; exact N3.free c (by simp)
        refine AW.region [] Θ_ok ?_
        simp
        exact ⟨⟨d, x + 1, true⟩, ⟨⟨by simp, fun o ho => N3.free o (by simp only [List.mem_cons] at ho ⊢; exact .inr ho)⟩, by simp only; omega⟩, by simp only; omega, GStep.eq (by simp [inc]) (HL.forget (X := obM 69 M) hcn)⟩
    have hxx : x = L.length := by omega
    subst hxx
    refine AW.seq fun _ k2 => AW.cond false (by simp [Int.natCast_inj]) (fun h => by cases h) (fun _ => ?_)
    refine AW.exit ?_
    simp
    refine k1 _ ?_
    refine AW.seq fun _ kr => AW.region [] Θ_ok ?_
    simp
    refine kr _ (AW.ret ?_)
    simp [Try.f38]
    refine Fin.freeze (k := false) (x := wOb L L.length nn) (HL.at (k := 0) N.nd rfl) (fun e => by cases e) rfl (wOb_len (Nat.le_refl _)) (fun u hu => by simp only [wOb, ints, List.mem_map] at hu; obtain ⟨_, _, rfl⟩ := hu; rfl) h (subH_of_eq (HL.del (k := 0) N rfl)) ⟨?_, rfl⟩
    rw [hfin]
    simp [wOb, winM]
  · have hfin : winRA g P = .nils := if_neg hmp
    rw [measRA, if_neg hmp] at sM
    refine AW.seq fun _ k1 => ?_
    refine AW.seq fun _ k2 => AW.regionAt 3 [] Θ_ok fun B hB => ?_
    simp
    refine sM.use (by simp [G.av]) ?_
    refine hB _ ?_
    clear hB B
    simp
    refine k2 _ ?_
    refine AW.block ?_
    refine AW.loopI (X := Nat) (fun s => s = 0) (fun s => ⟨26, [(5, .nils), (11, .int .i64 0), (12, .int .i64 0)], h⟩) (fun s => 0) 0 rfl (GStep.eq (by simp) (subH.refl _)) fun s hs => ?_
    refine AW.seq fun _ k2 => AW.region [] Θ_ok ?_
    simp
    refine k2 _ ?_
    refine AW.seq fun _ k2 => AW.cond false (by simp [Int.natCast_inj]) (fun h => by cases h) (fun _ => ?_)
    refine AW.exit ?_
    simp
    refine k1 _ ?_
    refine AW.seq fun _ kr => AW.region [] Θ_ok ?_
    simp
    refine kr _ (AW.ret ?_)
    simp [Try.f38]
    exact Fin.refl ⟨hfin.symm, rfl⟩
end Go.Par
