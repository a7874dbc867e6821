/- parryref9.Rough. -/
import Derived.Test.YtkpdhglbkmbojaaGcC
import Derived.Test.YtkpdhglbkmbojaaCgA
import Derived.Test.YtkpdhglbkmbojaaSmE
import Derived.Test.YtkpdhglbkmbojaaLwParityForms
set_option linter.unusedSimpArgs false
set_option linter.unusedVariables false
set_option maxRecDepth 8000
set_option maxHeartbeats 1000000
namespace Go.Par
open Go.Proofs

theorem cg_fits {g : G} (hf : g.fits) {A E : List (List Bool)} (h : cgErr g A E = 0) : (cgG g A E).fits := by
  have ok := cg_ok h
  have hn := ok.n
  have hn2 := (may_ok ok.m).2.1
  have lo : (cgG g A E).owner.length = g.owner.length * kC A E := length_tab _ _
  have ln : (cgG g A E).next.length = g.owner.length * kC A E := length_tab _ _
  refine ⟨by rw [lo]; exact Nat.le_trans hn (by omega), by rw [ln]; exact Nat.le_trans hn (by omega), fun l hl => ?_⟩
  obtain ⟨i, hi, rfl⟩ := mem_tab.1 hl
  have hv := cg_div hi
  have hv' : i / memsN A.length E.length < g.next.length := by omega
  have := hf.row _ (List.getElem_mem hv')
  simpa [cgRow, hv'] using this
theorem cg_mayP {g : G} {A E : List (List Bool)} (h : cgErr g A E = 0) : mayP (cgG g A E) (cgP g A E) = true := by
  have ok := cg_pok h
  simp only [mayP, Bool.and_eq_true, decide_eq_true_eq, List.all_eq_true]
  refine ⟨⟨ok.m, ok.len⟩, fun p hp => ?_⟩
  obtain ⟨i, hi, rfl⟩ := List.mem_iff_getElem.1 hp
  have h1 := ok.lo i
  have h2 := ok.hi i
  rw [show fI (cgP g A E) i = (cgP g A E)[i] by simp [fI, hi]] at h1 h2
  omega
theorem cgP_len {g : G} {A E : List (List Bool)} : (cgP g A E).length = g.owner.length * kC A E := length_tab _ _

def roW (g : G) (W : List Int) (K : Nat) : List Int := tab g.owner.length fun v => fI W (v * K)
noncomputable def roughA (g : G) (A E : List (List Bool)) : AV := if cgErr g A E = 0 then .tup [.ro true (ints (roW g (winL (cgG g A E) (cgP g A E)) (kC A E))), .int .i64 0] else .tup [.nils, .int .i64 (cgErr g A E)]
def roX (g : G) (W : List Int) (K x : Nat) : List Int := tab g.owner.length fun v => if v < x then fI W (v * K) else 0
theorem roX_len (g : G) (W : List Int) (K x : Nat) : (roX g W K x).length = g.owner.length := length_tab _ _
theorem roX_set {g : G} {W : List Int} {K x : Nat} (hx : x < g.owner.length) {y : Int} (hy : fI W (x * K) = y) : (roX g W K x).set x y = roX g W K (x + 1) := by
  subst hy
  refine List.ext_getElem (by simp [roX]) fun i h1 h2 => ?_
  rw [List.getElem_set]
  simp only [roX, getElem_tab]
  by_cases e : x = i
  · subst e; rw [if_pos rfl, if_pos (Nat.lt_succ_self _)]
  · rw [if_neg e]
    by_cases q : i < x
    · rw [if_pos q, if_pos (by omega)]
    · rw [if_neg q, if_neg (by omega)]
theorem roX_full (g : G) (W : List Int) (K : Nat) : roX g W K g.owner.length = roW g W K := tab_congr fun v hv => by rw [if_pos hv]
theorem roX_zero (g : G) (W : List Int) (K : Nat) : roX g W K 0 = tab g.owner.length fun _ => 0 := tab_congr fun v hv => by rw [if_neg (Nat.not_lt_zero _)]

theorem updNR {h : Heap} {c : Nat} (X : Ob) (hc : h c = none) : upd (upd h c (some X)) c none = h := by
  rw [upd_upd]
  funext o
  by_cases e : o = c
  · subst e; rw [upd_same, hc]
  · rw [upd_ne _ _ e]

theorem r9_Rough (g : G) (hf : g.fits) (A E : List (List Bool)) : Pure Try.prog 24 [g.av, .ro false (bools2 A), .ro false (bools2 E)] (roughA g A E) := by
  have sG := r9_Counter g hf A E
  intro h
  refine AC.body Θ_ok Try.func24 rfl rfl (Nat.le_of_ble_eq_true rfl) ?_
  refine AW.seq fun _ k1 => AW.region [] Θ_ok ?_
  simp
  refine k1 _ ?_
  by_cases hE : cgErr g A E = 0
  · have hfin : roughA g A E = .tup [.ro true (ints (roW g (winL (cgG g A E) (cgP g A E)) (kC A E))), .int .i64 0] := if_pos hE
    have ok := cg_ok hE
    have hn := ok.n
    have hn3 := (may_ok ok.m).1
    have hmp := cg_mayP hE
    have fC := cg_fits hf hE
    have lP : (cgP g A E).length = g.owner.length * kC A E := cgP_len
    have sW := r9_Winners (cgG g A E) fC (cgP g A E) (by rw [lP]; exact Nat.le_trans hn (by omega))
    rw [winRA, if_pos hmp, ← win_eq hmp] at sW
    have lW : (winL (cgG g A E) (cgP g A E)).length = g.owner.length * kC A E := by
      rw [← cg_len hE]; exact (zfin_spec (cg_pok hE)).2.2.1
    have sK := r9_Mems A E
    rw [cgA, if_pos hE] at sG
    have k0 := ok.k0
    have hK : kC A E ≤ 16 := memsN_le _ _
    obtain ⟨K, eK⟩ : ∃ K, K = kC A E := ⟨_, rfl⟩
    rw [← eK] at hfin lP lW hK
    rw [show memsN A.length E.length = K from eK.symm] at sK hn k0
    generalize winL (cgG g A E) (cgP g A E) = W at *
    generalize cgG g A E = C at *
    generalize cgP g A E = P at *
    refine AW.seq fun _ k1 => AW.regionAt 4 [8] Θ_ok fun B hB => ?_
    simp
    refine sG.use (by simp [G.av]) ?_
    refine hB _ ?_
    clear hB B
    simp [newA, G.av]
    refine fun o ho => k1 _ ?_
    refine AW.box 8 rfl (upd_same _ _ _) ?_
    simp only [updNR _ ho]
    clear ho
    refine AW.seq fun _ k1 => ?_
    refine AW.seq fun _ k2 => AW.region [] Θ_ok ?_
    simp
    refine k2 _ ?_
    refine AW.cond false (by simp [Int.natCast_inj]) (fun h => by cases h) (fun _ => ?_)
    refine AW.skip ?_
    simp
    refine k1 _ ?_
    refine AW.seq fun _ k1 => AW.regionAt 3 [] Θ_ok fun B hB => ?_
    simp
    refine sW.use (by simp [G.av]) ?_
    refine hB _ ?_
    clear hB B
    simp
    refine k1 _ ?_
    refine AW.seq fun _ k1 => AW.regionAt 3 [] Θ_ok fun B hB => ?_
    simp
    refine sK.use (by simp) ?_
    refine hB _ ?_
    clear hB B
    simp
    refine k1 _ ?_
    have b1 : 8 * (g.owner.length : Int) ≤ 140737488355328 := by omega
    have b2 : (g.owner.length : Int) ≤ 140737488355328 := by omega
    have e1 : (List.replicate g.owner.length (AV.int IntKind.i64 0)).flatMap AV.flat = (roX g W K 0).map (AV.int .i64) := by
      rw [replicate_tab, flat_tab (fun _ _ => rfl), roX_zero]; simp
    refine AW.seq fun _ k1 => AW.region [35] Θ_ok ?_
    simp [newA]
    rw [e1]
    simp only [obI_mk]
    refine ⟨⟨b1, b2⟩, fun o ho => k1 _ ?_⟩
    clear e1 b1 b2
    have eH : ∀ X : Ob, upd h o (some X) o = some X := fun X => upd_same _ _ _
    have eU : ∀ X Y : Ob, upd (upd h o (some X)) o (some Y) = upd h o (some Y) := fun X Y => upd_upd _ _ _ _
    refine AW.seq fun _ k1 => ?_
    refine AW.seq fun _ k2 => AW.region [] Θ_ok ?_
    simp
    refine k2 _ ?_
    refine AW.block ?_
    refine AW.loopI (X := Nat) (fun x => x ≤ g.owner.length) (fun x => ⟨52, [(11, .ro false (ints W)), (12, .int .i64 K), (13, .mu o g.owner.length), (37, .int .i64 g.owner.length), (38, .int .i64 x)], upd h o (some (obI (roX g W K x)))⟩) (fun x => g.owner.length - x) 0 (Nat.zero_le _) (GStep.eq (by simp) (subH.refl _)) fun x hx => ?_
    refine AW.seq fun _ k2 => AW.region [] Θ_ok ?_
    simp
    refine k2 _ ?_
    by_cases hlt : x < g.owner.length
    · have inc := wrap_succ (show x < 9223372036854775807 by omega)
      obtain ⟨y, hy⟩ : ∃ y, y = x * K := ⟨_, rfl⟩
      have hyW : y < W.length := by
        rw [lW, hy]
        exact Nat.lt_of_lt_of_le (Nat.mul_lt_mul_of_pos_right hlt k0) (Nat.le_refl _)
      have wy : IntKind.i64.wrap ((x : Int) * (K : Int)) = (y : Int) := by
        rw [show ((x : Int) * (K : Int)) = ((x * K : Nat) : Int) by push_cast; rfl, ← hy]; exact wrap_nat (by omega)
      have gy : fI W (x * K) = W[y] := by rw [← hy]; simp [fI, hyW]
      have rs := roX_set hlt gy
      have lr := roX_len g W K x
      have mr := map_set_int (roX g W K x) x W[y]
      rw [rs] at mr
      refine AW.seq fun _ k2 => AW.cond true (by simp [Int.natCast_inj, hlt]) (fun _ => ?_) (fun h => by cases h)
      refine AW.skip ?_
      simp
      refine k2 _ ?_
      refine AW.seq fun _ k2 => ?_
      refine AW.block ?_
      refine AW.seq fun _ k3 => AW.region [] Θ_ok ?_
      simp
      refine k3 _ ?_
      refine AW.region [] Θ_ok ?_
      simp [wy, hyW, eH, lr, hlt, mr, obI_mk, eU]
      refine ⟨by omega, k2 _ ?_⟩
      refine AW.region [] Θ_ok ?_
      simp
      exact ⟨x + 1, by omega, by omega, GStep.eq (by simp [inc]) (subH.refl _)⟩
    have hxx : x = g.owner.length := by omega
    subst hxx
    refine AW.seq fun _ k2 => AW.cond false (by simp [Int.natCast_inj]) (fun h => by cases h) (fun _ => ?_)
    refine AW.exit ?_
    simp
    refine k1 _ ?_
    refine AW.seq fun _ kr => AW.region [] Θ_ok ?_
    simp
    refine kr _ ?_
    refine AW.freeze 6 true rfl (eH _) (fun _ => rfl) rfl (by simp [roX_len]) (fun u hu => by obtain ⟨z, _, rfl⟩ := List.mem_map.1 hu; rfl) ?_
    rw [obI_cells, roX_full, updNR _ ho]
    refine AW.ret ?_
    simp [Try.f24]
    exact Fin.refl ⟨hfin.symm, rfl⟩
  · have hfin : roughA g A E = .tup [.nils, .int .i64 (cgErr g A E)] := if_neg hE
    rw [cgA, if_neg hE] at sG
    refine AW.seq fun _ k1 => AW.regionAt 4 [8] Θ_ok fun B hB => ?_
    simp
    refine sG.use (by simp [G.av]) ?_
    refine hB _ ?_
    clear hB B
    simp [newA]
    refine fun o ho => k1 _ ?_
    refine AW.box 8 rfl (upd_same _ _ _) ?_
    simp only [updNR _ ho]
    have hE' : ¬ (0 : Int) = cgErr g A E := fun e => hE e.symm
    generalize cgErr g A E = e at *
    refine AW.seq fun _ k1 => ?_
    refine AW.seq fun _ k2 => AW.region [] Θ_ok ?_
    simp [hE]
    refine k2 _ ?_
    refine AW.cond true (by simp [Int.natCast_inj, hE]) (fun _ => ?_) (fun h => by cases h)
    refine AW.seq fun _ kr => AW.region [] Θ_ok ?_
    simp
    refine kr _ (AW.ret ?_)
    simp [Try.f24]
    exact Fin.refl ⟨hfin.symm, rfl⟩
end Go.Par
