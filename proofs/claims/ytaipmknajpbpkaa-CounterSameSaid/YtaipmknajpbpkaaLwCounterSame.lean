import Derived.Test.YtaipmknajpbpkaaGcC
import Derived.Test.YtaipmknajpbpkaaPrG
import Derived.Test.YtaipmknajpbpkaaGrA
import Derived.Test.YtaipmknajpbpkaaCnG
import Derived.Test.YtaipmknajpbpkaaCgA
set_option linter.unusedSimpArgs false
set_option linter.unusedVariables false
set_option maxRecDepth 8000
set_option maxHeartbeats 1000000
namespace Go.Par
open Go.Proofs

theorem updNS {h : Heap} {c : Nat} (X : Ob) (hc : h c = none) : upd (upd h c (some X)) c none = h := by
  rw [upd_upd]
  funext o
  by_cases e : o = c
  · subst e; rw [upd_same, hc]
  · rw [upd_ne _ _ e]
theorem cg_fitsS {g : G} (hf : g.fits) {A E : List (List Bool)} (h : cgErr g A E = 0) : (cgG g A E).fits := by
  have ok := cg_ok h
  have hn := ok.n
  have hn2 := (may_ok ok.m).2.1
  have lo : (cgG g A E).owner.length = g.owner.length * kC A E := length_tab _ _
  have ln : (cgG g A E).next.length = g.owner.length * kC A E := length_tab _ _
  refine ⟨by rw [lo]; exact Nat.le_trans hn (by omega), by rw [ln]; exact Nat.le_trans hn (by omega), fun l hl => ?_⟩
  obtain ⟨i, hi, rfl⟩ := mem_tab.1 hl
  have hv := cg_div hi
  have hv' : i / memsN A.length E.length < g.next.length := by omega
  have := hf.row _ (List.getElem_mem hv')
  simpa [cgRow, hv'] using this
theorem cg_mayPS {g : G} {A E : List (List Bool)} (h : cgErr g A E = 0) : mayP (cgG g A E) (cgP g A E) = true := by
  have ok := cg_pok h
  simp only [mayP, Bool.and_eq_true, decide_eq_true_eq, List.all_eq_true]
  refine ⟨⟨ok.m, ok.len⟩, fun p hp => ?_⟩
  obtain ⟨i, hi, rfl⟩ := List.mem_iff_getElem.1 hp
  have h1 := ok.lo i
  have h2 := ok.hi i
  rw [show fI (cgP g A E) i = (cgP g A E)[i] by simp [fI, hi]] at h1 h2
  omega

theorem law_CounterSame (g : G) (hg : g.wide) (la : List (List Bool)) (hA : (DK.sl (.sl .bool)).fits la) (lb : List (List Bool)) (hB : (DK.sl (.sl .bool)).fits lb) : Pure Try.prog 11 [g.av, .ro false (bools2 la), .ro false (bools2 lb)] (.bool true) := by
  have hf := hg.f
  have sH := l18_Heavy g hf la lb (G.wide.rows2 hA) (G.wide.rows2 hB)
  have sR := gr1_Region g hf la lb
  have sG := counter_Game g hf la lb
  have sK := counter_Mems la lb
  intro h
  refine AC.body Θ_ok Try.func11 rfl rfl (Nat.le_of_ble_eq_true rfl) ?_
  refine AW.seq fun _ k1 => AW.region [] Θ_ok ?_
  simp
  refine k1 _ ?_
  refine AW.seq fun _ k1 => ?_
  by_cases h1 : 0 < heavy18 g la lb
  · refine AW.seq fun _ k2 => AW.regionAt 4 [] Θ_ok fun B hB => ?_
    simp
    refine sH.use (by simp [G.av]) ?_
    refine hB _ ?_
    clear hB B
    simp [h1]
    refine k2 _ ?_
    refine AW.cond true (by simp [Int.natCast_inj]) (fun _ => ?_) (fun h => by cases h)
    refine AW.seq fun _ kr => AW.region [] Θ_ok ?_
    simp
    refine (l20_awake).use (by simp [G.av]) ?_
    try simp
    refine kr _ (AW.ret ?_)
    simp [Try.f11]
    exact Fin.refl ⟨rfl, rfl⟩
  have h1' := Int.not_lt.1 h1
  by_cases h2 : 15 < g.owner.length
  · have h2' : (15 : Int) < g.owner.length := by omega
    refine AW.seq fun _ k2 => AW.regionAt 4 [] Θ_ok fun B hB => ?_
    simp
    refine sH.use (by simp [G.av]) ?_
    refine hB _ ?_
    clear hB B
    simp [h1, h1', h2, h2']
    refine k2 _ ?_
    refine AW.cond true (by simp [Int.natCast_inj]) (fun _ => ?_) (fun h => by cases h)
    refine AW.seq fun _ kr => AW.region [] Θ_ok ?_
    simp
    refine (l20_awake).use (by simp [G.av]) ?_
    try simp
    refine kr _ (AW.ret ?_)
    simp [Try.f11]
    exact Fin.refl ⟨rfl, rfl⟩
  have h2' : ¬ (15 : Int) < g.owner.length := by omega
  have h2'' : (g.owner.length : Int) ≤ 15 := by omega
  refine AW.seq fun _ k2 => AW.regionAt 4 [] Θ_ok fun B hB => ?_
  simp
  refine sH.use (by simp [G.av]) ?_
  refine hB _ ?_
  clear hB B
  simp [h1, h1', h2, h2', h2'']
  refine k2 _ ?_
  refine AW.cond false (by simp [Int.natCast_inj]) (fun h => by cases h) (fun _ => ?_)
  refine AW.skip ?_
  simp
  refine k1 _ ?_
  by_cases hE : cgErr g la lb = 0
  · have ok := cg_ok hE
    have hn := (may_ok ok.m).1
    have k0 := ok.k0
    have hK : kC la lb ≤ 16 := by
      show memsN _ _ ≤ 16
      rw [ok.ke]
      have h3 := ok.a4
      have h4 := ok.e4
      have := Nat.mul_le_mul (show max 1 la.length ≤ 4 by omega) (show max 1 lb.length ≤ 4 by omega)
      omega
    have sS := parity_Solve (cgG g la lb) (cg_fitsS hf hE) (cgP g la lb) (by
      have : (cgP g la lb).length = g.owner.length * kC la lb := length_tab _ _
      rw [this]; exact Nat.le_trans ok.n (by omega))
    rw [solA, if_pos (cg_mayPS hE)] at sS
    rw [cgA, if_pos hE] at sG
    rw [regionA, if_pos ⟨ok.m, ok.a4, ok.e4⟩] at sR
    have lZ : (solveL g la lb).1.length = g.owner.length := (solve_spec ok.m la lb).2.1.1
    have lW : (winL (cgG g la lb) (cgP g la lb)).length = g.owner.length * kC la lb := by
      rw [← cg_len hE]; exact (zfin_spec (cg_pok hE)).2.2.1
    have nK := ok.n
    have key : ∀ x v (hx : x < g.owner.length * kC la lb) (e : v = x / kC la lb) (h1 : v < (solveL g la lb).1.length) (h2 : x < (winL (cgG g la lb) (cgP g la lb)).length), (solveL g la lb).1[v] = ((winL (cgG g la lb) (cgP g la lb))[x] == 1) := by
      intro x v hx e h1 h2
      have q := gr1_counter hE (p := x) hx
      have e1 : (winL (cgG g la lb) (cgP g la lb))[x] = fI (winL (cgG g la lb) (cgP g la lb)) x := by simp [fI, h2]
      have e2 : hasN (solveL g la lb).1 (vC la lb x) = (solveL g la lb).1[v] := by
        rw [show vC la lb x = v from e.symm]; simp [hasN, h1]
      rw [e2] at q
      rw [e1, Bool.eq_iff_iff, ← q]
      simp
    have hdv : ∀ x, x < g.owner.length * kC la lb → x / kC la lb < g.owner.length := fun x hx => cg_div hx
    obtain ⟨K, eK⟩ : ∃ K, K = kC la lb := ⟨_, rfl⟩
    simp only [← eK] at lW hK key hdv
    rw [show memsN la.length lb.length = K from eK.symm] at sK k0 nK
    clear ok eK
    generalize winL (cgG g la lb) (cgP g la lb) = W at *
    generalize toL (cgG g la lb) (cgP g la lb) = To at *
    generalize cgG g la lb = C at *
    generalize cgP g la lb = P at *
    generalize (solveL g la lb).1 = Z at *
    obtain ⟨M, hM⟩ : ∃ M, M = g.owner.length * K := ⟨_, rfl⟩
    simp only [← hM] at lW key nK hdv
    have wM : IntKind.i64.wrap ((g.owner.length : Int) * (K : Int)) = (M : Int) := by
      rw [show ((g.owner.length : Int) * (K : Int)) = ((g.owner.length * K : Nat) : Int) by push_cast; rfl, ← hM]; exact wrap_nat (by omega)
    refine AW.seq fun _ k1 => AW.regionAt 4 [7] Θ_ok fun B hB => ?_
    simp
    refine sG.use (by simp [G.av]) ?_
    refine hB _ ?_
    clear hB B
    simp [newA]
    refine fun o ho => k1 _ ?_
    refine AW.box 7 rfl (upd_same _ _ _) ?_
    simp only [updNS _ ho]
    refine AW.seq fun _ k1 => ?_
    refine AW.seq fun _ k2 => AW.region [] Θ_ok ?_
    simp
    refine k2 _ ?_
    refine AW.cond false (by simp [Int.natCast_inj]) (fun h => by cases h) (fun _ => ?_)
    refine AW.skip ?_
    simp
    refine k1 _ ?_
    refine AW.seq fun _ k1 => AW.regionAt 3 [] Θ_ok fun B hB => ?_
    simp
    refine sK.use (by simp) ?_
    refine hB _ ?_
    clear hB B
    simp
    refine k1 _ ?_
    refine AW.seq fun _ k1 => AW.regionAt 3 [] Θ_ok fun B hB => ?_
    simp
    refine sS.use (by simp [G.av]) ?_
    refine hB _ ?_
    clear hB B
    simp
    refine k1 _ ?_
    refine AW.seq fun _ k1 => AW.regionAt 4 [] Θ_ok fun B hB => ?_
    simp
    refine sR.use (by simp [G.av]) ?_
    refine hB _ ?_
    clear hB B
    simp
    refine k1 _ ?_
    have kk1 : ¬ (K : Int) < 1 := by omega
    have kk2 : (1 : Int) ≤ (K : Int) := by omega
    refine AW.seq fun _ k1 => ?_
    refine AW.seq fun _ k2 => AW.region [] Θ_ok ?_
    simp [lZ, lW, kk1, kk2, wM]
    refine k2 _ ?_
    refine AW.cond false (by simp [Int.natCast_inj, lZ, lW, kk1, kk2, wM]) (fun h => by cases h) (fun _ => ?_)
    refine AW.skip ?_
    simp
    refine k1 _ ?_
    refine AW.seq fun _ k1 => ?_
    refine AW.seq fun _ k2 => AW.region [] Θ_ok ?_
    simp [lW]
    refine k2 _ ?_
    refine AW.block ?_
    refine AW.loopI (X := Nat) (fun x => x ≤ M) (fun x => ⟨100, [(10, .int .i64 K), (11, .ro true (ints W)), (13, .ro false (bools Z)), (82, .int .i64 M), (83, .int .i64 x)], h⟩) (fun x => M - x) 0 (Nat.zero_le _) (GStep.eq (by simp) (subH.refl _)) fun x hx => ?_
    refine AW.seq fun _ k2 => AW.region [] Θ_ok ?_
    simp
    refine k2 _ ?_
    by_cases hlt : x < M
    · have inc := wrap_succ (show x < 9223372036854775807 by omega)
      have hltW : x < W.length := by omega
      have dv := hdv x hlt
      obtain ⟨v, hv⟩ : ∃ v, v = x / K := ⟨_, rfl⟩
      rw [← hv] at dv
      have td : IntKind.i64.wrap ((x : Int) / (K : Int)) = (v : Int) := by
        rw [show ((x : Int) / (K : Int)) = ((x / K : Nat) : Int) by simp, ← hv]
        exact wrap_nat (by omega)
      have hvZ : v < Z.length := by omega
      have kx := key x v hlt hv hvZ hltW
      have k0' : ¬ (K : Int) = 0 := by omega
      have k0'' : ¬ K = 0 := by omega
      refine AW.seq fun _ k2 => AW.cond true (by simp [Int.natCast_inj, hlt]) (fun _ => ?_) (fun h => by cases h)
      refine AW.skip ?_
      simp
      refine k2 _ ?_
      refine AW.seq fun _ k2 => ?_
      refine AW.block ?_
      refine AW.seq fun _ k3 => AW.region [] Θ_ok ?_
      simp
      refine k3 _ ?_
      refine AW.seq fun _ k3 => AW.draw [] 12 [] Θ_ok mixed (by kernel_rfl) (by kernel_rfl) ?_
      simp [vcDraw, vcPre, vcTail, callA, isAlloc, isLoad, effOp, obl, obA, mkOK, valA, hltW, td, hvZ, kx, k0', k0'']
      refine k3 _ ?_
      refine AW.cond false (by simp [Int.natCast_inj]) (fun h => by cases h) (fun _ => ?_)
      refine AW.skip ?_
      simp
      refine k2 _ ?_
      refine AW.region [] Θ_ok ?_
      simp
      exact ⟨x + 1, by omega, by omega, GStep.eq (by simp [inc]) (subH.refl _)⟩
    have hxx : x = M := by omega
    subst hxx
    refine AW.seq fun _ k2 => AW.cond false (by simp [Int.natCast_inj]) (fun h => by cases h) (fun _ => ?_)
    refine AW.exit ?_
    simp
    refine k1 _ ?_
    refine AW.seq fun _ kr => AW.region [] Θ_ok ?_
    simp
    refine (l20_awake).use (by simp [G.av]) ?_
    try simp
    refine kr _ (AW.ret ?_)
    simp [Try.f11]
    exact Fin.refl ⟨rfl, rfl⟩
  · rw [cgA, if_neg hE] at sG
    have hE' : ¬ (0 : Int) = cgErr g la lb := fun e => hE e.symm
    generalize cgErr g la lb = e at *
    refine AW.seq fun _ k1 => AW.regionAt 4 [7] Θ_ok fun B hB => ?_
    simp
    refine sG.use (by simp [G.av]) ?_
    refine hB _ ?_
    clear hB B
    simp [newA]
    refine fun o ho => k1 _ ?_
    refine AW.box 7 rfl (upd_same _ _ _) ?_
    simp only [updNS _ ho]
    refine AW.seq fun _ k1 => ?_
    refine AW.seq fun _ k2 => AW.region [] Θ_ok ?_
    simp [hE]
    refine k2 _ ?_
    refine AW.cond true (by simp [Int.natCast_inj, hE]) (fun _ => ?_) (fun h => by cases h)
    refine AW.seq fun _ kr => AW.regionAt 11 [] Θ_ok fun B hB => ?_
    simp
    refine l20_awake.use (by simp) ?_
    refine hB _ ?_
    clear hB B
    simp
    refine kr _ (AW.ret ?_)
    simp [Try.f11]
    exact Fin.refl ⟨rfl, rfl⟩
end Go.Par
