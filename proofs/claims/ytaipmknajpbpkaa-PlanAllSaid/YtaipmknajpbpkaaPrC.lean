import Derived.Test.YtaipmknajpbpkaaPrB
set_option linter.unusedSimpArgs false
set_option linter.unusedVariables false
set_option linter.unusedSectionVars false
set_option maxRecDepth 8000
set_option maxHeartbeats 1000000
namespace Go.Par
open Go.Proofs

def fo (a : List Bool) (st who : Int) (b r : AV) : Ob := ⟨[.ro true (bools a), .int .i64 st, .int .i64 who, b, r], 105, 5, true⟩
@[simp] theorem fo_cells (a : List Bool) (st who : Int) (b r : AV) : (fo a st who b r).cells = [.ro true (bools a), .int .i64 st, .int .i64 who, b, r] := rfl
@[simp] theorem fo_ty (a : List Bool) (st who : Int) (b r : AV) : (fo a st who b r).ty = 105 := rfl
@[simp] theorem fo_sz (a : List Bool) (st who : Int) (b r : AV) : (fo a st who b r).sz = 5 := rfl
@[simp] theorem fo_nn (a : List Bool) (st who : Int) (b r : AV) : (fo a st who b r).nn = true := rfl
theorem fo_mk (a : List Bool) (st who : Int) (b r : AV) : (⟨[.ro true (bools a), .int .i64 st, .int .i64 who, b, r], 105, 5, true⟩ : Ob) = fo a st who b r := rfl
theorem fo_zero (a : List Bool) (w : Int) (b r : List Bool) : obF ⟨a, 0, w, b, r⟩ = fo a 0 w .nils .nils := rfl
theorem fo_one (a : List Bool) (st : Nat) (w : Int) (b r : List Bool) : obF ⟨a, st + 1, w, b, r⟩ = fo a ((st + 1 : Nat) : Int) w (.ro true (bools b)) (.ro true (bools r)) := by simp [obF, fo]

def topX (P : List Int) (part : List Bool) (x : Nat) : Int := (List.range x).foldl (fun t v => if hasN part v then max t (fI P v) else t) 0
theorem topX_zero (P : List Int) (part : List Bool) : topX P part 0 = 0 := rfl
theorem topX_full (P : List Int) (part : List Bool) : topX P part part.length = topP P part := rfl
theorem topX_succ (P : List Int) (part : List Bool) (x : Nat) : topX P part (x + 1) = if hasN part x then max (topX P part x) (fI P x) else topX P part x := by
  rw [topX, List.range_succ, List.foldl_append]; rfl
theorem topX_ge {g : G} {P : List Int} (ok : POk g P) (part : List Bool) (x : Nat) : 0 ≤ topX P part x ∧ topX P part x ≤ 5 := by
  induction x with
  | zero => simp [topX_zero]
  | succ x ih =>
    rw [topX_succ]
    have := ok.hi x
    split <;> omega
def bestP (P : List Int) (part : List Bool) (top : Int) (v : Nat) : Bool := hasN part v && decide (fI P v = top)

section
variable {h0 : Heap} {k : ZN} {F : List (Nat × Ob)} (g : G) (hf : g.fits) {P : List Int} (ok : POk g P) (W T : List Int)
include hf ok

theorem pz_begins {f : Nat} {in_ : List Bool} (hin : in_.length = g.owner.length) (N : ZNok h0 k ((f, obF ⟨in_, 0, 0, [], []⟩) :: F)) (hF : F.length ≤ 100000) (hT : T.length = g.owner.length)
    {top who : Int} {best rest : List Bool} (etop : top = topP P in_) (ewho : who = whoP top) (ebest : best = bestL P in_ top) (erest : rest = lessL g in_ (goesR g who in_ best)) :
    AC Try.prog 91 [.ptr k.s 0, .ptr f 0] (ZH h0 k g P W T ((f, obF ⟨in_, 0, 0, [], []⟩) :: F)) fun _ h' => ∃ f2 q', ZNok h0 ⟨k.s, k.w, k.t, q', true⟩ ((f2, obF ⟨rest, 0, 0, [], []⟩) :: (f, obF ⟨in_, 1, who, best, rest⟩) :: F) ∧
      h' = ZH h0 ⟨k.s, k.w, k.t, q', true⟩ g P W (goesX g who in_ best T) ((f2, obF ⟨rest, 0, 0, [], []⟩) :: (f, obF ⟨in_, 1, who, best, rest⟩) :: F) := by
  have hn := (may_ok ok.m).1
  have NX : ∀ X, ZNok h0 k ((f, X) :: F) := fun _ => N
  have hlP := ok.len
  have htop := topX_ge ok in_ in_.length
  rw [topX_full, ← etop] at htop
  have hw01 : who = 0 ∨ who = 1 := by rw [ewho, whoP]; split <;> simp
  have fs := fun X W T => ZH.s (NX X) g P W T
  have ff := fun X W T => ZH.fr (NX X) g P W T
  have fp := fun X X' W T => ZH.putF (NX X) g P W T X'
  rw [fo_zero]
  refine AC.body Θ_ok Try.func91 rfl rfl (Nat.le_of_ble_eq_true rfl) ?_
  refine AW.seq fun _ k1 => AW.region [] Θ_ok ?_
  simp
  refine k1 _ ?_
  refine AW.seq fun _ k1 => ?_
  have h1 := ff (fo in_ 0 0 .nils .nils) W T
  have h2 := fs (fo in_ 0 0 .nils .nils) W T
  have p1 := fun X' => fp (fo in_ 0 0 .nils .nils) X' W T
  generalize ZH h0 k g P W T ((f, fo in_ 0 0 .nils .nils) :: F) = H at *
  refine AW.seq fun _ k2 => AW.region [] Θ_ok ?_
  simp [h1]
  refine k2 _ ?_
  refine AW.block ?_
  refine AW.loopI (X := Nat) (fun x => x ≤ in_.length) (fun x => ⟨109, [(0, .ptr k.s 0), (1, .ptr f 0), (4, .int .i64 (topX P in_ x)), (12, .ro true (bools in_)), (13, .int .i64 in_.length), (14, .int .i64 x)], H⟩) (fun x => in_.length - x) 0 (Nat.zero_le _) (GStep.eq (by simp [topX_zero]) (subH.refl _)) fun x hx => ?_
  refine AW.seq fun _ k2 => AW.region [] Θ_ok ?_
  simp
  refine k2 _ ?_
  by_cases hlt : x < in_.length
  · have inc := wrap_succ (show x < 9223372036854775807 by omega)
    have hltP : x < P.length := by omega
    have hs := topX_succ P in_ x
    have hh : hasN in_ x = in_[x] := by simp [hasN, hlt]
    have hv : fI P x = P[x] := by simp [fI, hltP]
    rw [hh, hv] at hs
    generalize hWs : topX P in_ (x + 1) = t2 at *
    generalize topX P in_ x = t1 at *
    refine AW.seq fun _ k2 => AW.cond true (by simp [Int.natCast_inj, hlt]) (fun _ => ?_) (fun h => by cases h)
    refine AW.skip ?_
    simp
    refine k2 _ ?_
    refine AW.seq fun _ k2 => ?_
    refine AW.block ?_
    refine AW.seq fun _ k3 => AW.region [] Θ_ok ?_
    simp [hlt]
    refine k3 _ ?_
    refine AW.seq fun _ k3 => AW.region [] Θ_ok ?_
    simp
    refine k3 _ ?_
    cases hb : in_[x]
    · rw [hb] at hs
      simp at hs
      refine AW.cond false (by simp [Int.natCast_inj, hb]) (fun h => by cases h) (fun _ => ?_)
      refine AW.skip ?_
      simp
      refine k2 _ ?_
      refine AW.region [] Θ_ok ?_
      simp
      exact ⟨x + 1, by omega, by omega, GStep.eq (by simp [inc, hWs, hs]) (subH.refl _)⟩
    · rw [hb, if_pos rfl] at hs
      have hm : (if t1 < P[x] then P[x] else t1) = t2 := by rw [hs]; split <;> omega
      refine AW.cond true (by simp [Int.natCast_inj, hb]) (fun _ => ?_) (fun h => by cases h)
      refine AW.region [] Θ_ok ?_
      simp [h2, hltP, hm]
      refine k2 _ ?_
      refine AW.region [] Θ_ok ?_
      simp
      exact ⟨x + 1, by omega, by omega, GStep.eq (by simp [inc, hWs]) (subH.refl _)⟩
  obtain rfl : x = in_.length := by omega
  rw [topX_full, ← etop]
  refine AW.seq fun _ k2 => AW.cond false (by simp [Int.natCast_inj]) (fun h => by cases h) (fun _ => ?_)
  refine AW.exit ?_
  simp
  refine k1 _ ?_
  refine AW.seq fun _ k1 => AW.region [] Θ_ok ?_
  simp [h1, p1, fo_mk]
  refine k1 _ ?_
  have hrem : (top.tmod 2 == 1) = decide (top % 2 = 1) := by rw [Int.tmod_eq_emod_of_nonneg htop.1]; rfl
  refine AW.seqTo ⟨109, [(0, .ptr k.s 0), (1, .ptr f 0), (4, .int .i64 top)], ZH h0 k g P W T ((f, fo in_ 0 who .nils .nils) :: F)⟩ (fun K k1 => ?_) ?_
  · clear h1 h2 p1
    refine AW.seq fun _ k2 => AW.region [] Θ_ok ?_
    simp [hrem]
    refine k2 _ ?_
    have h1 := ff (fo in_ 0 1 .nils .nils) W T
    have p1 := fun X' => fp (fo in_ 0 1 .nils .nils) X' W T
    by_cases c : top % 2 = 1
    · have e : who = 0 := by rw [ewho, whoP, if_pos c]
      generalize ZH h0 k g P W T ((f, fo in_ 0 1 .nils .nils) :: F) = H1 at *
      refine AW.cond true (by simp [Int.natCast_inj, c]) (fun _ => ?_) (fun h => by cases h)
      refine AW.region [] Θ_ok ?_
      simp [h1, p1, fo_mk]
      exact k1 _ (GStep.eq (by simp) (subH_of_eq (by rw [e])))
    · have e : who = 1 := by rw [ewho, whoP, if_neg c]
      refine AW.cond false (by simp [Int.natCast_inj, c]) (fun h => by cases h) (fun _ => ?_)
      refine AW.skip ?_
      simp
      exact k1 _ (GStep.eq (by simp) (subH_of_eq (by rw [e])))
  clear h1 h2 p1
  have h1 := ff (fo in_ 0 who .nils .nils) W T
  have p1 := fun X' => fp (fo in_ 0 who .nils .nils) X' W T
  refine AW.seq fun _ k1 => AW.region [45] Θ_ok ?_
  generalize hH : ZH h0 k g P W T ((f, fo in_ 0 who .nils .nils) :: F) = H at *
  simp [h1]
  refine ⟨by omega, fun b hb => ?_⟩
  have e1 : f ≠ b := fun e => by rw [e, hb] at h1; cases h1
  simp [upd_ne _ _ e1, h1, fo_mk]
  refine k1 _ ?_
  rw [upd_comm _ _ _ (Ne.symm e1), p1, replicate_tab, flat_tab (fun _ _ => rfl), stB_zero _ (bestP P in_ top)]
  have hb2 : ZH h0 k g P W T ((f, fo in_ 0 who (.mu b in_.length) .nils) :: F) b = none := by rw [← p1, upd_ne _ _ (Ne.symm e1)]; exact hb
  clear h1 p1 hb hH
  have h1 := ff (fo in_ 0 who (.mu b in_.length) .nils) W T
  have h2 := fs (fo in_ 0 who (.mu b in_.length) .nils) W T
  have p1 := fun X' => fp (fo in_ 0 who (.mu b in_.length) .nils) X' W T
  generalize ZH h0 k g P W T ((f, fo in_ 0 who (.mu b in_.length) .nils) :: F) = H at *
  have e2 : k.s ≠ b := fun e => by rw [e, hb2] at h2; cases h2
  have h1' : ∀ X, upd H b X f = some (fo in_ 0 who (.mu b in_.length) .nils) := fun X => by rw [upd_ne _ _ e1]; exact h1
  have h2' : ∀ X, upd H b X k.s = some (obZ g P k (F.length + 1)) := fun X => by rw [upd_ne _ _ e2]; exact h2
  refine AW.seq fun _ k1 => ?_
  refine AW.seq fun _ k2 => AW.region [] Θ_ok ?_
  simp [h1']
  refine k2 _ ?_
  refine AW.block ?_
  refine AW.loopI (X := Nat) (fun x => x ≤ in_.length) (fun x => ⟨109, [(0, .ptr k.s 0), (1, .ptr f 0), (4, .int .i64 top), (51, .ro true (bools in_)), (52, .int .i64 in_.length), (53, .int .i64 x)], upd H b (some ⟨stB in_.length x (bestP P in_ top), 4, 1, true⟩)⟩) (fun x => in_.length - x) 0 (Nat.zero_le _) (GStep.eq (by simp) (subH.refl _)) fun x hx => ?_
  refine AW.seq fun _ k2 => AW.region [] Θ_ok ?_
  simp
  refine k2 _ ?_
  by_cases hlt : x < in_.length
  · have inc := wrap_succ (show x < 9223372036854775807 by omega)
    have hltP : x < P.length := by omega
    have hset := stB_set in_.length x (bestP P in_ top)
    have hbv : bestP P in_ top x = (in_[x] && decide (P[x] = top)) := by simp [bestP, hasN, fI, hlt, hltP]
    rw [hbv] at hset
    have lX := stB_len in_.length x (bestP P in_ top)
    generalize hX2 : stB in_.length (x + 1) (bestP P in_ top) = X2 at *
    generalize stB in_.length x (bestP P in_ top) = X1 at *
    refine AW.seq fun _ k2 => AW.cond true (by simp [Int.natCast_inj, hlt]) (fun _ => ?_) (fun h => by cases h)
    refine AW.skip ?_
    simp
    refine k2 _ ?_
    refine AW.seq fun _ k2 => ?_
    refine AW.block ?_
    refine AW.seq fun _ k3 => AW.region [] Θ_ok ?_
    simp [hlt]
    refine k3 _ ?_
    cases hb : in_[x]
    · rw [hb, Bool.false_and] at hset
      refine AW.draw [] 18 [] Θ_ok mixed (by kernel_rfl) (by kernel_rfl) ?_
      simp [vcDraw, vcPre, vcTail, callA, isAlloc, isLoad, effOp, obl, obA, mkOK, valA, h1', h2', hlt, hltP, lX, hb, hset]
      refine ⟨by omega, k2 _ ?_⟩
      refine AW.region [] Θ_ok ?_
      simp
      exact ⟨x + 1, by omega, by omega, GStep.eq (by simp [inc]) (subH_of_eq (by simp only [upd_upd, hX2]))⟩
    · rw [hb, Bool.true_and] at hset
      have hq : (P[x] == top) = decide (P[x] = top) := rfl
      refine AW.draw [] 18 [] Θ_ok mixed (by kernel_rfl) (by kernel_rfl) ?_
      simp [vcDraw, vcPre, vcTail, callA, isAlloc, isLoad, effOp, obl, obA, mkOK, valA, h1', h2', hlt, hltP, lX, hb, hq, hset]
      refine ⟨by omega, k2 _ ?_⟩
      refine AW.region [] Θ_ok ?_
      simp
      exact ⟨x + 1, by omega, by omega, GStep.eq (by simp [inc]) (subH_of_eq (by simp only [upd_upd, hX2]))⟩
  obtain rfl : x = in_.length := by omega
  refine AW.seq fun _ k2 => AW.cond false (by simp [Int.natCast_inj]) (fun h => by cases h) (fun _ => ?_)
  refine AW.exit ?_
  simp
  refine k1 _ ?_
  have gv : GV (.mu b in_.length) (upd H b (some ⟨stB in_.length in_.length (bestP P in_ top), 4, 1, true⟩)) (.ro true (bools best)) (upd (upd H b (some ⟨stB in_.length in_.length (bestP P in_ top), 4, 1, true⟩)) b none) := by
    refine GV.freeze (upd_same _ _ _) (fun _ => rfl) (by simp [ebest, bestL]) (fun y hy => ?_) ?_
    · obtain ⟨z, _, rfl⟩ := List.mem_map.1 hy; rfl
    · rw [stB_full, flat_bools, ebest]
      simp only [Nat.mul_one]
      rw [List.take_of_length_le (by simp)]
      rfl
  refine AW.ghost (GStep.cell (S := ⟨109, _, _⟩) (p := f) (j := 3) (h1' _) rfl gv (by rw [upd_upd, upd_ne _ _ e1]; exact h1) (by simp)) ?_
  have eH : upd (upd (upd H b (some ⟨stB in_.length in_.length (bestP P in_ top), 4, 1, true⟩)) b none) f (some ⟨(fo in_ 0 who (.mu b in_.length) .nils).cells.set 3 (.ro true (bools best)), (fo in_ 0 who (.mu b in_.length) .nils).ty, (fo in_ 0 who (.mu b in_.length) .nils).sz, (fo in_ 0 who (.mu b in_.length) .nils).nn⟩) = ZH h0 k g P W T ((f, fo in_ 0 who (.ro true (bools best)) .nils) :: F) := by
    rw [upd_upd, upd_none_id hb2, ← p1]; rfl
  simp only [eH]
  clear eH gv h1' h2' h1 h2 p1 hb2 e1 e2
  have lbest : best.length = g.owner.length := by rw [ebest, bestL, length_tab]; exact hin
  have sg := pz_goes (NX (fo in_ 0 who (.ro true (bools best)) .nils)) g hf P W T who hw01 in_ best hin (by omega) hT ok.m
  have lT2 : (goesX g who in_ best T).length = g.owner.length := length_tab _ _
  generalize goesX g who in_ best T = T2 at *
  have sl := pz_less (NX (fo in_ 0 who (.ro true (bools best)) .nils)) g hf P W T2 in_ (goesR g who in_ best)
  rw [← erest] at sl
  generalize goesR g who in_ best = A at *
  have h1 := ff (fo in_ 0 who (.ro true (bools best)) .nils) W T
  have h2 := fs (fo in_ 0 who (.ro true (bools best)) .nils) W T
  have g1 := ff (fo in_ 0 who (.ro true (bools best)) .nils) W T2
  have g2 := fs (fo in_ 0 who (.ro true (bools best)) .nils) W T2
  have p1 := fun X' => fp (fo in_ 0 who (.ro true (bools best)) .nils) X' W T2
  generalize ZH h0 k g P W T ((f, fo in_ 0 who (.ro true (bools best)) .nils) :: F) = H at *
  generalize ZH h0 k g P W T2 ((f, fo in_ 0 who (.ro true (bools best)) .nils) :: F) = H2 at *
  refine AW.seq fun _ k1 => AW.draw [] 19 [5, 10, 14, 18] Θ_ok mixed (by kernel_rfl) (by kernel_rfl) ?_
  simp [vcDraw, vcPre, vcTail, callA, isAlloc, isLoad, effOp, obl, obA, mkOK, valA, h1, h2]
  refine (sg.wk (by simp)).mono ?_
  rintro r h' ⟨rfl, rfl⟩
  simp [g1, g2]
  refine (sl.wk (by simp)).mono ?_
  rintro r h' ⟨rfl, rfl⟩
  simp [g1, g2, p1, fo_mk]
  refine k1 _ ?_
  clear h1 h2 g1 g2 p1 sg sl
  have h1 := ff (fo in_ 0 who (.ro true (bools best)) (.ro true (bools rest))) W T2
  have p1 := fun X' => fp (fo in_ 0 who (.ro true (bools best)) (.ro true (bools rest))) X' W T2
  generalize ZH h0 k g P W T2 ((f, fo in_ 0 who (.ro true (bools best)) (.ro true (bools rest))) :: F) = H at *
  refine AW.seq fun _ k1 => AW.region [] Θ_ok ?_
  simp [h1, p1, fo_mk]
  refine k1 _ ?_
  clear h1 p1
  have e1 : fo in_ 1 who (.ro true (bools best)) (.ro true (bools rest)) = obF ⟨in_, 1, who, best, rest⟩ := (fo_one in_ 0 who best rest).symm
  rw [e1]
  have h1 := ff (obF ⟨in_, 1, who, best, rest⟩) W T2
  have sp := pz_push (NX (obF ⟨in_, 1, who, best, rest⟩)) g hf P W T2 rest (by simp; omega)
  generalize hH : ZH h0 k g P W T2 ((f, obF ⟨in_, 1, who, best, rest⟩) :: F) = H at *
  refine AW.regionAt 6 [] Θ_ok fun B hB => ?_
  simp [h1]
  refine sp.mono ?_
  rintro r h' ⟨f2, q', N2, rfl⟩
  refine hB _ ?_
  clear hB B
  simp [Try.f91]
  exact Fin.refl ⟨f2, q', N2, rfl⟩
end
end Go.Par
