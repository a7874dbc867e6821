import Derived.Test.YtaipmknajpbpkaaPrA
set_option linter.unusedSimpArgs false
set_option linter.unusedVariables false
set_option linter.unusedSectionVars false
set_option maxRecDepth 8000
set_option maxHeartbeats 1000000
namespace Go.Par
open Go.Proofs

def winsY (n : Nat) (who : Int) (s : List Bool) (W : List Int) (x : Nat) : List Int := tab n fun v => if v < x ∧ hasN s v = true then who else fI W v
theorem winsY_len (n : Nat) (who : Int) (s : List Bool) (W : List Int) (x : Nat) : (winsY n who s W x).length = n := length_tab _ _
theorem winsY_zero {n : Nat} {who : Int} {s : List Bool} {W : List Int} (h : W.length = n) : winsY n who s W 0 = W := by
  refine (tab_ext h fun i hi => ?_).symm
  rw [if_neg fun q => Nat.not_lt_zero _ q.1]; simp [fI, show i < W.length by omega]
theorem winsY_full {n : Nat} {who : Int} {s : List Bool} {W : List Int} : winsY n who s W n = winsX n who s W := tab_congr fun i hi => by simp [hi]
theorem winsY_put {n : Nat} {who : Int} {s : List Bool} {W : List Int} {x : Nat} (h : hasN s x = true) : (winsY n who s W x).set x who = winsY n who s W (x + 1) := by
  rw [winsY, set_tab]
  refine tab_congr fun v _ => ?_
  by_cases e : v = x
  · subst e; simp [h]
  · by_cases h : v < x
    · simp [e, h, show v < x + 1 by omega]
    · simp [e, h, show ¬ v < x + 1 by omega]
theorem winsY_not {n : Nat} {who : Int} {s : List Bool} {W : List Int} {x : Nat} (h : hasN s x = false) : winsY n who s W x = winsY n who s W (x + 1) := by
  refine tab_congr fun v _ => ?_
  by_cases e : v = x
  · subst e; simp [h]
  · by_cases h : v < x
    · simp [h, show v < x + 1 by omega]
    · simp [h, show ¬ v < x + 1 by omega]

def wonP (who : Int) (part : List Bool) (W : List Int) (v : Nat) : Bool := hasN part v && decide (fI W v = who)

/-- Ways that are told to a part. -/
def goY (n : Nat) (A : List Int) (part : List Bool) (T : List Int) (x : Nat) : List Int := tab n fun v => if v < x ∧ 0 ≤ fI A v ∧ hasN part v = true then fI A v else fI T v
theorem goY_len (n : Nat) (A : List Int) (part : List Bool) (T : List Int) (x : Nat) : (goY n A part T x).length = n := length_tab _ _
theorem goY_zero {n : Nat} {A : List Int} {part : List Bool} {T : List Int} (h : T.length = n) : goY n A part T 0 = T := by
  refine (tab_ext h fun i hi => ?_).symm
  rw [if_neg fun q => Nat.not_lt_zero _ q.1]; simp [fI, show i < T.length by omega]
theorem goY_full {n : Nat} {A : List Int} {part : List Bool} {T : List Int} : goY n A part T n = tab n fun v => if 0 ≤ fI A v ∧ hasN part v = true then fI A v else fI T v := tab_congr fun i hi => by simp [hi]
theorem goY_put {n : Nat} {A : List Int} {part : List Bool} {T : List Int} {x : Nat} (h : 0 ≤ fI A x) (h2 : hasN part x = true) : (goY n A part T x).set x (fI A x) = goY n A part T (x + 1) := by
  rw [goY, set_tab]
  refine tab_congr fun v _ => ?_
  by_cases e : v = x
  · subst e; rw [if_pos rfl, if_pos ⟨Nat.lt_succ_self _, h, h2⟩]
  · by_cases h : v < x
    · simp [e, h, show v < x + 1 by omega]
    · simp [e, h, show ¬ v < x + 1 by omega]
theorem goY_not {n : Nat} {A : List Int} {part : List Bool} {T : List Int} {x : Nat} (h : ¬ (0 ≤ fI A x ∧ hasN part x = true)) : goY n A part T x = goY n A part T (x + 1) := by
  refine tab_congr fun v _ => ?_
  by_cases e : v = x
  · subst e; rw [if_neg fun q => h q.2, if_neg fun q => h q.2]
  · by_cases h : v < x
    · simp [h, show v < x + 1 by omega]
    · simp [h, show ¬ v < x + 1 by omega]

section
variable {h0 : Heap} {k : ZN} {F : List (Nat × Ob)} (N : ZNok h0 k F) (g : G) (hf : g.fits) (P W T : List Int)
include N hf

theorem pz_wins (who : Int) (s : List Bool) (hsl : s.length = g.owner.length) (hW : W.length = g.owner.length) (hn : g.owner.length ≤ 3000) :
    AC Try.prog 67 [.ptr k.s 0, .int .i64 who, .ro true (bools s)] (ZH h0 k g P W T F) fun _ h' => h' = ZH h0 k g P (winsX g.owner.length who s W) T F := by
  refine AC.body Θ_ok Try.func67 rfl rfl (Nat.le_of_ble_eq_true rfl) ?_
  refine AW.seq fun _ k1 => AW.region [] Θ_ok ?_
  simp
  refine k1 _ ?_
  refine AW.block ?_
  refine AW.loopI (X := Nat) (fun x => x ≤ s.length) (fun x => ⟨24, [(0, .ptr k.s 0), (1, .int .i64 who), (8, .ro true (bools s)), (9, .int .i64 s.length), (10, .int .i64 x)], ZH h0 k g P (winsY g.owner.length who s W x) T F⟩) (fun x => s.length - x) 0 (Nat.zero_le _) (GStep.eq (by simp) (subH_of_eq (by rw [winsY_zero hW]))) fun x hx => ?_
  refine AW.seq fun _ k2 => AW.region [] Θ_ok ?_
  simp
  refine k2 _ ?_
  by_cases hlt : x < s.length
  · have inc := wrap_succ (show x < 9223372036854775807 by omega)
    have hlt' : x < g.owner.length := by omega
    have hh : hasN s x = s[x] := by simp [hasN, hlt]
    have pp := winsY_put (n := g.owner.length) (who := who) (s := s) (W := W) (x := x)
    have pn := winsY_not (n := g.owner.length) (who := who) (s := s) (W := W) (x := x)
    rw [hh] at pp pn
    have lX := winsY_len g.owner.length who s W x
    generalize hWs : winsY g.owner.length who s W (x + 1) = W2 at *
    generalize winsY g.owner.length who s W x = W1 at *
    have hs := ZH.s N g P W1 T
    have hw := ZH.w N g P W1 T
    have pW := ZH.putW N g P W1 T
    have mX := map_set_int W1 x who
    generalize W1.set x who = W3 at *
    generalize hH : ZH h0 k g P W1 T F = H at *
    refine AW.seq fun _ k2 => AW.cond true (by simp [Int.natCast_inj, hlt]) (fun _ => ?_) (fun h => by cases h)
    refine AW.skip ?_
    simp
    refine k2 _ ?_
    refine AW.seq fun _ k2 => ?_
    refine AW.block ?_
    refine AW.seq fun _ k3 => AW.region [] Θ_ok ?_
    simp [hlt]
    refine k3 _ ?_
    refine AW.seq fun _ k3 => AW.region [] Θ_ok ?_
    simp
    refine k3 _ ?_
    cases hb : s[x]
    · refine AW.cond false (by simp [Int.natCast_inj, hb]) (fun h => by cases h) (fun _ => ?_)
      refine AW.skip ?_
      simp
      refine k2 _ ?_
      refine AW.region [] Θ_ok ?_
      simp
      exact ⟨x + 1, by omega, by omega, GStep.eq (by simp [inc]) (subH_of_eq (by rw [hWs, ← pn hb, hH]))⟩
    · refine AW.cond true (by simp [Int.natCast_inj, hb]) (fun _ => ?_) (fun h => by cases h)
      refine AW.region [] Θ_ok ?_
      simp [hs, hw, lX, hlt', mX, obI_mk]
      refine ⟨by omega, k2 _ ?_⟩
      refine AW.region [] Θ_ok ?_
      simp
      exact ⟨x + 1, by omega, by omega, GStep.eq (by simp [inc]) (subH_of_eq (by rw [hWs, pW, pp hb]))⟩
  · obtain rfl : x = s.length := by omega
    refine AW.seq fun _ k3 => AW.cond false (by simp) (fun h => by cases h) (fun _ => ?_)
    refine AW.exit ?_
    simp [Try.f67]
    exact Fin.refl (by rw [hsl, winsY_full])

theorem pz_won (who : Int) (part : List Bool) (hsl : part.length = g.owner.length) (hW : W.length = g.owner.length) (hn : g.owner.length ≤ 3000) :
    AC Try.prog 109 [.ptr k.s 0, .int .i64 who, .ro true (bools part)] (ZH h0 k g P W T F) fun r h' => r = .ro true (bools (wonL who part W)) ∧ h' = ZH h0 k g P W T F := by
  have hs := ZH.s N g P W T
  have hw := ZH.w N g P W T
  generalize ZH h0 k g P W T F = H at *
  refine AC.body Θ_ok Try.func109 rfl rfl (Nat.le_of_ble_eq_true rfl) ?_
  refine AW.seq fun _ k1 => AW.region [] Θ_ok ?_
  simp
  refine k1 _ ?_
  refine AW.seq fun _ k1 => AW.region [12] Θ_ok ?_
  simp
  refine ⟨by omega, fun o ho => k1 _ ?_⟩
  have e1 : k.s ≠ o := fun e => by rw [e, ho] at hs; cases hs
  have e2 : k.w ≠ o := fun e => by rw [e, ho] at hw; cases hw
  have hs2 : ∀ X, upd H o X k.s = some (obZ g P k F.length) := fun X => by rw [upd_ne _ _ e1]; exact hs
  have hw2 : ∀ X, upd H o X k.w = some (obI W) := fun X => by rw [upd_ne _ _ e2]; exact hw
  rw [replicate_tab, flat_tab (fun _ _ => rfl), stB_zero _ (wonP who part W)]
  refine AW.seq fun _ k1 => ?_
  refine AW.seq fun _ k2 => AW.region [] Θ_ok ?_
  simp
  refine k2 _ ?_
  refine AW.block ?_
  refine AW.loopI (X := Nat) (fun x => x ≤ part.length) (fun x => ⟨37, [(0, .ptr k.s 0), (1, .int .i64 who), (7, .mu o part.length), (13, .ro true (bools part)), (14, .int .i64 part.length), (15, .int .i64 x)], upd H o (some ⟨stB part.length x (wonP who part W), 4, 1, true⟩)⟩) (fun x => part.length - x) 0 (Nat.zero_le _) (GStep.eq (by simp) (subH.refl _)) fun x hx => ?_
  refine AW.seq fun _ k2 => AW.region [] Θ_ok ?_
  simp
  refine k2 _ ?_
  by_cases hlt : x < part.length
  · have inc := wrap_succ (show x < 9223372036854775807 by omega)
    have hlt' : x < g.owner.length := by omega
    have hltW : x < W.length := by omega
    have hset := stB_set part.length x (wonP who part W)
    have hb : wonP who part W x = (part[x] && decide (W[x] = who)) := by simp [wonP, hasN, fI, hlt, hltW]
    rw [hb] at hset
    have dW := map_drop_int W hltW
    generalize hX2 : (stB part.length (x + 1) (wonP who part W)) = X2 at *
    have lX := stB_len part.length x (wonP who part W)
    generalize (stB part.length x (wonP who part W)) = X1 at *
    refine AW.seq fun _ k2 => AW.cond true (by simp [Int.natCast_inj, hlt]) (fun _ => ?_) (fun h => by cases h)
    refine AW.skip ?_
    simp
    refine k2 _ ?_
    refine AW.seq fun _ k2 => ?_
    refine AW.block ?_
    refine AW.seq fun _ k3 => AW.region [] Θ_ok ?_
    simp [hlt]
    refine k3 _ ?_
    refine AW.region [] Θ_ok ?_
    cases hb : part[x]
    · rw [hb, Bool.false_and] at hset
      simp [hs2, hw2, hlt, hlt', hltW, dW, lX, hb, hset]
      refine ⟨by omega, k2 _ ?_⟩
      refine AW.region [] Θ_ok ?_
      simp
      exact ⟨x + 1, by omega, by omega, GStep.eq (by simp [inc]) (subH_of_eq (by simp only [upd_upd, hX2]))⟩
    · rw [hb, Bool.true_and] at hset
      have hq : (W[x] == who) = decide (W[x] = who) := rfl
      simp [hs2, hw2, hlt, hlt', hltW, dW, lX, hb, hq, hset]
      refine ⟨by omega, k2 _ ?_⟩
      refine AW.region [] Θ_ok ?_
      simp
      exact ⟨x + 1, by omega, by omega, GStep.eq (by simp [inc]) (subH_of_eq (by simp only [upd_upd, hX2]))⟩
  · obtain rfl : x = part.length := by omega
    refine AW.seq fun _ k2 => AW.cond false (by simp [Int.natCast_inj]) (fun h => by cases h) (fun _ => ?_)
    refine AW.exit ?_
    simp
    refine k1 _ ?_
    refine AW.seq fun _ kr => AW.region [] Θ_ok ?_
    simp
    refine kr _ (AW.ret ?_)
    simp [Try.f109]
    refine Fin.freeze (k := true) (upd_same _ _ _) (fun _ => rfl) rfl (by simp) (stB_ones _ _ _) H (by simp [upd_none_id ho]; exact subH.refl _) ⟨?_, rfl⟩
    rw [stB_full]; rfl

theorem pz_goes (who : Int) (hw : who = 0 ∨ who = 1) (part s : List Bool) (hpl : part.length = g.owner.length) (hsl : s.length ≤ 3000) (hT : T.length = g.owner.length) (hm : mayE g = 0) :
    AC Try.prog 108 [.ptr k.s 0, .int .i64 who, .ro true (bools part), .ro true (bools s)] (ZH h0 k g P W T F) fun r h' => r = .ro true (bools (goesR g who part s)) ∧ h' = ZH h0 k g P W (goesX g who part s T) F := by
  have hn := (may_ok hm).1
  have sO := graph_Only g hf part
  rw [waysA, if_pos hm] at sO
  have hfO : (onlyG g part).fits := waysG_fits hf _
  have hok : okP (onlyG g part) who := ⟨only_may hm, hw⟩
  have sR := attract_Region (onlyG g part) hfO who s (by omega)
  rw [regA, if_pos hok] at sR
  have sW := attract_Ways (onlyG g part) hfO who s (by omega)
  rw [awayA, if_pos hok] at sW
  have sA := pre_And g (regL (onlyG g part) who s) part hf.owner
  rw [show andL g (regL (onlyG g part) who s) part = goesR g who part s from rfl] at sA
  have hX : goesX g who part s T = goY g.owner.length (awayL (onlyG g part) who s) part T g.owner.length := goY_full.symm
  have lA : (awayL (onlyG g part) who s).length = g.owner.length := by rw [awayL, awaysR, length_tab, only_len hm]
  have hA : ∀ v, v < g.owner.length → -1 ≤ fI (awayL (onlyG g part) who s) v := fun v hv => by
    rcases away_ge (g := onlyG g part) (who := who) (s := s) (only_may hm) (v := v) (by rw [only_len hm]; exact hv) with q | ⟨_, _, u, q, _⟩ <;> omega
  rw [hX]
  generalize goesR g who part s = R at *
  generalize awayL (onlyG g part) who s = A at *
  generalize regL (onlyG g part) who s = Rg at *
  have eO : (onlyG g part).av = .agg [.ro false (ints g.owner), .ro false (rows (waysL g (onlyP part)))] := by rw [onlyG, waysG_eq hm]; rfl
  rw [eO] at sR sW
  generalize waysL g (onlyP part) = L at *
  have hs := ZH.s N g P W T
  refine AC.body Θ_ok Try.func108 rfl rfl (Nat.le_of_ble_eq_true rfl) ?_
  refine AW.seq fun _ k1 => AW.region [] Θ_ok ?_
  simp
  refine k1 _ ?_
  refine AW.seq fun _ k1 => AW.regionAt 6 [9] Θ_ok fun B hB => ?_
  simp [hs]
  refine sO.use (by simp [G.av]) ?_
  refine hB _ ?_
  clear hB B
  simp [newA]
  intro o ho
  refine k1 _ ?_
  refine AW.box 9 (o := o) rfl (upd_same _ _ _) ?_
  simp only [upd_upd, upd_none_id ho]
  refine AW.seq fun _ k1 => AW.draw [] 11 [] Θ_ok mixed (by kernel_rfl) (by kernel_rfl) ?_
  refine vcDraw_split 8 fun B hB => ?_
  simp [vcPre, vcTail, callA, isAlloc, isLoad, effOp, obl, obA, mkOK, valA, hs]
  refine ⟨_, sR.wk (by simp), ?_⟩
  refine hB _ _ _ ?_
  clear hB B
  refine vcPre_split 2 fun B hB => ?_
  simp [vcPre, vcTail, callA, isAlloc, isLoad, effOp, obl, obA, mkOK, valA]
  refine ⟨_, sA.wk (by simp [G.av]), ?_⟩
  refine hB _ _ _ ?_
  clear hB B
  simp [vcPre, vcTail, callA, isAlloc, isLoad, effOp, obl, obA, mkOK, valA]
  refine k1 _ ?_
  refine AW.seq fun _ k1 => ?_
  refine AW.seq fun _ k2 => AW.regionAt 4 [] Θ_ok fun B hB => ?_
  simp
  refine sW.use (by simp) ?_
  refine hB _ ?_
  clear hB B
  simp
  refine k2 _ ?_
  refine AW.block ?_
  refine AW.loopI (X := Nat) (fun x => x ≤ A.length) (fun x => ⟨56, [(0, .ptr k.s 0), (2, .ro true (bools part)), (10, .ro true (bools R)), (32, .ro true (ints A)), (33, .int .i64 A.length), (34, .int .i64 x)], ZH h0 k g P W (goY g.owner.length A part T x) F⟩) (fun x => A.length - x) 0 (Nat.zero_le _) (GStep.eq (by simp) (subH_of_eq (by rw [goY_zero hT]))) fun x hx => ?_
  clear hs
  refine AW.seq fun _ k2 => AW.region [] Θ_ok ?_
  simp
  refine k2 _ ?_
  by_cases hlt : x < A.length
  · have inc := wrap_succ (show x < 9223372036854775807 by omega)
    have hlt' : x < g.owner.length := by omega
    have hltP : x < part.length := by omega
    have hh : hasN part x = part[x] := by simp [hasN, hltP]
    have ha : fI A x = A[x] := by simp [fI, hlt]
    have hA0 := hA x hlt'
    have pp := goY_put (n := g.owner.length) (A := A) (part := part) (T := T) (x := x)
    have pn := goY_not (n := g.owner.length) (A := A) (part := part) (T := T) (x := x)
    rw [hh, ha] at pp pn
    rw [ha] at hA0
    have lX := goY_len g.owner.length A part T x
    generalize hWs : goY g.owner.length A part T (x + 1) = T2 at *
    generalize goY g.owner.length A part T x = T1 at *
    have hs := ZH.s N g P W T1
    have ht := ZH.t N g P W T1
    have pT := ZH.putT N g P W T1
    have mX := map_set_int T1 x A[x]
    generalize hT3 : T1.set x A[x] = T3 at *
    generalize hH : ZH h0 k g P W T1 F = H at *
    refine AW.seq fun _ k2 => AW.cond true (by simp [Int.natCast_inj, hlt]) (fun _ => ?_) (fun h => by cases h)
    refine AW.skip ?_
    simp
    refine k2 _ ?_
    refine AW.seq fun _ k2 => ?_
    refine AW.block ?_
    refine AW.seq fun _ k3 => AW.region [] Θ_ok ?_
    simp [hlt]
    refine k3 _ ?_
    by_cases c1 : 0 ≤ A[x]
    · cases hb : part[x]
      · refine AW.seq fun _ k3 => AW.region [] Θ_ok ?_
        simp [hltP, c1, hb]
        refine k3 _ ?_
        refine AW.cond false (by simp [Int.natCast_inj, c1, hb]) (fun h => by cases h) (fun _ => ?_)
        refine AW.skip ?_
        simp
        refine k2 _ ?_
        refine AW.region [] Θ_ok ?_
        simp
        exact ⟨x + 1, by omega, by omega, GStep.eq (by simp [inc]) (subH_of_eq (by rw [hWs, ← pn (fun q => by rw [hb] at q; cases q.2), hH]))⟩
      · refine AW.seq fun _ k3 => AW.region [] Θ_ok ?_
        simp [hltP, c1, hb]
        refine k3 _ ?_
        refine AW.cond true (by simp [Int.natCast_inj, c1, hb]) (fun _ => ?_) (fun h => by cases h)
        refine AW.region [] Θ_ok ?_
        simp [hs, ht, lX, hlt', mX, obI_mk]
        refine ⟨by omega, k2 _ ?_⟩
        refine AW.region [] Θ_ok ?_
        simp
        exact ⟨x + 1, by omega, by omega, GStep.eq (by simp [inc]) (subH_of_eq (by rw [hWs, pT, pp c1 hb]))⟩
    · have c1' : A[x] < 0 := by omega
      refine AW.seq fun _ k3 => AW.region [] Θ_ok ?_
      simp [hltP, c1, c1']
      refine k3 _ ?_
      refine AW.cond false (by simp [Int.natCast_inj, c1, c1']) (fun h => by cases h) (fun _ => ?_)
      refine AW.skip ?_
      simp
      refine k2 _ ?_
      refine AW.region [] Θ_ok ?_
      simp
      exact ⟨x + 1, by omega, by omega, GStep.eq (by simp [inc]) (subH_of_eq (by rw [hWs, ← pn (fun q => c1 q.1), hH]))⟩
  · obtain rfl : x = A.length := by omega
    refine AW.seq fun _ k2 => AW.cond false (by simp [Int.natCast_inj]) (fun h => by cases h) (fun _ => ?_)
    refine AW.exit ?_
    simp
    refine k1 _ ?_
    refine AW.seq fun _ kr => AW.region [] Θ_ok ?_
    simp
    refine kr _ (AW.ret ?_)
    simp [Try.f108]
    exact Fin.refl ⟨rfl, by rw [lA]⟩

def stayV (g : G) (who : Int) (part s : List Bool) (T : List Int) (v : Nat) : Int := if hasN s v = true ∧ ow g v = who then ((nx g v).find? (hasI part)).getD (fI T v) else fI T v
def stayY (g : G) (who : Int) (part s : List Bool) (T : List Int) (x : Nat) : List Int := tab g.owner.length fun v => if v < x then stayV g who part s T v else fI T v
omit N hf in
theorem stayY_len (who : Int) (part s : List Bool) (x : Nat) : (stayY g who part s T x).length = g.owner.length := length_tab _ _
omit N hf in
theorem stayY_zero {who : Int} {part s : List Bool} (h : T.length = g.owner.length) : stayY g who part s T 0 = T := by
  refine (tab_ext h fun i hi => ?_).symm
  rw [if_neg (Nat.not_lt_zero _)]; simp [fI, show i < T.length by omega]
omit N hf in
theorem stayY_full {who : Int} {part s : List Bool} : stayY g who part s T g.owner.length = staysX g who part s T := tab_congr fun i hi => by rw [if_pos hi]; rfl
omit N hf in
theorem stayY_put {who : Int} {part s : List Bool} {x : Nat} : (stayY g who part s T x).set x (stayV g who part s T x) = stayY g who part s T (x + 1) := by
  rw [stayY, set_tab]
  refine tab_congr fun v _ => ?_
  by_cases e : v = x
  · subst e; simp
  · by_cases h : v < x
    · simp [e, h, show v < x + 1 by omega]
    · simp [e, h, show ¬ v < x + 1 by omega]
omit N hf in
theorem stayY_not {who : Int} {part s : List Bool} {x : Nat} (h : stayV g who part s T x = fI T x) : stayY g who part s T x = stayY g who part s T (x + 1) := by
  refine tab_congr fun v _ => ?_
  by_cases e : v = x
  · subst e; rw [if_neg (Nat.lt_irrefl _), if_pos (Nat.lt_succ_self _), h]
  · by_cases h : v < x
    · simp [h, show v < x + 1 by omega]
    · simp [h, show ¬ v < x + 1 by omega]

theorem pz_stays (who : Int) (part s : List Bool) (hpl : part.length = g.owner.length) (hsl : s.length = g.owner.length) (hT : T.length = g.owner.length) (hm : mayE g = 0) :
    AC Try.prog 110 [.ptr k.s 0, .int .i64 who, .ro true (bools part), .ro true (bools s)] (ZH h0 k g P W T F) fun _ h' => h' = ZH h0 k g P W (staysX g who part s T) F := by
  have hn := (may_ok hm).1
  have hn2 := (may_ok hm).2.1
  refine AC.body Θ_ok Try.func110 rfl rfl (Nat.le_of_ble_eq_true rfl) ?_
  refine AW.seq fun _ k1 => AW.region [] Θ_ok ?_
  simp
  refine k1 _ ?_
  refine AW.block ?_
  refine AW.loopI (X := Nat) (fun x => x ≤ s.length) (fun x => ⟨59, [(0, .ptr k.s 0), (1, .int .i64 who), (2, .ro true (bools part)), (12, .ro true (bools s)), (13, .int .i64 s.length), (14, .int .i64 x)], ZH h0 k g P W (stayY g who part s T x) F⟩) (fun x => s.length - x) 0 (Nat.zero_le _) (GStep.eq (by simp) (subH_of_eq (by rw [stayY_zero g T hT]))) fun x hx => ?_
  refine AW.seq fun _ k2 => AW.region [] Θ_ok ?_
  simp
  refine k2 _ ?_
  by_cases hlt : x < s.length
  · have inc := wrap_succ (show x < 9223372036854775807 by omega)
    have hlt' : x < g.owner.length := by omega
    have hltn : x < g.next.length := by omega
    have en : nx g x = g.next[x] := by simp [nx, hltn]
    have eo : ow g x = g.owner[x] := by simp [ow, hlt']
    have hh : hasN s x = s[x] := by simp [hasN, hlt]
    have hw : stayV g who part s T x = if s[x] = true ∧ g.owner[x] = who then (g.next[x].find? (hasI part)).getD (fI T x) else fI T x := by
      unfold stayV; rw [en, eo, hh]
    have hnx := (nx_ok hm hlt').2
    rw [en] at hnx
    have hlen : g.next[x].length ≤ 17592186044416 := hf.row _ (List.getElem_mem _)
    have pp := stayY_put (g := g) (T := T) (who := who) (part := part) (s := s) (x := x)
    have pn := stayY_not (g := g) (T := T) (who := who) (part := part) (s := s) (x := x)
    have lX := stayY_len g T who part s x
    generalize hWs : stayY g who part s T (x + 1) = T2 at *
    generalize stayY g who part s T x = T1 at *
    have hs := ZH.s N g P W T1
    have ht := ZH.t N g P W T1
    have pT := ZH.putT N g P W T1
    generalize fI T x = a0 at *
    generalize stayV g who part s T x = wv at *
    generalize hH : ZH h0 k g P W T1 F = H at *
    refine AW.seq fun _ k2 => AW.cond true (by simp [Int.natCast_inj, hlt]) (fun _ => ?_) (fun h => by cases h)
    refine AW.skip ?_
    simp
    refine k2 _ ?_
    refine AW.seq fun _ k2 => ?_
    refine AW.block ?_
    refine AW.seq fun _ k3 => AW.region [] Θ_ok ?_
    simp [hlt]
    refine k3 _ ?_
    refine AW.seq fun _ k3 => ?_
    cases hg : s[x]
    · rw [if_neg (fun q => by rw [hg] at q; cases q.1)] at hw
      refine AW.seq fun _ k4 => AW.region [] Θ_ok ?_
      simp [hg]
      refine k4 _ ?_
      refine AW.cond true (by simp [Int.natCast_inj, hg]) (fun _ => ?_) (fun h => by cases h)
      refine AW.exit ?_
      simp
      refine k2 _ ?_
      refine AW.region [] Θ_ok ?_
      simp
      exact ⟨x + 1, by omega, by omega, GStep.eq (by simp [inc]) (subH_of_eq (by rw [hWs, ← pn hw, hH]))⟩
    · by_cases ho1 : g.owner[x] = who
      · rw [if_pos ⟨hg, ho1⟩] at hw
        refine AW.seq fun _ k4 => AW.region [] Θ_ok ?_
        simp [hg, hs, hlt', ho1]
        refine k4 _ ?_
        refine AW.cond false (by simp [Int.natCast_inj, ho1]) (fun h => by cases h) (fun _ => ?_)
        refine AW.skip ?_
        simp
        refine k3 _ ?_
        refine AW.seq fun _ k3 => AW.region [] Θ_ok ?_
        simp [hs, hltn]
        refine k3 _ ?_
        refine AW.block ?_
        refine AW.loopI (X := Nat) (fun y => y ≤ g.next[x].length ∧ ∀ j (h : j < g.next[x].length), j < y → hasI part g.next[x][j] = false) (fun y => ⟨59, [(0, .ptr k.s 0), (1, .int .i64 who), (2, .ro true (bools part)), (8, .int .i64 x), (12, .ro true (bools s)), (13, .int .i64 s.length), (14, .int .i64 x), (40, .ro false (ints g.next[x])), (41, .int .i64 g.next[x].length), (42, .int .i64 y)], H⟩) (fun y => g.next[x].length - y) 0 ⟨Nat.zero_le _, fun j _ h => by omega⟩ (GStep.eq (by simp) (subH.refl _)) fun y hy => ?_
        obtain ⟨hy, hno⟩ := hy
        refine AW.seq fun _ k4 => AW.region [] Θ_ok ?_
        simp
        refine k4 _ ?_
        by_cases hlt2 : y < g.next[x].length
        · have inc2 := wrap_succ (show y < 9223372036854775807 by omega)
          obtain ⟨u0, u1⟩ := hnx _ (List.getElem_mem hlt2)
          obtain ⟨u, hu⟩ : ∃ u : Nat, g.next[x][y] = u := ⟨(g.next[x][y]).toNat, by omega⟩
          have hun : u < part.length := by omega
          have eu : hasI part g.next[x][y] = part[u] := by rw [hu]; simp [hasI, hun]
          refine AW.seq fun _ k4 => AW.cond true (by simp [Int.natCast_inj, hlt2]) (fun _ => ?_) (fun h => by cases h)
          refine AW.skip ?_
          simp
          refine k4 _ ?_
          refine AW.seq fun _ k4 => ?_
          refine AW.block ?_
          refine AW.seq fun _ k5 => AW.region [] Θ_ok ?_
          simp [hlt2, hu]
          refine k5 _ ?_
          refine AW.seq fun _ k5 => AW.region [] Θ_ok ?_
          simp [hun]
          refine k5 _ ?_
          cases c1 : part[u]
          · refine AW.cond false (by simp [Int.natCast_inj, c1]) (fun h => by cases h) (fun _ => ?_)
            refine AW.skip ?_
            simp
            refine k4 _ ?_
            refine AW.region [] Θ_ok ?_
            simp
            exact ⟨y + 1, ⟨by omega, fun j hj hj2 => by
              by_cases e : j = y
              · subst e; rw [eu, c1]
              · exact hno j hj (by omega)⟩, by omega, GStep.eq (by simp [inc2]) (subH.refl _)⟩
          · have hf1 : (g.next[x].find? (hasI part)) = some (g.next[x][y]) := by
              rw [List.find?_eq_some_iff_getElem]
              refine ⟨by rw [eu, c1], y, hlt2, rfl, fun j hj => ?_⟩
              rw [hno j (by omega) hj]; rfl
            rw [hf1, Option.getD_some, hu] at hw
            have mY := map_set_int T1 x wv
            rw [pp] at mY
            rw [hw] at mY
            refine AW.cond true (by simp [Int.natCast_inj, c1]) (fun _ => ?_) (fun h => by cases h)
            refine AW.seq fun _ k5 => AW.region [] Θ_ok ?_
            simp [hs, ht, hlt', lX, mY, obI_mk]
            refine ⟨by omega, k5 _ ?_⟩
            refine AW.exit ?_
            simp
            refine k2 _ ?_
            refine AW.region [] Θ_ok ?_
            simp
            exact ⟨x + 1, by omega, by omega, GStep.eq (by simp [inc]) (subH_of_eq (by rw [hWs, pT]))⟩
        · obtain rfl : y = g.next[x].length := by omega
          have hf1 : (g.next[x].find? (hasI part)) = none := by
            rw [List.find?_eq_none]
            intro w hw
            obtain ⟨j, hj, rfl⟩ := List.getElem_of_mem hw
            rw [hno j hj hj]; simp
          rw [hf1, Option.getD_none] at hw
          refine AW.seq fun _ k4 => AW.cond false (by simp [Int.natCast_inj]) (fun h => by cases h) (fun _ => ?_)
          refine AW.exit ?_
          simp
          refine k2 _ ?_
          refine AW.region [] Θ_ok ?_
          simp
          exact ⟨x + 1, by omega, by omega, GStep.eq (by simp [inc]) (subH_of_eq (by rw [hWs, ← pn hw, hH]))⟩
      · rw [if_neg (fun q => ho1 q.2)] at hw
        refine AW.seq fun _ k4 => AW.region [] Θ_ok ?_
        simp [hg, hs, hlt', ho1]
        refine k4 _ ?_
        refine AW.cond true (by simp [Int.natCast_inj, hg, ho1]) (fun _ => ?_) (fun h => by cases h)
        refine AW.exit ?_
        simp
        refine k2 _ ?_
        refine AW.region [] Θ_ok ?_
        simp
        exact ⟨x + 1, by omega, by omega, GStep.eq (by simp [inc]) (subH_of_eq (by rw [hWs, ← pn hw, hH]))⟩
  · obtain rfl : x = s.length := by omega
    refine AW.seq fun _ k3 => AW.cond false (by simp) (fun h => by cases h) (fun _ => ?_)
    refine AW.exit ?_
    simp [Try.f110]
    exact Fin.refl (by rw [hsl, stayY_full])

theorem pz_push (s : List Bool) (hF : F.length ≤ 1000000) :
    AC Try.prog 69 [.ptr k.s 0, .ro true (bools s)] (ZH h0 k g P W T F) fun _ h' => ∃ f q', ZNok h0 ⟨k.s, k.w, k.t, q', true⟩ ((f, obF ⟨s, 0, 0, [], []⟩) :: F) ∧ h' = ZH h0 ⟨k.s, k.w, k.t, q', true⟩ g P W T ((f, obF ⟨s, 0, 0, [], []⟩) :: F) := by
  have hs := ZH.s N g P W T
  have hq := ZH.q N g P W T
  have pu := fun f q' h1 h2 => ZH.push (f := f) (q' := q') N g P W T (obF ⟨s, 0, 0, [], []⟩) h1 h2
  generalize ZH h0 k g P W T F = H at *
  refine AC.body Θ_ok Try.func69 rfl rfl (Nat.le_of_ble_eq_true rfl) ?_
  refine AW.region [11] Θ_ok ?_
  simp [hs, newA]
  intro f hfn
  have e1 : k.q ≠ f := fun e => by rw [e, hfn] at hq; cases hq
  have eX : (⟨[AV.ro true (bools s), AV.int IntKind.i64 0, AV.int IntKind.i64 0, AV.nils, AV.nils], 105, 5, true⟩ : Ob) = obF ⟨s, 0, 0, [], []⟩ := rfl
  rw [eX]
  have hq' : upd H f (some (obF ⟨s, 0, 0, [], []⟩)) k.q = some (obQ (nms F) k.nn) := by rw [upd_ne _ _ e1]; exact hq
  have lQ : (obQ (nms F) k.nn).cells.length = F.length := by simp
  have eQ : (obQ (nms F) k.nn).cells.take F.length ++ [.ptr f 0] = (obQ (f :: nms F) true).cells := by
    rw [← lQ, List.take_length]; simp
  have pu := fun q' h2 => pu f q' hfn h2
  generalize obF ⟨s, 0, 0, [], []⟩ = X at *
  generalize hQ0 : obQ (nms F) k.nn = Q0 at *
  have q1 : Q0.ty = 103 := by rw [← hQ0]; rfl
  have q2 : Q0.sz = 1 := by rw [← hQ0]; rfl
  have eO : (⟨(obQ (f :: nms F) true).cells, 103, 1, true⟩ : Ob) = obQ (f :: nms F) true := rfl
  generalize upd H f (some X) = H1 at *
  generalize obQ (f :: nms F) true = Q1 at *
  simp [appendA, hq', q1, q2, lQ, eQ, eO]
  refine ⟨rfl, ⟨by omega, by omega⟩, fun q' hq2 => ?_⟩
  obtain ⟨N2, p1, p2⟩ := pu q' hq2
  simp [p1]
  have eZ : (⟨[AV.ro false (ints g.owner), AV.ro false (rows g.next), AV.ro false (ints P), AV.mu k.w g.owner.length, AV.mu k.t g.owner.length, AV.mu q' (F.length + 1)], 88, 6, true⟩ : Ob) = obZ g P ⟨k.s, k.w, k.t, q', true⟩ (F.length + 1) := rfl
  rw [eZ, p2]
  exact Fin.refl ⟨f, q', N2, rfl⟩

theorem pz_pop {f : Nat} {X : Ob} (N : ZNok h0 k ((f, X) :: F)) (hF : F.length ≤ 1000000) :
    AC Try.prog 94 [.ptr k.s 0] (ZH h0 k g P W T ((f, X) :: F)) fun _ h' => h' = ZH h0 k g P W T F := by
  have hs := ZH.s N g P W T
  have hq := ZH.q N g P W T
  have sub := ZH.sub N g P W T
  have w1 : IntKind.i64.wrap (((F.length + 1 : Nat) : Int) - 1) = (F.length : Nat) := by rw [show ((F.length + 1 : Nat) : Int) - 1 = (F.length : Int) by omega]; exact wrap_nat (by omega)
  have ne : k.q ≠ k.s := fun e => by
    have := N.nd
    simp [e] at this
  generalize ZH h0 k g P W T ((f, X) :: F) = H at *
  refine AC.body Θ_ok Try.func94 rfl rfl (Nat.le_of_ble_eq_true rfl) ?_
  have w2 : IntKind.i64.wrap (F.length : Int) = (F.length : Nat) := wrap_nat (by omega)
  refine AW.draw [] 14 [] Θ_ok mixed (by kernel_rfl) (by kernel_rfl) ?_
  simp [vcDraw, vcPre, vcTail, callA, isAlloc, isLoad, effOp, obl, obA, mkOK, valA, hs, w1, w2]
  refine ⟨by omega, ?_⟩
  have eZ : (⟨[AV.ro false (ints g.owner), AV.ro false (rows g.next), AV.ro false (ints P), AV.mu k.w g.owner.length, AV.mu k.t g.owner.length, AV.mu k.q F.length], 88, 6, true⟩ : Ob) = obZ g P k F.length := rfl
  rw [eZ]
  have hq2 : upd H k.s (some (obZ g P k F.length)) k.q = some (obQ (nms ((f, X) :: F)) k.nn) := by rw [upd_ne _ _ ne]; exact hq
  refine Fin.gv (GV.trunc hq2 F.length) ?_
  have eQ : (⟨(obQ (nms ((f, X) :: F)) k.nn).cells.take F.length, (obQ (nms ((f, X) :: F)) k.nn).ty, (obQ (nms ((f, X) :: F)) k.nn).sz, (obQ (nms ((f, X) :: F)) k.nn).nn⟩ : Ob) = obQ (nms F) k.nn := by
    have e : (obQ (nms ((f, X) :: F)) k.nn).cells = (obQ (nms F) k.nn).cells ++ [.ptr f 0] := by simp
    have l : (obQ (nms F) k.nn).cells.length = F.length := by simp
    rw [e, List.take_left' l]; rfl
  rw [eQ]
  exact Fin.gv (GV.sub sub) (Fin.refl rfl)
end
end Go.Par
