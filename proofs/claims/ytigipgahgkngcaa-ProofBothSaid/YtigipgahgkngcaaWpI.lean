/- proof.Wins; parryref9.Even of any graph. -/
import Derived.Test.YtigipgahgkngcaaWgC
import Derived.Test.YtigipgahgkngcaaTjV
import Derived.Test.YtigipgahgkngcaaTgB
set_option linter.unusedSimpArgs false
set_option linter.unusedVariables false
set_option maxRecDepth 8000
set_option maxHeartbeats 4000000
namespace Go.Par
open Go.Proofs

def upD (who : Int) : Int := if who = 0 then 1 else 0
def tnY (P : List Int) (d : Int) (x : Nat) : List Int := tab P.length fun v => if v < x then prPv P v + d else 0
theorem tnY_len (P : List Int) (d : Int) (x : Nat) : (tnY P d x).length = P.length := length_tab _ _
theorem tnY_zero (P : List Int) (d : Int) : tnY P d 0 = List.replicate P.length 0 := by
  rw [replicate_tab]; exact tab_congr fun i _ => by simp
theorem tnY_set (P : List Int) (d : Int) (x : Nat) : (tnY P d x).set x (prPv P x + d) = tnY P d (x + 1) := by
  unfold tnY
  rw [set_tab]
  refine tab_congr fun i _ => ?_
  by_cases e : i = x
  · subst e; simp
  · by_cases h : i < x
    · simp [e, h, show i < x + 1 by omega]
    · simp [e, h, show ¬ i < x + 1 by omega]
theorem tn_get {P : List Int} {d : Int} {v : Nat} (hv : v < P.length) : prF2 (tnY P d P.length) v = prPv P v + d := by
  rw [prF2, tnY, getD_tab, if_pos hv, if_pos hv]
theorem tmod2' (a : Int) : a.tmod 2 = 0 ↔ a % 2 = 0 := by
  rw [← Int.dvd_iff_tmod_eq_zero, Int.dvd_iff_emod_eq_zero]
theorem bad_bad {next : List (List Int)} {P Q : List Int} {a : List Bool} {d rest : Int} (hq : ∀ v, v < next.length → prF2 Q v = prPv P v + d) (hd : ∀ z : Int, (z + d) % 2 ≠ 0 ↔ z % 2 ≠ rest) : BadW (kE next) (kS next a) (prF2 Q) ↔ ∃ w, BadAt (kE next) (kS next a) (prPv P) rest w := by
  constructor
  · rintro ⟨w, h1, h2⟩
    have hw := h2.fst.1.1
    refine ⟨w, ?_, ?_⟩
    · rw [← hd, ← hq w hw]; exact fun e => h1 ((tmod2' _).2 e)
    · exact h2.sub fun x hx => ⟨hx.1, by have := hx.2; rw [hq w hw, hq x hx.1.1] at this; omega⟩
  · rintro ⟨w, h1, h2⟩
    have hw := h2.fst.1.1
    refine ⟨w, ?_, ?_⟩
    · intro e
      have := (tmod2' _).1 e
      rw [hq w hw] at this
      exact (hd _).2 h1 this
    · exact h2.sub fun x hx => ⟨hx.1, by rw [hq w hw, hq x hx.1.1]; have := hx.2; omega⟩
open Classical in
theorem ev_par {next : List (List Int)} {P Q : List Int} {a from_ : List Bool} {d rest : Int} (ha : a = reachL (nG next) from_) (hq : ∀ v, v < next.length → prF2 Q v = prPv P v + d) (hd : ∀ z : Int, (z + d) % 2 ≠ 0 ↔ z % 2 ≠ rest) : evB next Q a = parB next P from_ rest := by
  subst ha
  unfold evB parB
  exact decide_eq_decide.2 (not_congr (bad_bad hq hd))
theorem ev_par0 {next : List (List Int)} {P : List Int} {from_ : List Bool} : evB next P (reachL (nG next) from_) = parB next P from_ 0 :=
  ev_par (d := 0) rfl (fun v _ => by rw [Int.add_zero]; rfl) fun z => by rw [Int.add_zero]
open Classical in
theorem reach_fol {F : G} (h : F.next.length = F.owner.length) (from_ : List Bool) : reachL F from_ = reachL (nG F.next) from_ := by
  unfold reachL
  rw [nG_len, h]
  exact tab_congr fun v _ => decide_eq_decide.2 (reach_nG h).symm
theorem mayP_eq (g : G) (P : List Int) : mayP g P = (decide (mayE g = 0) && mayQ P g.owner.length) := by
  have e : (fun p : Int => decide (0 ≤ p) && decide (p < 6)) = okPr := rfl
  unfold mayP mayQ
  rw [e, Bool.and_assoc, Bool.and_comm (decide _) (P.all okPr)]

theorem r9_EvenN (next : List (List Int)) (hl : next.length ≤ 17592186044416) (hr : ∀ l ∈ next, l.length ≤ 1000000000) (P : List Int) (from_ : List Bool) :
    Pure Try.prog 22 [.ro false (rows next), .ro false (ints P), .ro false (bools from_)] (.bool (mayN next && decide (P.length = next.length) && parB next P from_ 0)) := by
  have sM := r9_mayN next hl (fun l h => Nat.le_trans (hr l h) (by decide))
  intro h
  refine AC.body Θ_ok Try.func22 rfl rfl (Nat.le_of_ble_eq_true rfl) ?_
  refine AW.seq fun _ k1 => AW.region [] Θ_ok ?_
  simp
  refine k1 _ ?_
  refine AW.seq fun _ k1 => ?_
  cases hm : mayN next with
  | false =>
    rw [hm] at sM
    refine AW.seq fun _ k2 => AW.regionAt 2 [] Θ_ok fun B hB => ?_
    simp
    refine sM.use (by simp) ?_
    refine hB _ ?_
    clear hB B
    simp
    refine k2 _ ?_
    refine AW.cond true (by simp [Int.natCast_inj]) (fun _ => ?_) (fun h => by cases h)
    refine AW.seq fun _ kr => AW.region [] Θ_ok ?_
    simp
    refine kr _ (AW.ret ?_)
    simp [Try.f22]
    exact Fin.refl ⟨rfl, rfl⟩
  | true =>
    rw [hm] at sM
    have ok := mayN_ok hm hr
    by_cases hP : P.length = next.length
    · have sP := r9_Parity next ok P hP from_ 0
      rw [decide_eq_true hP]
      generalize parB next P from_ 0 = res at *
      refine AW.seq fun _ k2 => AW.regionAt 2 [] Θ_ok fun B hB => ?_
      simp
      refine sM.use (by simp) ?_
      refine hB _ ?_
      clear hB B
      simp [hP]
      refine k2 _ ?_
      refine AW.cond false (by simp [Int.natCast_inj]) (fun h => by cases h) (fun _ => ?_)
      refine AW.skip ?_
      simp
      refine k1 _ ?_
      refine AW.seq fun _ kr => AW.regionAt 4 [] Θ_ok fun B hB => ?_
      simp
      refine sP.use (by simp) ?_
      refine hB _ ?_
      clear hB B
      simp
      refine kr _ (AW.ret ?_)
      simp [Try.f22]
      exact Fin.refl ⟨by simp [hm, hP], rfl⟩
    · have hP' : ¬ (P.length : Int) = (next.length : Int) := by omega
      rw [decide_eq_false hP]
      refine AW.seq fun _ k2 => AW.regionAt 2 [] Θ_ok fun B hB => ?_
      simp
      refine sM.use (by simp) ?_
      refine hB _ ?_
      clear hB B
      simp [hP, hP']
      refine k2 _ ?_
      refine AW.cond true (by simp [Int.natCast_inj, hP]) (fun _ => ?_) (fun h => by cases h)
      refine AW.seq fun _ kr => AW.region [] Θ_ok ?_
      simp
      refine kr _ (AW.ret ?_)
      simp [Try.f22]
      exact Fin.refl ⟨rfl, rfl⟩

theorem proof_Wins (g : G) (hf : g.fits) (P : List Int) (hP : P.length ≤ 1152921504606846976) (who : Int) (to_ : List Int) (from_ : List Bool) : Pure Try.prog 20 [g.av, .ro false (ints P), .int .i64 who, .ro false (ints to_), .ro false (bools from_)] (.bool (winsB g P who to_ from_)) := by
  have sQ := proof_mayPrio P g.owner.length hP
  have sG := graph_May g hf
  have sF := graph_Follow g hf who to_
  intro h
  refine AC.body Θ_ok Try.func20 rfl rfl (Nat.le_of_ble_eq_true rfl) ?_
  refine AW.seq fun _ k1 => AW.region [] Θ_ok ?_
  simp
  refine k1 _ ?_
  refine AW.seq fun _ k1 => ?_
  by_cases hm : mayE g = 0
  · have h2 := (may_ok hm).2.1
    have h3 := (may_ok hm).1
    cases hq : mayQ P g.owner.length with
    | false =>
      rw [hq] at sQ
      have hres : winsB g P who to_ from_ = false := by
        unfold winsB
        rw [mayP_eq, hq]; simp
      refine AW.seq fun _ k2 => AW.regionAt 2 [] Θ_ok fun B hB => ?_
      simp
      refine sG.use (by simp [G.av]) ?_
      refine hB _ ?_
      clear hB B
      refine vcOps_split 7 fun B hB => ?_
      simp [hm]
      refine sQ.use (by simp) ?_
      refine hB _ ?_
      clear hB B
      simp
      refine k2 _ ?_
      refine AW.cond true (by simp [Int.natCast_inj]) (fun _ => ?_) (fun h => by cases h)
      refine AW.seq fun _ kr => AW.region [] Θ_ok ?_
      simp
      refine kr _ (AW.ret ?_)
      simp [Try.f20]
      exact Fin.refl ⟨by rw [hres], rfl⟩
    | true =>
    rw [hq] at sQ
    have hm0 : mayP g P = true := by rw [mayP_eq, hq, decide_eq_true hm]; rfl
    have ok := mayP_ok hm0
    have hlen := ok.len
    by_cases hw : who = 0 ∨ who = 1
    · have hw' : (who != 0 && who != 1) = false := by rcases hw with rfl | rfl <;> rfl
      have hmF : mayE (folG g who to_) = 0 := waysG_may hm _
      have fF : (folG g who to_).fits := waysG_fits hf _
      obtain ⟨f1, f2⟩ := fol_len (who := who) (to_ := to_) hm
      have eA : waysA g (followP g who to_) = .agg [.ro false (ints (folG g who to_).owner), .ro true (rows (folG g who to_).next)] := by
        rw [waysA, if_pos hm, folG, waysG_eq hm]
      rw [eA] at sF
      have sR := graph_Reach (folG g who to_) fF from_
      rw [reachA, if_pos hmF] at sR
      have big := big_of_may hmF
      have lR : (reachL (folG g who to_) from_).length = g.owner.length := by rw [← f1]; exact length_tab _ _
      have sY := proof_even (folG g who to_).next big (tnY P (upD who) P.length) (by rw [tnY_len]; omega) (reachL (folG g who to_) from_) (by omega)
      rw [ev_par (P := P) (d := upD who) (rest := 1 - who) (reach_fol (by rw [f1, f2]) from_) (fun v hv => tn_get (by omega)) (fun z => by unfold upD; rcases hw with rfl | rfl <;> simp <;> omega)] at sY
      have hno : ∀ v, v < g.owner.length → stuckB g who to_ from_ v → winsB g P who to_ from_ = false := fun v hv k => by
        unfold winsB
        have : ¬ ∀ v, v < g.owner.length → ¬ stuckB g who to_ from_ v := fun q => q v hv k
        simp [this]
      have hyes : (∀ v, v < g.owner.length → ¬ stuckB g who to_ from_ v) → winsB g P who to_ from_ = parB (folG g who to_).next P from_ (1 - who) := fun k => wins_par hm0 hw k
      have hst : ∀ v, stuckB g who to_ from_ v ↔ hasN (reachL (folG g who to_) from_) v = true ∧ ow g v = who ∧ nx (folG g who to_) v = [] := fun v => Iff.rfl
      generalize winsB g P who to_ from_ = res at *
      generalize parB (folG g who to_).next P from_ (1 - who) = par at *
      generalize reachL (folG g who to_) from_ = RE at *
      generalize folG g who to_ = F at *
      have r1 : 0 < 1 := by omega
      refine AW.seqTo ⟨92, [(1, .ro false (ints P)), (2, .int .i64 who), (3, .ro false (ints to_)), (4, .ro false (bools from_)), (5, .rop [.ro false (ints g.owner), .ro false (rows g.next)]), (34, .bool false)], h⟩ (fun _ k2 => ?_) ?_
      · rcases hw with rfl | rfl
        all_goals
          refine AW.regionAt 2 [] Θ_ok fun B hB => ?_
          simp
          refine sG.use (by simp [G.av]) ?_
          refine hB _ ?_
          clear hB B
          refine vcOps_split 7 fun B hB => ?_
          simp [hm]
          refine sQ.use (by simp) ?_
          refine hB _ ?_
          clear hB B
          simp
          exact k2 _ (GStep.eq (by simp) (subH.refl _))
      refine AW.cond false (by simp [Int.natCast_inj]) (fun h => by cases h) (fun _ => ?_)
      refine AW.skip ?_
      simp
      refine k1 _ ?_
      refine AW.seq fun _ k3 => AW.regionAt 4 [11] Θ_ok fun B hB => ?_
      simp
      refine sF.use (by simp [G.av]) ?_
      refine hB _ ?_
      clear hB B
      simp [newA]
      refine fun o ho => ?_
      refine k3 _ ?_
      refine AW.box 11 rfl (upd_same _ _ _) ?_
      simp only [upd_upd_none ho]
      refine AW.seq fun _ k4 => AW.regionAt 3 [] Θ_ok fun B hB => ?_
      simp
      refine sR.use (by simp [G.av]) ?_
      refine hB _ ?_
      clear hB B
      simp
      refine k4 _ ?_
      refine AW.seq fun _ k4 => AW.region [44] Θ_ok ?_
      simp
      refine ⟨by omega, fun q hq0 => k4 _ ?_⟩
      rw [replicate_tab, flat_tab (fun _ _ => rfl), ← replicate_tab]
      have hb0 : (⟨List.replicate P.length (.int .i64 0), 3, 1, true⟩ : Ob) = obTd (tnY P (upD who) 0) true := by
        rw [tnY_zero]; simp [obTd, ints]
      rw [hb0]
      have hsub : ∀ X, subH h (upd h q (some X)) := fun X y z hy => by
        have : y ≠ q := fun e => by rw [e, hq0] at hy; cases hy
        rw [upd_ne _ _ this]; exact hy
      refine AW.seq fun _ k5 => ?_
      refine AW.seq fun _ k6 => AW.region [] Θ_ok ?_
      simp
      refine k6 _ ?_
      refine AW.block ?_
      refine AW.loopI (X := Nat) (fun x => x ≤ P.length ∧ ∀ v, v < x → ¬ stuckB g who to_ from_ v) (fun x => ⟨92, [(2, .int .i64 who), (11, .rop [.ro false (ints F.owner), .ro true (rows F.next)]), (12, .ro true (bools RE)), (13, .mu q P.length), (45, .ro false (ints P)), (46, .int .i64 P.length), (47, .int .i64 x)], upd h q (some (obTd (tnY P (upD who) x) true))⟩) (fun x => P.length - x) 0 ⟨Nat.zero_le _, fun v hv => absurd hv (Nat.not_lt_zero _)⟩ (GStep.eq (by simp) (subH.refl _)) fun x hx => ?_
      obtain ⟨hx, hno2⟩ := hx
      have hqq : upd h q (some (obTd (tnY P (upD who) x) true)) q = some (obTd (tnY P (upD who) x) true) := upd_same _ _ _
      refine AW.seq fun _ k7 => AW.region [] Θ_ok ?_
      simp
      refine k7 _ ?_
      by_cases hlt : x < P.length
      · have inc := wrap_succ (show x < 9223372036854775807 by omega)
        have hlo : x < g.owner.length := by omega
        have hxR : x < RE.length := by omega
        have hxF : x < F.next.length := by omega
        have hxO : x < F.owner.length := by rw [f1]; exact hlo
        have hR := get_hasN hxR
        have hS := hst x
        have eo : ow g x = F.owner[x] := by simp [hlo, f1]
        have en : nx F x = F.next[x] := by simp [hxF]
        rw [eo, en] at hS
        have nxt : ¬ stuckB g who to_ from_ x → ∀ v, v < x + 1 → ¬ stuckB g who to_ from_ v := fun q v hv => by
          by_cases e : v = x
          · subst e; exact q
          · exact hno2 v (by omega)
        have dS : Decidable (stuckB g who to_ from_ x) := Classical.propDecidable _
        have hPx := ok.lo x
        have hPx5 := ok.hi x
        have ePx : P[x] = fI P x := by simp [fI, hlt]
        have ePv : prPv P x = fI P x := rfl
        have hs1 := mapi_set (tnY P (upD who) x) x (fI P x)
        have st := tnY_set P (upD who) x
        rw [ePv] at st
        have hs2 := mapi_set ((tnY P (upD who) x).set x (fI P x)) x (fI P x + 1)
        have e2 : ((tnY P (upD who) x).set x (fI P x)).set x (fI P x + 1) = (tnY P (upD who) x).set x (fI P x + 1) := List.set_set ..
        rw [e2] at hs2
        obtain ⟨pv, hpv⟩ : ∃ pv, fI P x = pv := ⟨_, rfl⟩
        rw [hpv] at hPx hPx5 ePx hs1 st hs2
        have wp : IntKind.i64.wrap (pv + 1) = pv + 1 := wrap_id (by omega) (by omega)
        obtain ⟨M1, hM1⟩ : ∃ M1, M1 = (tnY P (upD who) x).set x pv := ⟨_, rfl⟩
        have lM : M1.length = P.length := by rw [hM1, List.length_set, tnY_len]
        have gM : M1[x]? = some pv := by rw [hM1]; rw [List.getElem?_set_self (by rw [tnY_len]; exact hlt)]
        rw [← hM1] at hs1 hs2
        have hq1 : upd h q (some (obTd M1 true)) q = some (obTd M1 true) := upd_same _ _ _
        refine AW.seq fun _ k8 => AW.cond true (by simp [Int.natCast_inj, hlt]) (fun _ => ?_) (fun h => by cases h)
        refine AW.skip ?_
        simp
        refine k8 _ ?_
        refine AW.seq fun _ k9 => ?_
        refine AW.block ?_
        refine AW.seq fun _ k10 => AW.region [] Θ_ok ?_
        simp [hlt, ePx]
        refine k10 _ ?_
        refine AW.seq fun _ k12 => ?_
        refine AW.seqTo ⟨92, [(2, .int .i64 who), (11, .rop [.ro false (ints F.owner), .ro true (rows F.next)]), (12, .ro true (bools RE)), (13, .mu q P.length), (14, .int .i64 x), (15, .int .i64 pv), (45, .ro false (ints P)), (46, .int .i64 P.length), (47, .int .i64 x), (73, .bool (decide (stuckB g who to_ from_ x)))], upd h q (some (obTd (tnY P (upD who) x) true))⟩ (fun _ k11 => ?_) ?_
        · cases hb : hasN RE x with
          | false =>
            have hns : ¬ stuckB g who to_ from_ x := fun q => by have := (hS.1 q).1; rw [hb] at this; cases this
            have ed := decide_eq_false hns
            refine AW.region [] Θ_ok ?_
            simp [hxR, hR, hb]
            exact k11 _ (GStep.eq (by simp [ed]) (subH.refl _))
          | true =>
            by_cases ho : F.owner[x] = who
            · by_cases hl : F.next[x] = []
              · have hl0 : F.next[x].length = 0 := by rw [hl]; rfl
                have hns : stuckB g who to_ from_ x := hS.2 ⟨hb, ho, hl⟩
                have ed := decide_eq_true hns
                refine AW.region [] Θ_ok ?_
                simp [hxR, hR, hb, hxO, ho, hxF, hl0, hl]
                exact k11 _ (GStep.eq (by simp [ed]) (subH.refl _))
              · have hl0 : ¬ F.next[x].length = 0 := fun q => hl (List.length_eq_zero_iff.1 q)
                have hns : ¬ stuckB g who to_ from_ x := fun q => hl (hS.1 q).2.2
                have ed := decide_eq_false hns
                refine AW.region [] Θ_ok ?_
                simp [hxR, hR, hb, hxO, ho, hxF, hl0, hl]
                exact k11 _ (GStep.eq (by simp [hl0, hl, ed]) (subH.refl _))
            · have hns : ¬ stuckB g who to_ from_ x := fun q => ho (hS.1 q).2.1
              have ed := decide_eq_false hns
              refine AW.region [] Θ_ok ?_
              simp [hxR, hR, hb, hxO, ho]
              exact k11 _ (GStep.eq (by simp [ed]) (subH.refl _))
        by_cases hk : stuckB g who to_ from_ x
        · rw [decide_eq_true hk]
          refine AW.cond true (by simp [Int.natCast_inj]) (fun _ => ?_) (fun h => by cases h)
          refine AW.seq fun _ kr => AW.region [] Θ_ok ?_
          simp
          refine kr _ (AW.ret ?_)
          simp [Try.f20]
          exact Fin.gv (GV.sub (hsub _)) (Fin.refl ⟨by rw [hno x hlo hk], rfl⟩)
        rw [decide_eq_false hk]
        refine AW.cond false (by simp [Int.natCast_inj]) (fun h => by cases h) (fun _ => ?_)
        refine AW.skip ?_
        simp
        refine k12 _ ?_
        refine AW.seq fun _ k10 => AW.region [] Θ_ok ?_
        simp [hqq, tnY_len, hlt, hs1, obTd_mk]
        refine ⟨hlt, k10 _ ?_⟩
        refine AW.seq fun _ k10 => AW.region [] Θ_ok ?_
        simp
        refine k10 _ ?_
        by_cases w0 : who = 0
        · have hd : upD who = 1 := by rw [w0]; rfl
          rw [hd] at st hs2
          rw [st] at hs2
          have hdr : List.drop x (ints M1) = .int .i64 pv :: List.drop (x + 1) (ints M1) := by
            have hh : x < (ints M1).length := by simp [lM, hlt]
            rw [List.drop_eq_getElem_cons hh]
            congr 1
            have := gM
            rw [List.getElem?_eq_getElem (by omega)] at this
            simp [ints, Option.some.inj this]
          refine AW.cond true (by simp [Int.natCast_inj, w0]) (fun _ => ?_) (fun h => by cases h)
          refine AW.region [] Θ_ok ?_
          simp [hq1, lM, hlt, hdr, wp, hs2, obTd_mk]
          refine ⟨hlt, k9 _ ?_⟩
          refine AW.region [] Θ_ok ?_
          simp
          exact ⟨x + 1, ⟨hlt, nxt hk⟩, by omega, GStep.eq (by simp [inc]) (by rw [hd]; exact subH.refl _)⟩
        · have hd : upD who = 0 := by unfold upD; rw [if_neg w0]
          rw [hd, Int.add_zero, ← hd, ← hM1] at st
          refine AW.cond false (by simp [Int.natCast_inj, w0]) (fun h => by cases h) (fun _ => ?_)
          refine AW.skip ?_
          simp
          refine k9 _ ?_
          rw [st, ← hd]
          refine AW.region [] Θ_ok ?_
          simp
          exact ⟨x + 1, ⟨hlt, nxt hk⟩, by omega, GStep.eq (by simp [inc]) (subH.refl _)⟩
      · obtain rfl : x = P.length := by omega
        have lY : (tnY P (upD who) P.length).length = P.length := tnY_len _ _ _
        generalize tnY P (upD who) P.length = Y at *
        refine AW.freeze 13 (o := q) (n := P.length) (x := obTd Y true) true (by simp) hqq (fun _ => rfl) rfl (by simp [lY]) (fun u hu => by obtain ⟨z, _, rfl⟩ := List.mem_map.1 hu; rfl) ?_
        simp only [upd_upd, upd_none_id hq0, obTd_cells]
        refine AW.seq fun _ k7 => AW.cond false (by simp [Int.natCast_inj]) (fun h => by cases h) (fun _ => ?_)
        refine AW.exit ?_
        simp
        refine k5 _ ?_
        refine AW.seq fun _ kr => AW.regionAt 5 [] Θ_ok fun B hB => ?_
        simp
        refine sY.use (by simp) ?_
        refine hB _ ?_
        clear hB B
        simp
        refine kr _ (AW.ret ?_)
        simp [Try.f20]
        exact Fin.refl ⟨by rw [hyes (by rw [← hlen]; exact hno2)], rfl⟩
    · have w0 : ¬ who = 0 := fun e => hw (.inl e)
      have w1 : ¬ who = 1 := fun e => hw (.inr e)
      have hres : winsB g P who to_ from_ = false := by
        unfold winsB
        rw [decide_eq_false hw]; simp
      refine AW.seq fun _ k2 => AW.regionAt 2 [] Θ_ok fun B hB => ?_
      simp
      refine sG.use (by simp [G.av]) ?_
      refine hB _ ?_
      clear hB B
      refine vcOps_split 7 fun B hB => ?_
      simp [hm]
      refine sQ.use (by simp) ?_
      refine hB _ ?_
      clear hB B
      simp [w0, w1]
      refine k2 _ ?_
      refine AW.cond true (by simp [Int.natCast_inj, w0, w1]) (fun _ => ?_) (fun h => by cases h)
      refine AW.seq fun _ kr => AW.region [] Θ_ok ?_
      simp
      refine kr _ (AW.ret ?_)
      simp [Try.f20]
      exact Fin.refl ⟨by rw [hres], rfl⟩
  · have hres : winsB g P who to_ from_ = false := by
      unfold winsB
      rw [mayP_eq, decide_eq_false hm]; simp
    refine AW.seq fun _ k2 => AW.regionAt 2 [] Θ_ok fun B hB => ?_
    simp
    refine sG.use (by simp [G.av]) ?_
    refine hB _ ?_
    clear hB B
    simp [hm]
    refine k2 _ ?_
    refine AW.cond true (by simp [Int.natCast_inj, hm]) (fun _ => ?_) (fun h => by cases h)
    refine AW.seq fun _ kr => AW.region [] Θ_ok ?_
    simp
    refine kr _ (AW.ret ?_)
    simp [Try.f20]
    exact Fin.refl ⟨by rw [hres], rfl⟩
end Go.Par
