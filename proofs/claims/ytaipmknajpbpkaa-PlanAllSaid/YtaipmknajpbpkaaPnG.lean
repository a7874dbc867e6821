/- plan.Steps. -/
import Derived.Test.YtaipmknajpbpkaaPnF
import Derived.Test.YtaipmknajpbpkaaFoB
set_option linter.unusedSimpArgs false
set_option linter.unusedVariables false
set_option maxRecDepth 8000
set_option maxHeartbeats 4000000
namespace Go.Par
open Go.Proofs

theorem AW.nilCases {P : Program} {c : Code} {Q : Exit → St → Prop} {S : St} (t : Nat) {xs : List AV} (hv : get S.tm t = .ro false xs) (h1 : xs = [] → AW P c Q ⟨S.n, (t, .nils) :: S.tm, S.h⟩) (h2 : AW P c Q ⟨S.n, (t, .ro true xs) :: S.tm, S.h⟩) : AW P c Q S := by
  intro φ w a H T
  have V := T.val t
  rw [hv] at V
  have key : VR φ (own φ S.h) w (.ro true xs) (a.tmps.getD t undef) ∨ xs = [] ∧ VR φ (own φ S.h) w .nils (a.tmps.getD t undef) := by
    generalize a.tmps.getD t undef = v at V
    cases V with
    | roNil _ a c ha hc =>
      cases a with
      | none => exact .inr ⟨rfl, by rw [hc rfl]; exact .nils⟩
      | some a => exact .inl (.roNil true (some a) c (fun _ => rfl) (fun e => by cases e))
    | ro _ xs n b off c s f hn hc hB hb hs hcell hval => exact .inl (.ro true xs n b off c s f hn hc hB hb hs hcell hval)
  have T' : ∀ u, VR φ (own φ S.h) w u (a.tmps.getD t undef) → TR φ (own φ S.h) w S.n ((t, u) :: S.tm) a := fun u hu => by
    refine ⟨T.defers, T.size, fun t' => ?_⟩
    simp only [get]
    by_cases e : t = t'
    · subst e; rw [if_pos rfl]; exact hu
    · rw [if_neg e]; exact T.val t'
  rcases key with k | ⟨e, k⟩
  · exact h2 φ w a H (T' _ k)
  · exact h1 e φ w a H (T' _ k)

def obRw (L : List (List Int)) (nn : Bool) : Ob := ⟨rows L, 22, 1, nn⟩
@[simp] theorem obRw_cells (L : List (List Int)) (nn : Bool) : (obRw L nn).cells = rows L := rfl
@[simp] theorem obRw_ty (L : List (List Int)) (nn : Bool) : (obRw L nn).ty = 22 := rfl
@[simp] theorem obRw_sz (L : List (List Int)) (nn : Bool) : (obRw L nn).sz = 1 := rfl
@[simp] theorem obRw_nn (L : List (List Int)) (nn : Bool) : (obRw L nn).nn = nn := rfl

def pnM (TL : List (List Int)) (goals : List (List Bool)) (v m : Nat) : List S4 := tab m fun mem => ⟨v, mem, (TL.getD mem []).getD v 0, (thenN goals v mem : Nat)⟩
def pnV (g : G) (Z : List Bool) (TL : List (List Int)) (goals : List (List Bool)) : Nat → List S4
  | 0 => []
  | v + 1 => pnV g Z TL goals v ++ if hasN Z v = true ∧ ow g v = 1 then pnM TL goals v goals.length else []
def pnN (g : G) (Z : List Bool) (TL : List (List Int)) (goals : List (List Bool)) (v m : Nat) : List S4 := pnV g Z TL goals v ++ pnM TL goals v m
theorem pnN_zero (g : G) (Z : List Bool) (TL : List (List Int)) (goals : List (List Bool)) (v : Nat) : pnN g Z TL goals v 0 = pnV g Z TL goals v := by simp [pnN, pnM, tab]
theorem pnN_succ (g : G) (Z : List Bool) (TL : List (List Int)) (goals : List (List Bool)) (v m : Nat) : pnN g Z TL goals v (m + 1) = pnN g Z TL goals v m ++ [⟨v, m, (TL.getD m []).getD v 0, (thenN goals v m : Nat)⟩] := by
  unfold pnN pnM; rw [tab_succ, List.append_assoc]
theorem pnM_len (TL : List (List Int)) (goals : List (List Bool)) (v m : Nat) : (pnM TL goals v m).length = m := length_tab _ _
theorem pnV_len (g : G) (Z : List Bool) (TL : List (List Int)) (goals : List (List Bool)) : ∀ v, (pnV g Z TL goals v).length ≤ v * goals.length
  | 0 => by simp [pnV]
  | v + 1 => by
    have := pnV_len g Z TL goals v
    rw [pnV, List.length_append, Nat.succ_mul]
    split
    · rw [pnM_len]; omega
    · simp; omega
def planTL (g : G) (A : List (List Bool)) (goals : List (List Bool)) (Z : List Bool) : List (List Int) := goals.map fun row => planL g A row Z
def pnL (g : G) (A E : List (List Bool)) : List S4 := pnV g (solveL g A E).1 (planTL g (rowsL g A) (rowsL g E) (solveL g A E).1) (rowsL g E) g.owner.length
def pnOk (g : G) (A E : List (List Bool)) : Prop := mayE g = 0 ∧ A.length ≤ 4 ∧ E.length ≤ 4
instance (g : G) (A E : List (List Bool)) : Decidable (pnOk g A E) := by unfold pnOk; exact inferInstance
def pnA (g : G) (A E : List (List Bool)) : AV := if pnOk g A E then .ro false (avS (pnL g A E)) else .nils

theorem GV.wkG {u u' : AV} {h : Heap} (hw : wk u u') : GV u h u' h := fun φ _ _ H V => ⟨φ, Ext.refl φ, H, V.wk hw, fun _ hb => hb⟩
theorem none_ofF2 {h : Heap} {o q : Nat} {x : Ob} (e : upd h o (some x) q = none) : h q = none := by
  unfold upd at e; split at e
  · exact absurd e (by simp)
  · exact e
structure PnX where
  o : Nat
  nn : Bool
  x : Nat

theorem plan_Steps (g : G) (hf : g.fits) (A E : List (List Bool)) : Pure Try.prog 14 [g.av, .ro false (bools2 A), .ro false (bools2 E)] (pnA g A E) := by
  have sR := gr1_Region g hf A E
  have sE := plan_rows g hf E
  have sA := plan_rows g hf A
  intro h
  refine AC.body Θ_ok Try.func14 rfl rfl (Nat.le_of_ble_eq_true rfl) ?_
  refine AW.seq fun _ k1 => AW.region [] Θ_ok ?_
  simp
  refine k1 _ ?_
  by_cases hok : pnOk g A E
  · have hfin : pnA g A E = .ro false (avS (pnL g A E)) := if_pos hok
    obtain ⟨hm, hA4, hE4⟩ := hok
    rw [regionA, if_pos ⟨hm, hA4, hE4⟩] at sR
    obtain ⟨Z, hZ⟩ : ∃ Z, Z = (solveL g A E).1 := ⟨_, rfl⟩
    have lZ : Z.length = g.owner.length := by rw [hZ]; exact (solve_spec hm A E).2.1.1
    rw [← hZ] at sR
    have hn3 := (may_ok hm).1
    have lA := rowsL_le g A hA4
    have lE := rowsL_le g E hE4
    have pA := rowsL_pos g A
    have eL : pnL g A E = pnV g Z (planTL g (rowsL g A) (rowsL g E) Z) (rowsL g E) g.owner.length := by rw [hZ]; rfl
    rw [eL] at hfin
    generalize rowsL g A = A' at *
    generalize rowsL g E = goals at *
    obtain ⟨TL, hTL⟩ : ∃ TL, TL = planTL g A' goals Z := ⟨_, rfl⟩
    have lTL : TL.length = goals.length := by rw [hTL]; simp [planTL]
    have gTL : ∀ i (h : i < goals.length), TL[i]? = some (planL g A' goals[i] Z) := fun i h => by rw [hTL]; simp [planTL, h]
    rw [← hTL] at hfin eL
    have tTL : ∀ l ∈ TL, l.length = g.owner.length := fun l hl => by
      rw [hTL] at hl
      obtain ⟨r, _, rfl⟩ := List.mem_map.1 hl
      exact planL_len ..
    refine AW.seq fun _ k1 => AW.regionAt 4 [] Θ_ok fun B hB => ?_
    simp
    refine sR.use (by simp [G.av]) ?_
    refine hB _ ?_
    clear hB B
    simp
    refine k1 _ ?_
    refine AW.nilCases 7 rfl (fun e0 => ?_) ?_
    · have Z0 : Z = [] := by simpa using e0
      have n0 : g.owner.length = 0 := by rw [← lZ, Z0]; rfl
      rw [n0] at hfin
      refine AW.seq fun _ k1 => ?_
      refine AW.seq fun _ k2 => AW.region [] Θ_ok ?_
      simp
      refine k2 _ ?_
      refine AW.cond true (by simp [Int.natCast_inj]) (fun _ => ?_) (fun h => by cases h)
      refine AW.seq fun _ kr => AW.region [] Θ_ok ?_
      simp
      refine kr _ (AW.ret ?_)
      simp [Try.f14]
      exact Fin.gv (GV.wkG (u := .nils) (u' := .ro false []) (by simp)) (Fin.refl ⟨by rw [hfin]; rfl, rfl⟩)
    refine AW.seq fun _ k1 => ?_
    refine AW.seq fun _ k2 => AW.region [] Θ_ok ?_
    simp
    refine k2 _ ?_
    refine AW.cond false (by simp [Int.natCast_inj]) (fun h => by cases h) (fun _ => ?_)
    refine AW.skip ?_
    simp
    refine k1 _ ?_
    refine AW.weaken 7 (.ro false (bools Z)) rfl (.inl (by simp)) ?_
    refine AW.seq fun _ k1 => AW.regionAt 3 [] Θ_ok fun B hB => ?_
    simp
    refine sE.use (by simp [G.av]) ?_
    refine hB _ ?_
    clear hB B
    simp
    refine k1 _ ?_
    refine AW.seq fun _ k1 => AW.region [] Θ_ok ?_
    simp
    refine k1 _ ?_
    refine AW.mine 9 22 1 rfl fun o ho => ?_
    simp only at ho ⊢
    refine AW.seqTo ⟨92, [(3, .rop [.ro false (ints g.owner), .ro false (rows g.next)]), (7, .ro false (bools Z)), (8, .ro false (bools2 goals)), (9, .ro false (rows TL))], h⟩ (fun _ k1 => ?_) ?_
    · refine AW.seq fun _ k2 => AW.region [] Θ_ok ?_
      simp
      refine k2 _ ?_
      refine AW.block ?_
      refine AW.loopI (X := PnX) (fun s => h s.o = none ∧ s.x ≤ goals.length) (fun s => ⟨92, [(1, .ro false (bools2 A)), (3, .rop [.ro false (ints g.owner), .ro false (rows g.next)]), (7, .ro false (bools Z)), (8, .ro false (bools2 goals)), (9, .mu s.o s.x), (26, .ro false (bools2 goals)), (27, .int .i64 goals.length), (28, .int .i64 s.x)], upd h s.o (some (obRw (TL.take s.x) s.nn))⟩) (fun s => goals.length - s.x) ⟨o, false, 0⟩ ⟨ho, Nat.zero_le _⟩ (GStep.eq (by simp) (subH.refl _)) ?_
      clear ho o
      rintro ⟨o, nn, x⟩ ⟨ho, hx⟩
      simp only at ho hx ⊢
      refine AW.seq fun _ k2 => AW.region [] Θ_ok ?_
      simp
      refine k2 _ ?_
      by_cases hlt : x < goals.length
      · have inc := wrap_succ (show x < 9223372036854775807 by omega)
        have gx := gTL x hlt
        have lx : (TL.take x).length = x := by rw [List.length_take]; omega
        have tk : TL.take (x + 1) = TL.take x ++ [planL g A' goals[x] Z] := by
          rw [List.take_succ_eq_append_getElem (by omega)]
          rw [List.getElem?_eq_getElem (by omega)] at gx
          rw [Option.some.inj gx]
        generalize hLx : TL.take x = L at *
        refine AW.seq fun _ k2 => AW.cond true (by simp [Int.natCast_inj, hlt]) (fun _ => ?_) (fun h => by cases h)
        refine AW.skip ?_
        simp
        refine k2 _ ?_
        refine AW.seq fun _ k2 => ?_
        refine AW.block ?_
        refine AW.seq fun _ k3 => AW.region [] Θ_ok ?_
        simp [hlt]
        refine k3 _ ?_
        obtain ⟨hh, hhh⟩ : ∃ hh, hh = upd h o (some (obRw L nn)) := ⟨_, rfl⟩
        rw [← hhh]
        have hho : hh o = some (obRw L nn) := by rw [hhh, upd_same]
        refine AW.seq fun _ k3 => AW.draw [38] 6 [0, 1] Θ_ok mixed (by kernel_rfl) (by kernel_rfl) ?_
        refine vcDraw_split 3 fun B hB => ?_
        simp [vcPre, vcTail, callA, isAlloc, isLoad, effOp, obl, obA, mkOK, valA]
        refine hB _ _ _ ?_
        clear hB B
        simp [vcPre, vcTail, callA, isAlloc, isLoad, effOp, obl, obA, mkOK, valA]
        refine ⟨_, sA.wk (by simp [G.av]), ?_⟩
        simp [newA]
        refine fun a ha => k3 _ ?_
        have sP := plan_plans (A := A') hf hm pA (by omega) lZ (h0 := hh) (a := a) ha goals[x]
        refine AW.seq fun _ k3 => AW.region [] Θ_ok ?_
        simp
        refine (sP.wk (by simp)).mono ?_
        rintro r h' ⟨q, N, rfl⟩
        refine k3 _ ?_
        obtain ⟨to, hto⟩ : ∃ to, to = planL g A' goals[x] Z := ⟨_, rfl⟩
        have lto : to.length = g.owner.length := by rw [hto]; exact planL_len ..
        rw [← hto] at tk ⊢
        have ha2 := PLH.ga N g A' Z to
        have hq2 := PLH.gq N g A' Z to
        have naq : a ≠ q := by have := N.nd; simp at this; exact this
        have gvq : GV (.mu q g.owner.length) (PLH hh a q g A' Z to) (.ro false (ints to)) (upd (PLH hh a q g A' Z to) q none) := GV.freeze (k := false) hq2 (fun e => by cases e) (by simp [lto]) (fun y hy => by obtain ⟨z, _, rfl⟩ := List.mem_map.1 hy; rfl) (by rw [flat_ints]; simp [List.take_of_length_le, lto])
        refine AW.ghost (GStep.cell (p := a) (j := 4) ha2 rfl gvq (by rw [upd_ne _ _ naq]; exact ha2) (by simp)) ?_
        have hd : upd (PLH hh a q g A' Z to) q none = HL hh [(a, obPl g A' Z (.mu q g.owner.length))] := HL.del (k := 1) N rfl
        simp only [obPl_cells, obPl_ty, obPl_sz, obPl_nn, hd]
        obtain ⟨H1, hH1⟩ : ∃ H1, H1 = upd hh a (some (obPl g A' Z (.ro false (ints to)))) := ⟨_, rfl⟩
        rw [show upd (HL hh [(a, obPl g A' Z (.mu q g.owner.length))]) a (some ⟨[AV.ro false (ints g.owner), .ro false (rows g.next), .ro false (bools2 A'), .ro false (bools Z), .mu q g.owner.length].set 4 (.ro false (ints to)), 67, 5, true⟩) = H1 by rw [hH1]; show upd (upd hh a _) a _ = _; rw [upd_upd]; rfl]
        have h1a : H1 a = some (obPl g A' Z (.ro false (ints to))) := by rw [hH1, upd_same]
        have nao : o ≠ a := fun e => by rw [e] at hho; rw [ha] at hho; cases hho
        have h1o : H1 o = some (obRw L nn) := by rw [hH1, upd_ne _ _ nao]; exact hho
        refine AW.region [] Θ_ok ?_
        simp [h1a, h1o, appendA, lx]
        refine ⟨rfl, ⟨by omega, by omega⟩, fun n' hn' => k2 _ ?_⟩
        refine AW.region [] Θ_ok ?_
        simp
        have hn0 : h n' = none := by
          rw [hH1] at hn'
          have e1 : n' ≠ a := fun e => by rw [e, upd_same] at hn'; cases hn'
          rw [upd_ne _ _ e1, hhh] at hn'
          exact none_ofF2 hn'
        refine ⟨⟨n', true, x + 1⟩, ⟨hn0, hlt⟩, by simp only; omega, GStep.eq (by simp [inc]) ?_⟩
        have eOb : (⟨List.take x (rows L) ++ [.ro false (ints to)], 22, 1, true⟩ : Ob) = obRw (TL.take (x + 1)) true := by
          rw [tk, List.take_of_length_le (by rw [List.length_map, lx]; exact Nat.le_refl _)]
          simp [obRw]
        rw [eOb]
        intro z X hz
        simp only at hz ⊢
        by_cases e1 : z = n'
        · subst e1; rw [upd_same] at hz ⊢; exact hz
        · rw [upd_ne _ _ e1] at hz ⊢
          have e2 : z ≠ o := fun e => by rw [e, ho] at hz; cases hz
          rw [upd_ne _ _ e2, hH1]
          have e3 : z ≠ a := fun e => by
            rw [e] at hz
            rw [hhh] at ha
            have := none_ofF2 ha
            rw [this] at hz; cases hz
          rw [upd_ne _ _ e3, hhh, upd_ne _ _ e2]; exact hz
      · obtain rfl : x = goals.length := by omega
        refine AW.seq fun _ k2 => AW.cond false (by simp [Int.natCast_inj]) (fun h => by cases h) (fun _ => ?_)
        refine AW.exit ?_
        simp
        rw [← lTL, List.take_length, lTL]
        have gl : (rows TL).length = goals.length := by simp [lTL]
        refine k1 _ (GStep.trans (GStep.freeze (t := 9) (n := goals.length) (k := false) (by simp) (upd_same _ _ _) (fun z => by cases z) rfl (by simp [lTL]) (fun u hu => by obtain ⟨z, _, rfl⟩ := List.mem_map.1 hu; rfl)) (GStep.eq (by simp) ?_))
        simp only
        rw [upd_upd, upd_none_id ho]; exact subH.refl _
    have wl := fun v => pnV_len g Z TL goals v
    refine AW.seq fun _ k1 => AW.region [] Θ_ok ?_
    simp
    refine k1 _ ?_
    refine AW.mine 13 37 4 rfl fun a ha => ?_
    simp only at ha ⊢
    have N1 : HN h [a] := HL.new (l := []) ⟨List.nodup_nil, fun o ho => by cases ho⟩ ha
    rw [show upd h a (some ⟨[], 37, 4, false⟩) = HL h [(a, obSt [] false)] from rfl]
    clear ha
    refine AW.seq fun _ k1 => ?_
    refine AW.seq fun _ k2 => AW.region [] Θ_ok ?_
    simp
    refine k2 _ ?_
    refine AW.block ?_
    refine AW.loopI (X := FoX) (fun s => HN h [s.o] ∧ s.x ≤ g.owner.length) (fun s => ⟨92, [(3, .rop [.ro false (ints g.owner), .ro false (rows g.next)]), (8, .ro false (bools2 goals)), (9, .ro false (rows TL)), (13, .mu s.o (pnV g Z TL goals s.x).length), (50, .ro false (bools Z)), (51, .int .i64 g.owner.length), (52, .int .i64 s.x)], HL h [(s.o, obSt (pnV g Z TL goals s.x) s.nn)]⟩) (fun s => g.owner.length - s.x) ⟨a, 0, false⟩ ⟨N1, Nat.zero_le _⟩ (GStep.eq (by simp [pnV, lZ]) (subH.refl _)) ?_
    clear N1 a
    rintro ⟨a, v, nn⟩ ⟨N, hx⟩
    simp only at N hx ⊢
    refine AW.seq fun _ k2 => AW.region [] Θ_ok ?_
    simp
    refine k2 _ ?_
    by_cases hlt : v < g.owner.length
    · have inc := wrap_succ (show v < 9223372036854775807 by omega)
      have eV : pnV g Z TL goals (v + 1) = pnV g Z TL goals v ++ if hasN Z v = true ∧ ow g v = 1 then pnM TL goals v goals.length else [] := rfl
      have eo : ow g v = g.owner[v] := by simp [ow, hlt]
      have hvZ : v < Z.length := by omega
      have ez : hasN Z v = Z[v] := by simp [hasN, hvZ]
      rw [eo, ez] at eV
      refine AW.seq fun _ k2 => AW.cond true (by simp [Int.natCast_inj, hlt]) (fun _ => ?_) (fun h => by cases h)
      refine AW.skip ?_
      simp
      refine k2 _ ?_
      refine AW.seq fun _ k2 => ?_
      refine AW.block ?_
      refine AW.seq fun _ k3 => AW.region [] Θ_ok ?_
      simp [hlt, hvZ]
      refine k3 _ ?_
      refine AW.seq fun _ k3 => ?_
      have hxv := wl v
      have hv4 : v * goals.length ≤ 3000 * 4 := Nat.mul_le_mul (by omega) lE
      by_cases hz : Z[v] = true
      · by_cases ho : g.owner[v] = 1
        · rw [if_pos ⟨hz, ho⟩] at eV
          refine AW.seq fun _ k4 => AW.region [] Θ_ok ?_
          simp [ho, hz, hlt]
          refine k4 _ ?_
          refine AW.cond false (by simp [Int.natCast_inj]) (fun h => by cases h) (fun _ => ?_)
          refine AW.skip ?_
          simp
          refine k3 _ ?_
          refine AW.seq fun _ k3 => AW.region [] Θ_ok ?_
          simp
          refine k3 _ ?_
          refine AW.block ?_
          refine AW.loopI (X := FoX) (fun s => HN h [s.o] ∧ s.x ≤ goals.length) (fun s => ⟨92, [(3, .rop [.ro false (ints g.owner), .ro false (rows g.next)]), (8, .ro false (bools2 goals)), (9, .ro false (rows TL)), (13, .mu s.o (pnN g Z TL goals v s.x).length), (14, .int .i64 v), (50, .ro false (bools Z)), (51, .int .i64 g.owner.length), (52, .int .i64 v), (68, .int .i64 goals.length), (69, .int .i64 s.x)], HL h [(s.o, obSt (pnN g Z TL goals v s.x) s.nn)]⟩) (fun s => goals.length - s.x) ⟨a, 0, nn⟩ ⟨N, Nat.zero_le _⟩ (GStep.eq (by simp [pnN_zero]) (by simp only [pnN_zero]; exact subH.refl _)) ?_
          clear N a nn
          rintro ⟨a, m, nn⟩ ⟨N, hmK⟩
          simp only at N hmK ⊢
          refine AW.seq fun _ k3 => AW.region [] Θ_ok ?_
          simp
          refine k3 _ ?_
          by_cases hlm : m < goals.length
          · have incm := wrap_succ (show m < 9223372036854775807 by omega)
            have eM := pnN_succ g Z TL goals v m
            have mTL : m < TL.length := by omega
            have gm : TL.getD m [] = TL[m] := by simp [mTL]
            have lm := tTL TL[m] (List.getElem_mem mTL)
            have vm : v < TL[m].length := by omega
            have gv : TL[m].getD v 0 = TL[m][v] := by simp [vm]
            rw [gm, gv] at eM
            have sT := plan_then goals v m hlm (by omega)
            have hlen : (pnN g Z TL goals v m).length ≤ 3000 * 4 + 4 := by unfold pnN; rw [List.length_append, pnM_len]; omega
            have ga := HL.at (h0 := h) (l := [(a, obSt (pnN g Z TL goals v m) nn)]) (k := 0) N.nd rfl
            have sn := obSt_snoc (pnN g Z TL goals v m) ⟨v, m, TL[m][v], (thenN goals v m : Nat)⟩ nn
            rw [← eM] at sn
            have lc := stC_len (pnN g Z TL goals v m)
            have lS2 : (pnN g Z TL goals v (m + 1)).length = (pnN g Z TL goals v m).length + 1 := by rw [eM, List.length_append]; rfl
            clear eM
            generalize thenN goals v m = t at *
            generalize hS2 : pnN g Z TL goals v (m + 1) = S2 at *
            generalize pnN g Z TL goals v m = S at *
            refine AW.seq fun _ k3 => AW.cond true (by simp [Int.natCast_inj, hlm]) (fun _ => ?_) (fun h => by cases h)
            refine AW.skip ?_
            simp
            refine k3 _ ?_
            refine AW.seq fun _ k3 => ?_
            refine AW.block ?_
            refine AW.seq fun _ k4 => AW.region [] Θ_ok ?_
            simp
            refine k4 _ ?_
            refine AW.draw [] 16 [6, 9] Θ_ok mixed (by kernel_rfl) (by kernel_rfl) ?_
            refine vcDraw_split 13 fun B hB => ?_
            simp [vcPre, vcTail, callA, isAlloc, isLoad, effOp, obl, obA, mkOK, valA, mTL, vm]
            refine hB _ _ _ ?_
            clear hB B
            refine vcPre_split 1 fun B hB => ?_
            simp [vcPre, vcTail, callA, isAlloc, isLoad, effOp, obl, obA, mkOK, valA]
            refine ⟨_, sT.wk (by simp), ?_⟩
            refine hB _ _ _ ?_
            clear hB B
            simp [vcPre, vcTail, callA, isAlloc, isLoad, effOp, obl, obA, mkOK, valA, ga, appendA]
            refine ⟨rfl, ⟨by rw [lc]; exact Nat.le_refl _, by omega, by omega⟩, fun n' hn' => k3 _ ?_⟩
            obtain ⟨he, N'⟩ := HL.ren (A' := obSt S2 true) (k := 0) N rfl hn'
            replace N' : HN h [n'] := N'
            rw [show (⟨List.take (S.length * 4) (stC S) ++ [AV.int IntKind.i64 (v : Int), AV.int IntKind.i64 (m : Int), AV.int IntKind.i64 TL[m][v], AV.int IntKind.i64 (t : Int)], 37, 4, true⟩ : Ob) = obSt S2 true from sn, he]
            refine AW.region [] Θ_ok ?_
            simp
            exact ⟨⟨n', m + 1, true⟩, ⟨N', by simp only; omega⟩, by simp only; omega, GStep.eq (by simp [incm, lS2, hS2]) (by simp only [hS2]; exact subH.refl _)⟩
          have hmm : m = goals.length := by omega
          subst hmm
          have full : pnN g Z TL goals v goals.length = pnV g Z TL goals (v + 1) := by rw [eV]; rfl
          refine AW.seq fun _ k3 => AW.cond false (by simp [Int.natCast_inj]) (fun h => by cases h) (fun _ => ?_)
          refine AW.exit ?_
          simp
          refine k2 _ ?_
          refine AW.region [] Θ_ok ?_
          simp
          exact ⟨⟨a, v + 1, nn⟩, ⟨N, by simp only; omega⟩, by simp only; omega, GStep.eq (by simp [inc, full]) (by simp only [full]; exact subH.refl _)⟩
        · rw [if_neg (fun z => ho z.2), List.append_nil] at eV
          refine AW.seq fun _ k4 => AW.region [] Θ_ok ?_
          simp [ho, hz, hlt]
          refine k4 _ ?_
          refine AW.cond true (by simp [Int.natCast_inj, ho]) (fun _ => ?_) (fun h => by cases h)
          refine AW.exit ?_
          simp
          refine k2 _ ?_
          refine AW.region [] Θ_ok ?_
          simp
          exact ⟨⟨a, v + 1, nn⟩, ⟨N, by simp only; omega⟩, by simp only; omega, GStep.eq (by simp [inc, eV]) (subH_of_eq (by rw [eV]))⟩
      · rw [if_neg (fun z => hz z.1), List.append_nil] at eV
        refine AW.seq fun _ k4 => AW.region [] Θ_ok ?_
        simp [hz]
        refine k4 _ ?_
        refine AW.cond true (by simp [Int.natCast_inj, hz]) (fun _ => ?_) (fun h => by cases h)
        refine AW.exit ?_
        simp
        refine k2 _ ?_
        refine AW.region [] Θ_ok ?_
        simp
        exact ⟨⟨a, v + 1, nn⟩, ⟨N, by simp only; omega⟩, by simp only; omega, GStep.eq (by simp [inc, eV]) (subH_of_eq (by rw [eV]))⟩
    have hxx : v = g.owner.length := by omega
    subst hxx
    refine AW.seq fun _ k2 => AW.cond false (by simp [Int.natCast_inj]) (fun h => by cases h) (fun _ => ?_)
    refine AW.exit ?_
    simp
    refine k1 _ ?_
    generalize pnV g Z TL goals g.owner.length = L at *
    have ga := HL.at (h0 := h) (l := [(a, obSt L nn)]) (k := 0) N.nd rfl
    have hd := HL.del (h0 := h) (l := [(a, obSt L nn)]) (k := 0) N rfl
    refine AW.seq fun _ kr => AW.region [] Θ_ok ?_
    simp
    refine kr _ ?_
    refine AW.ghost (GStep.slot (t := 6) (v := .mu a L.length) (S := ⟨92, _, HL h [(a, obSt L nn)]⟩) rfl (GV.freeze (n := L.length) (k := false) (xs := avS L) ga (fun e => by cases e) (by simp [avS]) (fun y hy => ?_) ?_)) ?_
    · obtain ⟨s, _, rfl⟩ := List.mem_map.1 hy
      rfl
    · rw [avS_flat]
      exact (List.take_of_length_le (by simp [stC_len])).symm
    rw [hd]
    refine AW.ret ?_
    simp [Try.f14]
    exact Fin.refl ⟨hfin.symm, rfl⟩
  · have hfin : pnA g A E = .nils := if_neg hok
    have hok2 : ¬ (mayE g = 0 ∧ A.length ≤ 4 ∧ E.length ≤ 4) := hok
    rw [regionA, if_neg hok2] at sR
    refine AW.seq fun _ k1 => AW.regionAt 4 [] Θ_ok fun B hB => ?_
    simp
    refine sR.use (by simp [G.av]) ?_
    refine hB _ ?_
    clear hB B
    simp
    refine k1 _ ?_
    refine AW.seq fun _ k1 => ?_
    refine AW.seq fun _ k2 => AW.region [] Θ_ok ?_
    simp
    refine k2 _ ?_
    refine AW.cond true (by simp [Int.natCast_inj]) (fun _ => ?_) (fun h => by cases h)
    refine AW.seq fun _ kr => AW.region [] Θ_ok ?_
    simp
    refine kr _ (AW.ret ?_)
    simp [Try.f14]
    exact Fin.refl ⟨hfin.symm, rfl⟩
end Go.Par
