/- Texts GrA GrB GrC GrD, one behind another. -/
import Derived.Test.YtaipmknajpbpkaaFgB
import Derived.Test.YtaipmknajpbpkaaMgC
import Derived.Test.YtaipmknajpbpkaaPlL
import Derived.Test.YtaipmknajpbpkaaFgA
import Derived.Test.YtaipmknajpbpkaaCgA
set_option linter.unusedSimpArgs false
set_option maxRecDepth 8000
namespace Go.Par
open Go.Proofs

theorem GV.weaken {u u' : AV} {h : Heap} (hw : wk u u' ∨ weak u = u') : GV u h u' h := fun φ w x H V => by
  refine ⟨φ, Ext.refl φ, H, ?_, fun _ q => q⟩
  rcases hw with hw | rfl
  · exact V.wk hw
  · exact V.weak
theorem GStep.weaken {S : St} {t : Nat} {u : AV} (u' : AV) (hv : get S.tm t = u) (hw : wk u u' ∨ weak u = u') : GStep S ⟨S.n, (t, u') :: S.tm, S.h⟩ := GStep.slot hv (GV.weaken hw)
theorem AW.weaken {P : Program} {c : Code} {Q : Exit → St → Prop} {S : St} (t : Nat) {u : AV} (u' : AV) (hv : get S.tm t = u) (hw : wk u u' ∨ weak u = u') (h : AW P c Q ⟨S.n, (t, u') :: S.tm, S.h⟩) : AW P c Q S := AW.ghost (GStep.weaken u' hv hw) h

theorem slices_EqualB (a b : List Bool) (hl : a.length ≤ 1152921504606846976) : Pure Try.prog 77 [.ro false (bools a), .ro false (bools b)] (.bool (decide (a = b))) := by
  intro h
  refine AC.body Θ_ok Try.func77 rfl rfl (Nat.le_of_ble_eq_true rfl) ?_
  refine AW.seq fun _ k1 => AW.region [] Θ_ok ?_
  simp
  refine k1 _ ?_
  refine AW.seq fun _ k1 => ?_
  refine AW.seq fun _ k2 => AW.region [] Θ_ok ?_
  simp
  refine k2 _ ?_
  by_cases he : a.length = b.length
  · refine AW.cond false (by simp [Int.natCast_inj, he]) (fun h => by cases h) (fun _ => ?_)
    refine AW.skip ?_
    simp
    refine k1 _ ?_
    refine AW.seq fun _ k1 => ?_
    refine AW.seq fun _ k2 => AW.region [] Θ_ok ?_
    simp
    refine k2 _ ?_
    refine AW.block ?_
    refine AW.loopI (X := Nat) (fun x => x ≤ a.length ∧ ∀ i, i < x → a[i]? = b[i]?) (fun x => ⟨26, [(13, .int .i64 x), (12, .int .i64 a.length), (0, .ro false (bools a)), (1, .ro false (bools b))], h⟩) (fun x => a.length - x) 0 ⟨Nat.zero_le _, fun i hi => by omega⟩ (GStep.eq (by simp) (subH.refl _)) ?_
    rintro x ⟨hx, hok⟩
    refine AW.seq fun _ k2 => AW.region [] Θ_ok ?_
    simp
    refine k2 _ ?_
    by_cases hlt : x < a.length
    · have hlt' : x < b.length := by omega
      refine AW.seq fun _ k2 => AW.cond true (by simp [Int.natCast_inj, hlt]) (fun _ => ?_) (fun h => by cases h)
      refine AW.skip ?_
      simp
      refine k2 _ ?_
      refine AW.seq fun _ k2 => ?_
      refine AW.block ?_
      refine AW.seq fun _ k3 => AW.region [] Θ_ok ?_
      simp
      refine k3 _ ?_
      refine AW.seq fun _ k3 => AW.draw [] 9 [] Θ_ok mixed (by kernel_rfl) (by kernel_rfl) ?_
      simp [vcDraw, vcPre, vcTail, callA, isAlloc, isLoad, effOp, obl, obA, mkOK, valA, hlt, hlt']
      refine k3 _ ?_
      by_cases hab : a[x] = b[x]
      · refine AW.cond false (by simp [Int.natCast_inj, hab]) (fun h => by cases h) (fun _ => ?_)
        refine AW.skip ?_
        simp
        refine k2 _ ?_
        refine AW.region [] Θ_ok ?_
        simp
        refine ⟨x + 1, ⟨by omega, fun i hi => ?_⟩, by omega, GStep.eq ?_ (subH.refl _)⟩
        · by_cases e : i = x
          · subst e; simp [hlt, hlt', hab]
          · exact hok i (by omega)
        · simp [wrap_succ (show x < 9223372036854775807 by omega)]
      · refine AW.cond true (by simp [Int.natCast_inj, hab]) (fun _ => ?_) (fun h => by cases h)
        refine AW.seq fun _ kr => AW.region [] Θ_ok ?_
        simp
        refine kr _ (AW.ret ?_)
        simp [Try.f77]
        refine Fin.refl ⟨?_, rfl⟩
        have : ¬ a = b := by rintro rfl; exact hab rfl
        simp [this]
    · obtain rfl : x = a.length := by omega
      refine AW.seq fun _ k2 => AW.cond false (by simp [Int.natCast_inj]) (fun h => by cases h) (fun _ => ?_)
      refine AW.exit ?_
      simp
      refine k1 _ ?_
      refine AW.seq fun _ kr => AW.region [] Θ_ok ?_
      simp
      refine kr _ (AW.ret ?_)
      simp [Try.f77]
      refine Fin.refl ⟨?_, rfl⟩
      have : a = b := List.ext_getElem? fun i => by
        by_cases hi : i < a.length
        · exact hok i hi
        · rw [List.getElem?_eq_none (by omega), List.getElem?_eq_none (by omega)]
      simp [this]
  · refine AW.cond true (by simp [Int.natCast_inj, he]) (fun _ => ?_) (fun h => by cases h)
    refine AW.seq fun _ kr => AW.region [] Θ_ok ?_
    simp
    refine kr _ (AW.ret ?_)
    simp [Try.f77]
    refine Fin.refl ⟨?_, rfl⟩
    have : ¬ a = b := by rintro rfl; exact he rfl
    simp [this]


def rowsA (g : G) (l : List (List Bool)) : AV := if l = [] then .ro true [.ro true (bools (topL g))] else .ro false (bools2 l)
theorem rowsA_weak (g : G) (l : List (List Bool)) : weak (rowsA g l) = .ro false (bools2 (rowsL g l)) := by
  unfold rowsA rowsL; split <;> simp

@[simp] theorem rowsA_known (g : G) (l : List (List Bool)) : (rowsA g l).known = true := by unfold rowsA; split <;> rfl
@[simp] theorem rowsA_one (g : G) (l : List (List Bool)) : (rowsA g l).one = true := by unfold rowsA; split <;> rfl
@[simp] theorem rowsA_flat (g : G) (l : List (List Bool)) : (rowsA g l).flat = [rowsA g l] := by unfold rowsA; split <;> rfl

theorem gr1_rows (g : G) (hf : g.fits) (l : List (List Bool)) : Pure Try.prog 83 [g.av, .ro false (bools2 l)] (rowsA g l) := by
  intro h
  refine AC.body Θ_ok Try.func83 rfl rfl (Nat.le_of_ble_eq_true rfl) ?_
  refine AW.seq fun _ k1 => AW.region [] Θ_ok ?_
  simp
  refine k1 _ ?_
  refine AW.seq fun _ k1 => ?_
  refine AW.seq fun _ k2 => AW.region [] Θ_ok ?_
  simp
  refine k2 _ ?_
  by_cases hl : l = []
  · refine AW.cond true (by simp [Int.natCast_inj, hl]) (fun _ => ?_) (fun h => by cases h)
    refine AW.seq fun _ kr => AW.region [] Θ_ok ?_
    simp
    refine (pre_Not g [] hf.owner).use (by simp [G.av]) ?_
    simp
    refine kr _ (AW.ret ?_)
    simp [Try.f83]
    exact Fin.refl ⟨by simp [rowsA, hl, topL], rfl⟩
  · refine AW.cond false (by simp [Int.natCast_inj, hl]) (fun h => by cases h) (fun _ => ?_)
    refine AW.skip ?_
    simp
    refine k1 _ ?_
    refine AW.seq fun _ kr => AW.region [] Θ_ok ?_
    simp
    refine kr _ (AW.ret ?_)
    simp [Try.f83]
    exact Fin.refl ⟨by simp [rowsA, hl], rfl⟩

/-- The solver. -/
def solV (g : G) (A E : List (List Bool)) : AV := .rop [.ro false (ints g.owner), .ro false (rows g.next), .ro false (bools2 A), .ro false (bools2 E)]

@[simp] theorem solV_known (g : G) (A E : List (List Bool)) : (solV g A E).known = true := rfl
@[simp] theorem solV_one (g : G) (A E : List (List Bool)) : (solV g A E).one = true := rfl
@[simp] theorem solV_flat (g : G) (A E : List (List Bool)) : (solV g A E).flat = [solV g A E] := rfl

set_option linter.unusedSectionVars false
section
variable (g : G) (hf : g.fits) (hm : mayE g = 0) (A E : List (List Bool))
include hf hm

theorem forceA1 (x : List Bool) : forceA g 1 x = .ro true (bools (forceL g 1 x)) := if_pos ⟨hm, .inr rfl⟩

theorem gr1_force (x : List Bool) : Pure Try.prog 101 [solV g A E, .ro false (bools x)] (.ro true (bools (forceL g 1 x))) := by
  have s := pre_Force g hf 1 x
  rw [forceA1 g hf hm] at s
  intro h
  refine AC.body Θ_ok Try.func101 rfl rfl (Nat.le_of_ble_eq_true rfl) ?_
  refine AW.seq fun _ k1 => AW.region [] Θ_ok ?_
  simp
  refine k1 _ ?_
  refine AW.seq fun _ kr => AW.region [] Θ_ok ?_
  simp [solV]
  refine s.use (by simp [G.av]) ?_
  try simp
  refine kr _ (AW.ret ?_)
  simp [Try.f101]
  exact Fin.refl ⟨rfl, rfl⟩

theorem gr1_level1 (sure a x : List Bool) : Pure Try.prog 118 [.ro false (bools x), .rop [solV g A E], .rop [.ro false (bools sure)], .rop [.ro false (bools a)]] (.ro true (bools (stepL g sure a x))) := by
  have hb := hf.owner
  intro h
  refine AC.body Θ_ok Try.func118 rfl rfl (Nat.le_of_ble_eq_true rfl) ?_
  refine AW.seq fun _ k1 => AW.region [] Θ_ok ?_
  simp
  refine k1 _ ?_
  obtain ⟨s, hs⟩ : ∃ s, s = solV g A E := ⟨_, rfl⟩
  refine AW.seq fun _ kr => AW.draw [] 21 [] Θ_ok mixed (by kernel_rfl) (by kernel_rfl) ?_
  simp [vcDraw, vcPre, vcTail, callA, isAlloc, isLoad, effOp, obl, obA, mkOK, valA, solV]
  refine ⟨_, (pre_Not g a hb).wk (by simp [G.av]), ?_⟩
  try simp
  refine ⟨_, (gr1_force g hf hm A E x).wk (by simp [solV]), ?_⟩
  try simp
  refine ⟨_, (pre_And g (notL g a) (forceL g 1 x) hb).wk (by simp [G.av]), ?_⟩
  try simp
  refine ⟨_, (pre_Or g sure (andL g (notL g a) (forceL g 1 x)) hb).wk (by simp [G.av]), ?_⟩
  try simp
  refine kr _ (AW.ret ?_)
  simp [Try.f118]
  exact Fin.refl ⟨rfl, rfl⟩

structure FX where
  x : List Bool
  f : Nat

theorem gr1_greatest (Fid : FuncId) (cap : List AV) (F : List Bool → List Bool) (M : Mon g.owner.length F) (hF : ∀ x : List Bool, Pure Try.prog Fid ([.ro false (bools x)] ++ cap) (.ro true (bools (F x)))) :
    Pure Try.prog 117 [solV g A E, .clo Fid cap] (.ro true (bools (great g F))) := by
  have hb := hf.owner
  intro h
  refine AC.body Θ_ok Try.func117 rfl rfl (Nat.le_of_ble_eq_true rfl) ?_
  refine AW.seq fun _ k1 => AW.region [] Θ_ok ?_
  simp
  refine k1 _ ?_
  refine AW.seq fun _ k1 => AW.region [] Θ_ok ?_
  simp [solV]
  refine (pre_Not g [] hb).use (by simp [G.av]) ?_
  refine k1 _ ?_
  refine AW.block ?_
  have hc : cntS (topL g) < g.owner.length + 1 := by have := cntS_le (topL g); rw [topL, len_not] at this; rw [topL]; omega
  refine AW.loopI (X := FX) (fun s => s.x.length = g.owner.length ∧ leS g.owner.length (F s.x) s.x ∧ cntS s.x < s.f ∧ fixG F s.f s.x = great g F) (fun s => ⟨20, [(5, .ro true (bools s.x)), (1, .clo Fid cap)], h⟩) (fun s => s.f) ⟨topL g, g.owner.length + 1⟩ ⟨len_not _ _, le_top _, hc, rfl⟩ (GStep.eq (by simp [topL]) (subH.refl _)) ?_
  rintro ⟨x, f⟩ ⟨hl, hd, hcn, hR⟩
  simp only at hl hd hcn hR ⊢
  refine AW.block ?_
  refine AW.seq fun _ k2 => AW.region [] Θ_ok ?_
  simp
  have hw : wks ([.ro true (bools x)] ++ cap) ([.ro false (bools x)] ++ cap) := ⟨.inl (by simp), wks_refl cap⟩
  refine (hF x).use hw ?_
  refine k2 _ ?_
  refine AW.seq fun _ k2 => ?_
  refine AW.seq fun _ k3 => AW.region [] Θ_ok ?_
  simp
  have sE := slices_EqualB x (F x) (by omega)
  generalize hbv : decide (x = F x) = bv at sE
  refine sE.use (by simp) ?_
  refine k3 _ ?_
  cases bv
  · have e := of_decide_eq_false hbv
    clear hbv
    refine AW.cond false (by simp [Int.natCast_inj]) (fun h => by cases h) (fun _ => ?_)
    refine AW.skip ?_
    simp
    refine k2 _ ?_
    refine AW.region [] Θ_ok ?_
    simp
    obtain ⟨f', rfl⟩ : ∃ f', f = f' + 1 := ⟨f - 1, by omega⟩
    have hc' := (cnt_mono (M.len x) hl hd).2 (fun q => e q.symm)
    exact ⟨⟨F x, f'⟩, ⟨M.len x, M.mono _ _ hd, by simp only; omega, by simp only; rw [← hR, fixG_step (fun q => e q.symm)]⟩, by simp only; omega, GStep.eq (by simp) (subH.refl _)⟩
  · have e := of_decide_eq_true hbv
    clear hbv
    refine AW.cond true (by simp [Int.natCast_inj]) (fun _ => ?_) (fun h => by cases h)
    refine AW.seq fun _ kr => AW.region [] Θ_ok ?_
    simp
    refine kr _ (AW.ret ?_)
    simp [Try.f117]
    refine Fin.refl ⟨?_, rfl⟩
    rw [← hR, fixG_at e.symm]

theorem gr1_level (goal y : List Bool) (hA : A.length ≤ 17592186044416) : Pure Try.prog 102 [solV g A E, .ro false (bools goal), .ro false (bools y)] (.ro false (bools (levelL g A goal y))) := by
  have hb := hf.owner
  intro h
  refine AC.body Θ_ok Try.func102 rfl rfl (Nat.le_of_ble_eq_true rfl) ?_
  refine AW.seq fun _ k1 => AW.region [] Θ_ok ?_
  simp
  refine k1 _ ?_
  refine AW.seq fun _ k1 => AW.draw [7] 10 [] Θ_ok mixed (by kernel_rfl) (by kernel_rfl) ?_
  simp [vcDraw, vcPre, vcTail, callA, isAlloc, isLoad, effOp, obl, obA, mkOK, valA, solV]
  refine ⟨_, (gr1_force g hf hm A E y).wk (by simp [solV]), ?_⟩
  try simp
  refine ⟨_, (pre_Or g goal (forceL g 1 y) hb).wk (by simp [G.av]), ?_⟩
  simp [upd_same]
  refine fun o ho => k1 _ ?_
  refine AW.box 7 rfl (upd_same _ _ _) ?_
  simp only [upd_upd_none ho]
  have hsv : AV.rop [.ro false (ints g.owner), .ro false (rows g.next), .ro false (bools2 A), .ro false (bools2 E)] = solV g A E := rfl
  simp only [hsv]
  obtain ⟨sure, hsure⟩ : ∃ sure, sure = orL g goal (forceL g 1 y) := ⟨_, rfl⟩
  rw [← hsure]
  have hlev : levelL g A goal y = levelK g A sure A.length := by rw [levelL, sureL, hsure]
  rw [hlev]
  refine AW.seq fun _ k1 => AW.region [] Θ_ok ?_
  simp
  refine k1 _ ?_
  refine AW.weaken 8 (.ro false (bools (levelK g A sure 0))) rfl (.inl (by simp [levelK])) ?_
  refine AW.seq fun _ k1 => ?_
  refine AW.seq fun _ k2 => AW.region [] Θ_ok ?_
  simp only [solV]
  simp
  refine k2 _ ?_
  refine AW.block ?_
  refine AW.loopI (X := Nat) (fun x => x ≤ A.length) (fun x => ⟨42, [(26, .int .i64 x), (25, .int .i64 A.length), (24, .ro false (bools2 A)), (8, .ro false (bools (levelK g A sure x))), (3, .rop [solV g A E]), (7, .rop [.ro true (bools sure)])], h⟩) (fun x => A.length - x) 0 (Nat.zero_le _) (GStep.eq (by simp [solV]) (subH.refl _)) fun x hx => ?_
  refine AW.seq fun _ k2 => AW.region [] Θ_ok ?_
  simp
  refine k2 _ ?_
  by_cases hlt : x < A.length
  · have inc := wrap_succ (show x < 9223372036854775807 by omega)
    have sg := gr1_greatest g hf hm A E 118 [.rop [solV g A E], .rop [.ro false (bools sure)], .rop [.ro false (bools A[x])]] (stepL g sure A[x]) (step_mon hm _ _) (fun y => gr1_level1 g hf hm A E sure A[x] y)
    have so := pre_Or g (levelK g A sure x) (great g (stepL g sure A[x])) hb
    have hs : orL g (levelK g A sure x) (great g (stepL g sure A[x])) = levelK g A sure (x + 1) := by simp [levelK, hlt]
    rw [hs] at so
    generalize great g (stepL g sure A[x]) = gr at *
    refine AW.seq fun _ k2 => AW.cond true (by simp [Int.natCast_inj, hlt]) (fun _ => ?_) (fun h => by cases h)
    refine AW.skip ?_
    simp
    refine k2 _ ?_
    refine AW.seq fun _ k2 => ?_
    refine AW.block ?_
    refine AW.seq fun _ k3 => AW.region [10] Θ_ok ?_
    simp [newA, hlt, upd_same]
    refine fun o ho => k3 _ ?_
    refine AW.box 10 rfl (upd_same _ _ _) ?_
    simp only [upd_upd_none ho]
    refine AW.seq fun _ k3 => AW.region [] Θ_ok ?_
    simp
    refine sg.use (by simp [solV]) ?_
    try simp
    refine k3 _ ?_
    refine AW.regionAt 7 [] Θ_ok fun B hB => ?_
    simp [solV]
    refine so.use (by simp [G.av]) ?_
    refine hB _ ?_
    clear hB B
    simp
    refine k2 _ ?_
    refine AW.region [] Θ_ok ?_
    simp
    exact ⟨x + 1, by omega, by omega, GStep.trans (GStep.weaken (t := 8) (.ro false (bools (levelK g A sure (x + 1)))) rfl (.inl (by simp))) (GStep.eq (by simp [inc, solV]) (subH.refl _))⟩
  · obtain rfl : x = A.length := by omega
    refine AW.seq fun _ k2 => AW.cond false (by simp [Int.natCast_inj]) (fun h => by cases h) (fun _ => ?_)
    refine AW.exit ?_
    simp
    refine k1 _ ?_
    refine AW.seq fun _ kr => AW.region [] Θ_ok ?_
    simp
    refine kr _ (AW.ret ?_)
    simp [Try.f102]
    exact Fin.refl ⟨rfl, rfl⟩

theorem gr1_least (row z : List Bool) (hA : A.length ≤ 17592186044416) (hA0 : 0 < A.length) : Pure Try.prog 84 [solV g A E, .ro false (bools row), .ro false (bools z)] (.ro false (bools (leastL g A row z))) := by
  have hb := hf.owner
  have sG := pre_And g row (forceL g 1 z) hb
  have sB := pre_And g [] [] hb
  have M := level_mon hm hA0 (goalL g row z)
  have hR0 : leastL g A row z = fixG (levelL g A (goalL g row z)) (g.owner.length + 1) (botL g) := rfl
  rw [show andL g row (forceL g 1 z) = goalL g row z from rfl] at sG
  rw [show andL g [] [] = botL g from rfl] at sB
  generalize leastL g A row z = R at *
  have sL : ∀ y, Pure Try.prog 102 [solV g A E, .ro false (bools (goalL g row z)), .ro false (bools y)] (.ro false (bools (levelL g A (goalL g row z) y))) := fun y => gr1_level g hf hm A E (goalL g row z) y hA
  have hbot : (botL g).length = g.owner.length := len_and _ _ _
  have hble : leS g.owner.length (botL g) (levelL g A (goalL g row z) (botL g)) := bot_le _
  have sF := gr1_force g hf hm A E z
  generalize goalL g row z = goal at *
  intro h
  refine AC.body Θ_ok Try.func84 rfl rfl (Nat.le_of_ble_eq_true rfl) ?_
  refine AW.seq fun _ k1 => AW.region [] Θ_ok ?_
  simp
  refine k1 _ ?_
  refine AW.seq fun _ k1 => AW.draw [] 10 [] Θ_ok mixed (by kernel_rfl) (by kernel_rfl) ?_
  simp [vcDraw, vcPre, vcTail, callA, isAlloc, isLoad, effOp, obl, obA, mkOK, valA, solV]
  refine ⟨_, sF.wk (by simp [solV]), ?_⟩
  try simp
  refine ⟨_, sG.wk (by simp [G.av]), ?_⟩
  try simp
  refine k1 _ ?_
  refine AW.seq fun _ k1 => AW.region [] Θ_ok ?_
  simp
  refine sB.use (by simp [G.av]) ?_
  refine k1 _ ?_
  refine AW.block ?_
  refine AW.weaken 8 (.ro false (bools (botL g))) rfl (.inl (by simp)) ?_
  refine AW.loopI (X := FX) (fun s => s.x.length = g.owner.length ∧ leS g.owner.length s.x (levelL g A goal s.x) ∧ g.owner.length < s.f + cntS s.x ∧ fixG (levelL g A goal) s.f s.x = R) (fun s => ⟨33, [(8, .ro false (bools s.x)), (7, .ro true (bools goal)), (0, solV g A E)], h⟩) (fun s => s.f) ⟨botL g, g.owner.length + 1⟩ ⟨hbot, hble, by simp only; omega, hR0.symm⟩ (GStep.eq (by simp [solV]) (subH.refl _)) ?_
  clear hR0 hbot hble
  rintro ⟨x, f⟩ ⟨hl, hd, hcn, hR⟩
  simp only at hl hd hcn hR ⊢
  have sLx := sL x
  have hlen := M.len x
  have hmo := M.mono _ _ hd
  have hfs : ∀ f', ¬ levelL g A goal x = x → fixG (levelL g A goal) (f' + 1) x = fixG (levelL g A goal) f' (levelL g A goal x) := fun f' q => fixG_step q
  have hfa : levelL g A goal x = x → fixG (levelL g A goal) f x = x := fun q => fixG_at q
  obtain ⟨w, hw⟩ : ∃ w, w = levelL g A goal x := ⟨_, rfl⟩
  rw [← hw] at sLx hlen hd hmo hfs hfa
  refine AW.block ?_
  refine AW.seq fun _ k2 => AW.region [] Θ_ok ?_
  simp
  refine sLx.use (by simp [solV]) ?_
  refine k2 _ ?_
  refine AW.seq fun _ k2 => ?_
  refine AW.seq fun _ k3 => AW.region [] Θ_ok ?_
  simp
  have sE := slices_EqualB w x (by omega)
  generalize hbv : decide (w = x) = bv at sE
  refine sE.use (by simp) ?_
  refine k3 _ ?_
  cases bv
  · have e := of_decide_eq_false hbv
    clear hbv
    refine AW.cond false (by simp [Int.natCast_inj]) (fun h => by cases h) (fun _ => ?_)
    refine AW.skip ?_
    simp
    refine k2 _ ?_
    refine AW.region [] Θ_ok ?_
    simp
    have hcl := cntS_le x
    obtain ⟨f', rfl⟩ : ∃ f', f = f' + 1 := by
      refine ⟨f - 1, ?_⟩
      have hc' := (cnt_mono hl hlen hd).2 (fun q => e q.symm)
      have := cntS_le w
      omega
    have hc' := (cnt_mono hl hlen hd).2 (fun q => e q.symm)
    exact ⟨⟨w, f'⟩, ⟨hlen, hmo, by simp only; omega, by simp only; rw [← hR, hfs f' e]⟩, by simp only; omega, GStep.eq (by simp [solV]) (subH.refl _)⟩
  · have e := of_decide_eq_true hbv
    clear hbv
    refine AW.cond true (by simp [Int.natCast_inj]) (fun _ => ?_) (fun h => by cases h)
    refine AW.seq fun _ kr => AW.region [] Θ_ok ?_
    simp
    refine kr _ (AW.ret ?_)
    simp [Try.f84]
    refine Fin.refl ⟨?_, rfl⟩
    rw [← hR, hfa e]
end

structure SX where
  z : List Bool
  k : Nat
  f : Nat

def solveA (g : G) (A E : List (List Bool)) : AV := if mayE g = 0 ∧ A.length ≤ 4 ∧ E.length ≤ 4 then .tup [.ro false (bools (solveL g A E).1), .int .i64 ((solveL g A E).2 : Nat)] else .tup [.nils, .int .i64 0]

theorem rowsL_le (g : G) (l : List (List Bool)) (h : l.length ≤ 4) : (rowsL g l).length ≤ 4 := by
  unfold rowsL; split
  · simp
  · exact h

theorem gr1_solve (g : G) (hf : g.fits) (A E : List (List Bool)) : Pure Try.prog 55 [g.av, .ro false (bools2 A), .ro false (bools2 E)] (solveA g A E) := by
  have hb := hf.owner
  intro h
  refine AC.body Θ_ok Try.func55 rfl rfl (Nat.le_of_ble_eq_true rfl) ?_
  refine AW.seq fun _ k1 => AW.region [] Θ_ok ?_
  simp
  refine k1 _ ?_
  refine AW.seq fun _ k1 => ?_
  by_cases hm : mayE g = 0
  · have hn3 := (may_ok hm).1
    by_cases h4 : A.length ≤ 4 ∧ E.length ≤ 4
    · have hfin : solveA g A E = .tup [.ro false (bools (solveL g A E).1), .int .i64 ((solveL g A E).2 : Nat)] := if_pos ⟨hm, h4⟩
      have hmx : ¬ (4 : Int) < ((max A.length E.length : Nat) : Int) := by omega
      have hmx' := Int.not_lt.1 hmx
      have imx : (if A.length < E.length then (E.length : Int) else (A.length : Int)) = ((max A.length E.length : Nat) : Int) := by split <;> omega
      refine AW.seq fun _ k2 => AW.regionAt 2 [] Θ_ok fun B hB => ?_
      simp
      refine (graph_May g hf).use (by simp [G.av]) ?_
      refine hB _ ?_
      clear hB B
      simp [hm, imx, hmx, hmx']
      refine k2 _ ?_
      refine AW.cond false (by simp [Int.natCast_inj, hmx']) (fun h => by cases h) (fun _ => ?_)
      refine AW.skip ?_
      simp
      refine k1 _ ?_
      refine AW.seq fun _ k1 => AW.draw [] 10 [] Θ_ok mixed (by kernel_rfl) (by kernel_rfl) ?_
      simp [vcDraw, vcPre, vcTail, callA, isAlloc, isLoad, effOp, obl, obA, mkOK, valA]
      refine ⟨_, (gr1_rows g hf A).wk (by simp [G.av]), ?_⟩
      try simp
      refine ⟨_, (gr1_rows g hf E).wk (by simp [G.av]), ?_⟩
      simp [setAt]
      refine k1 _ ?_
      refine AW.weaken 8 (solV g (rowsL g A) (rowsL g E)) rfl (.inr (by simp [solV, rowsA_weak])) ?_
      have hA4 := rowsL_le g A h4.1
      have hE4 := rowsL_le g E h4.2
      have hA0 := rowsL_pos g A
      have hsol : solveL g A E = solveG g (rowsL g A) (rowsL g E) (g.owner.length + 1) (topL g) 0 := rfl
      generalize solveL g A E = R at *
      generalize rowsL g A = A' at *
      generalize rowsL g E = E' at *
      refine AW.seq fun _ k1 => AW.region [] Θ_ok ?_
      simp
      refine (pre_Not g [] hb).use (by simp [G.av]) ?_
      refine k1 _ ?_
      refine AW.weaken 9 (.ro false (bools (topL g))) rfl (.inl (by simp [topL])) ?_
      refine AW.seq fun _ k1 => AW.region [] Θ_ok ?_
      simp
      refine k1 _ ?_
      refine AW.block ?_
      have hct : cntS (topL g) < g.owner.length + 1 := by have := cntS_le (topL g); rw [topL, len_not] at this; rw [topL]; omega
      refine AW.loopI (X := SX) (fun s => Kept g A' s.z ∧ cntS s.z < s.f ∧ s.k + s.f = g.owner.length + 1 ∧ solveG g A' E' s.f s.z s.k = R) (fun s => ⟨61, [(8, solV g A' E'), (9, .ro false (bools s.z)), (10, .int .i64 s.k), (11, .bnd 84 [solV g A' E'])], h⟩) (fun s => s.f) ⟨topL g, 0, g.owner.length + 1⟩ ⟨kept_top _, hct, by simp only; omega, hsol.symm⟩ (GStep.eq (by simp) (subH.refl _)) ?_
      clear hct hsol
      rintro ⟨z, k, f⟩ ⟨hK, hc, hkf, hR⟩
      simp only at hK hc hkf hR ⊢
      refine AW.block ?_
      refine AW.seq fun _ k2 => AW.region [] Θ_ok ?_
      simp
      refine k2 _ ?_
      refine AW.seq fun _ k2 => ?_
      refine AW.seq fun _ k3 => AW.region [] Θ_ok ?_
      simp only [solV]
      simp
      refine k3 _ ?_
      refine AW.block ?_
      refine AW.loopI (X := Nat) (fun x => x ≤ E'.length) (fun x => ⟨61, [(45, .int .i64 x), (44, .int .i64 E'.length), (43, .ro false (bools2 E')), (12, .ro false (bools z)), (8, solV g A' E'), (9, .ro false (bools (roundK g A' E' z x))), (10, .int .i64 k), (11, .bnd 84 [solV g A' E'])], h⟩) (fun x => E'.length - x) 0 (Nat.zero_le _) (GStep.eq (by simp [solV, roundK]) (subH.refl _)) fun x hx => ?_
      refine AW.seq fun _ k3 => AW.region [] Θ_ok ?_
      simp
      refine k3 _ ?_
      by_cases hlt : x < E'.length
      · have inc := wrap_succ (show x < 9223372036854775807 by omega)
        have sl := gr1_least g hf hm A' E' E'[x] (roundK g A' E' z x) (by omega) hA0
        rw [show leastL g A' E'[x] (roundK g A' E' z x) = roundK g A' E' z (x + 1) by simp [roundK, hlt]] at sl
        obtain ⟨z', hz'⟩ : ∃ z', z' = roundK g A' E' z (x + 1) := ⟨_, rfl⟩
        rw [← hz'] at sl
        refine AW.seq fun _ k3 => AW.cond true (by simp [Int.natCast_inj, hlt]) (fun _ => ?_) (fun h => by cases h)
        refine AW.skip ?_
        simp
        refine k3 _ ?_
        refine AW.seq fun _ k3 => ?_
        refine AW.block ?_
        refine AW.seq fun _ k4 => AW.region [] Θ_ok ?_
        simp [hlt]
        refine k4 _ ?_
        refine AW.region [] Θ_ok ?_
        simp
        refine sl.use (by simp [solV]) ?_
        refine k3 _ ?_
        refine AW.region [] Θ_ok ?_
        simp
        exact ⟨x + 1, by omega, by omega, GStep.eq (by simp [inc, hz']) (subH.refl _)⟩
      · obtain rfl : x = E'.length := by omega
        refine AW.seq fun _ k3 => AW.cond false (by simp [Int.natCast_inj]) (fun h => by cases h) (fun _ => ?_)
        refine AW.exit ?_
        simp
        refine k2 _ ?_
        obtain ⟨hle, hK'⟩ := round_kept hm hA0 E' hK E'.length
        obtain ⟨f', rfl⟩ : ∃ f', f = f' + 1 := ⟨f - 1, by omega⟩
        have hstep : solveG g A' E' (f' + 1) z k = if z = roundK g A' E' z E'.length then (z, k) else solveG g A' E' f' (roundK g A' E' z E'.length) (k + 1) := rfl
        generalize roundK g A' E' z E'.length = Z at *
        have sE := slices_EqualB z Z (by have := hK.1; omega)
        generalize hbv : decide (z = Z) = bv at sE
        refine AW.seq fun _ k2 => ?_
        refine AW.seq fun _ k3 => AW.region [] Θ_ok ?_
        simp
        refine sE.use (by simp) ?_
        refine k3 _ ?_
        cases bv
        · have e := of_decide_eq_false hbv
          clear hbv
          rw [if_neg e, hR] at hstep
          have inck := wrap_succ (show k < 9223372036854775807 by omega)
          refine AW.cond false (by simp [Int.natCast_inj]) (fun h => by cases h) (fun _ => ?_)
          refine AW.skip ?_
          simp
          refine k2 _ ?_
          refine AW.region [] Θ_ok ?_
          simp
          have hc' := (cnt_mono hK'.1 hK.1 hle).2 (fun q => e q.symm)
          exact ⟨⟨Z, k + 1, f'⟩, ⟨hK', by simp only; omega, by simp only; omega, hstep.symm⟩, by simp only; omega, GStep.eq (by simp [inck]) (subH.refl _)⟩
        · have e := of_decide_eq_true hbv
          clear hbv
          rw [if_pos e, hR] at hstep
          refine AW.cond true (by simp [Int.natCast_inj]) (fun _ => ?_) (fun h => by cases h)
          refine AW.seq fun _ kr => AW.region [] Θ_ok ?_
          simp
          refine kr _ (AW.ret ?_)
          simp [Try.f55]
          exact Fin.refl ⟨by rw [hfin, hstep, e], rfl⟩
    · have hmx : (4 : Int) < ((max A.length E.length : Nat) : Int) := by omega
      have imx : (if A.length < E.length then (E.length : Int) else (A.length : Int)) = ((max A.length E.length : Nat) : Int) := by split <;> omega
      refine AW.seq fun _ k2 => AW.regionAt 2 [] Θ_ok fun B hB => ?_
      simp
      refine (graph_May g hf).use (by simp [G.av]) ?_
      refine hB _ ?_
      clear hB B
      simp [hm, imx, hmx]
      refine k2 _ ?_
      refine AW.cond true (by simp [Int.natCast_inj, hmx]) (fun _ => ?_) (fun h => by cases h)
      refine AW.seq fun _ kr => AW.region [] Θ_ok ?_
      simp
      refine kr _ (AW.ret ?_)
      simp [Try.f55]
      exact Fin.refl ⟨by rw [solveA, if_neg (fun q => h4 q.2)], rfl⟩
  · refine AW.seq fun _ k2 => AW.regionAt 2 [] Θ_ok fun B hB => ?_
    simp
    refine (graph_May g hf).use (by simp [G.av]) ?_
    refine hB _ ?_
    clear hB B
    simp [hm]
    refine k2 _ ?_
    refine AW.cond true (by simp [Int.natCast_inj, hm]) (fun _ => ?_) (fun h => by cases h)
    refine AW.seq fun _ kr => AW.region [] Θ_ok ?_
    simp
    refine kr _ (AW.ret ?_)
    simp [Try.f55]
    exact Fin.refl ⟨by rw [solveA, if_neg (fun q => hm q.1)], rfl⟩
def regionA (g : G) (A E : List (List Bool)) : AV := if mayE g = 0 ∧ A.length ≤ 4 ∧ E.length ≤ 4 then .ro false (bools (solveL g A E).1) else .nils
def roundsE (g : G) (A E : List (List Bool)) : Int := if mayE g = 0 ∧ A.length ≤ 4 ∧ E.length ≤ 4 then ((solveL g A E).2 : Nat) else 0
theorem solveA_eq (g : G) (A E : List (List Bool)) : solveA g A E = .tup [regionA g A E, .int .i64 (roundsE g A E)] := by
  unfold solveA regionA roundsE; split <;> rfl

theorem gr1_Region (g : G) (hf : g.fits) (A E : List (List Bool)) : Pure Try.prog 22 [g.av, .ro false (bools2 A), .ro false (bools2 E)] (regionA g A E) := by
  have s := gr1_solve g hf A E
  rw [solveA_eq] at s
  intro h
  refine AC.body Θ_ok Try.func22 rfl rfl (Nat.le_of_ble_eq_true rfl) ?_
  refine AW.seq fun _ k1 => AW.region [] Θ_ok ?_
  simp
  refine k1 _ ?_
  refine AW.seq fun _ k1 => AW.region [] Θ_ok ?_
  simp
  refine s.use (by simp [G.av]) ?_
  refine k1 _ ?_
  refine AW.seq fun _ kr => AW.region [] Θ_ok ?_
  simp
  refine kr _ (AW.ret ?_)
  simp [Try.f22]
  exact Fin.refl ⟨rfl, rfl⟩
end Go.Par

set_option linter.unusedSimpArgs false
set_option maxRecDepth 8000
namespace Go.Par
open Go.Proofs

def aw18 : G := ⟨[0, 1, 1], [[1], [0, 2], [2]]⟩
theorem aw18_fits : aw18.fits := ⟨by decide, by decide, by decide⟩
theorem aw18_A : regionA aw18 [] [[true]] = .ro false (bools [true, true, false]) := rfl
theorem aw18_B : regionA aw18 [[true]] [[]] = .ro false (bools [true, true, true]) := rfl

end Go.Par

set_option linter.unusedSimpArgs false
set_option linter.unusedVariables false
set_option maxRecDepth 8000
namespace Go.Par
open Go.Proofs

def rowL (g : G) (l : List Bool) : List Bool := tab g.owner.length (hasN l)
def r9andL (a b : List Bool) : List Bool := tab a.length fun v => hasN a v && hasN b v
def r9orL (a b : List Bool) : List Bool := tab a.length fun v => hasN a v || hasN b v

theorem r9_not (g : G) (hb : g.owner.length ≤ 17592186044416) (l : List Bool) : Pure Try.prog 42 [g.av, .ro false (bools l)] (.ro true (bools (notL g l))) := by
  have hn' : g.owner.length ≤ 1152921504606846976 := by omega
  intro h
  refine AC.body Θ_ok Try.func42 rfl rfl (Nat.le_of_ble_eq_true rfl) ?_
  refine AW.seq fun _ k1 => AW.region [] Θ_ok ?_
  simp
  refine k1 _ ?_
  refine AW.seq fun _ k1 => AW.region [10] Θ_ok ?_
  simp
  refine ⟨by omega, fun o ho => k1 _ ?_⟩
  rw [replicate_tab, flat_tab (fun _ _ => rfl)]
  refine AW.seq fun _ k1 => ?_
  refine AW.seq fun _ k2 => AW.region [] Θ_ok ?_
  simp
  refine k2 _ ?_
  refine AW.block ?_
  refine AW.loopI (X := Nat) (fun x => x ≤ g.owner.length) (fun x => ⟨25, [(13, .int .i64 x), (12, .int .i64 g.owner.length), (5, .mu o g.owner.length), (1, .ro false (bools l))], upd h o (some ⟨tab g.owner.length fun i => .bool (decide (i < x) && !hasN l i), 4, 1, true⟩)⟩) (fun x => g.owner.length - x) 0 (Nat.zero_le _) (GStep.eq (by simp) ?_) fun x hx => ?_
  · simp; exact subH.refl _
  refine AW.seq fun _ k2 => AW.region [] Θ_ok ?_
  simp
  refine k2 _ ?_
  by_cases hlt : x < g.owner.length
  · have inc := wrap_succ (show x < 9223372036854775807 by omega)
    have ea : (decide (0 ≤ (x : Int)) && hasI l (x : Int)) = hasN l x := by simp
    have sa := r9_Has l x
    rw [ea] at sa
    have hset : (tab g.owner.length fun i => AV.bool (decide (i < x) && !hasN l i)).set x (.bool (!hasN l x)) = tab g.owner.length fun i => .bool (decide (i < x + 1) && !hasN l i) := by
      rw [set_tab]
      refine tab_congr fun i hi => ?_
      by_cases e : i = x
      · subst e; simp
      · by_cases h1 : i < x
        · simp [e, h1, show i < x + 1 by omega]
        · simp [e, h1, show ¬ i < x + 1 by omega]
    refine AW.seq fun _ k2 => AW.cond true (by simp [Int.natCast_inj, hlt]) (fun _ => ?_) (fun h => by cases h)
    refine AW.skip ?_
    simp
    refine k2 _ ?_
    refine AW.seq fun _ k2 => ?_
    refine AW.block ?_
    refine AW.seq fun _ k3 => AW.region [] Θ_ok ?_
    simp
    refine k3 _ ?_
    refine AW.regionAt 5 [] Θ_ok fun B hB => ?_
    simp
    refine sa.use (by simp) ?_
    generalize hasN l x = v at *
    refine hB _ ?_
    clear hB B
    simp [hlt]
    refine ⟨by omega, k2 _ ?_⟩
    refine AW.region [] Θ_ok ?_
    simp
    exact ⟨x + 1, by omega, by omega, GStep.eq (by simp [inc]) (subH_of_eq (congrArg (fun c => upd h o (some ⟨c, 4, 1, true⟩)) hset))⟩
  obtain rfl : x = g.owner.length := by omega
  refine AW.seq fun _ k2 => AW.cond false (by simp [Int.natCast_inj]) (fun h => by cases h) (fun _ => ?_)
  refine AW.exit ?_
  simp
  refine k1 _ ?_
  refine AW.seq fun _ kr => AW.region [] Θ_ok ?_
  simp
  refine kr _ (AW.ret ?_)
  simp [Try.f42]
  refine Fin.freeze (k := true) (upd_same _ _ _) (fun _ => rfl) rfl (by simp) (ones_bools _ _) h (by simp [upd_none_id ho]; exact subH.refl _) ⟨?_, rfl⟩
  simp only [bools, notL, map_tab]
  congr 1
  exact tab_congr fun i hi => by simp [hi]

theorem r9_Row (g : G) (hb : g.owner.length ≤ 17592186044416) (l : List Bool) : Pure Try.prog 46 [g.av, .ro false (bools l)] (.ro true (bools (rowL g l))) := by
  have hn' : g.owner.length ≤ 1152921504606846976 := by omega
  intro h
  refine AC.body Θ_ok Try.func46 rfl rfl (Nat.le_of_ble_eq_true rfl) ?_
  refine AW.seq fun _ k1 => AW.region [] Θ_ok ?_
  simp
  refine k1 _ ?_
  refine AW.seq fun _ k1 => AW.region [10] Θ_ok ?_
  simp
  refine ⟨by omega, fun o ho => k1 _ ?_⟩
  rw [replicate_tab, flat_tab (fun _ _ => rfl)]
  refine AW.seq fun _ k1 => ?_
  refine AW.seq fun _ k2 => AW.region [] Θ_ok ?_
  simp
  refine k2 _ ?_
  refine AW.block ?_
  refine AW.loopI (X := Nat) (fun x => x ≤ g.owner.length) (fun x => ⟨24, [(13, .int .i64 x), (12, .int .i64 g.owner.length), (5, .mu o g.owner.length), (1, .ro false (bools l))], upd h o (some ⟨tab g.owner.length fun i => .bool (decide (i < x) && hasN l i), 4, 1, true⟩)⟩) (fun x => g.owner.length - x) 0 (Nat.zero_le _) (GStep.eq (by simp) ?_) fun x hx => ?_
  · simp; exact subH.refl _
  refine AW.seq fun _ k2 => AW.region [] Θ_ok ?_
  simp
  refine k2 _ ?_
  by_cases hlt : x < g.owner.length
  · have inc := wrap_succ (show x < 9223372036854775807 by omega)
    have ea : (decide (0 ≤ (x : Int)) && hasI l (x : Int)) = hasN l x := by simp
    have sa := r9_Has l x
    rw [ea] at sa
    have hset : (tab g.owner.length fun i => AV.bool (decide (i < x) && hasN l i)).set x (.bool (hasN l x)) = tab g.owner.length fun i => .bool (decide (i < x + 1) && hasN l i) := by
      rw [set_tab]
      refine tab_congr fun i hi => ?_
      by_cases e : i = x
      · subst e; simp
      · by_cases h1 : i < x
        · simp [e, h1, show i < x + 1 by omega]
        · simp [e, h1, show ¬ i < x + 1 by omega]
    refine AW.seq fun _ k2 => AW.cond true (by simp [Int.natCast_inj, hlt]) (fun _ => ?_) (fun h => by cases h)
    refine AW.skip ?_
    simp
    refine k2 _ ?_
    refine AW.seq fun _ k2 => ?_
    refine AW.block ?_
    refine AW.seq fun _ k3 => AW.region [] Θ_ok ?_
    simp
    refine k3 _ ?_
    refine AW.regionAt 5 [] Θ_ok fun B hB => ?_
    simp
    refine sa.use (by simp) ?_
    generalize hasN l x = v at *
    refine hB _ ?_
    clear hB B
    simp [hlt]
    refine ⟨by omega, k2 _ ?_⟩
    refine AW.region [] Θ_ok ?_
    simp
    exact ⟨x + 1, by omega, by omega, GStep.eq (by simp [inc]) (subH_of_eq (congrArg (fun c => upd h o (some ⟨c, 4, 1, true⟩)) hset))⟩
  obtain rfl : x = g.owner.length := by omega
  refine AW.seq fun _ k2 => AW.cond false (by simp [Int.natCast_inj]) (fun h => by cases h) (fun _ => ?_)
  refine AW.exit ?_
  simp
  refine k1 _ ?_
  refine AW.seq fun _ kr => AW.region [] Θ_ok ?_
  simp
  refine kr _ (AW.ret ?_)
  simp [Try.f46]
  refine Fin.freeze (k := true) (upd_same _ _ _) (fun _ => rfl) rfl (by simp) (ones_bools _ _) h (by simp [upd_none_id ho]; exact subH.refl _) ⟨?_, rfl⟩
  simp only [bools, rowL, map_tab]
  congr 1
  exact tab_congr fun i hi => by simp [hi]

theorem r9_and (a l : List Bool) (hb : a.length ≤ 17592186044416) : Pure Try.prog 45 [.ro false (bools a), .ro false (bools l)] (.ro true (bools (r9andL a l))) := by
  have hn' : a.length ≤ 1152921504606846976 := by omega
  intro h
  refine AC.body Θ_ok Try.func45 rfl rfl (Nat.le_of_ble_eq_true rfl) ?_
  refine AW.seq fun _ k1 => AW.region [] Θ_ok ?_
  simp
  refine k1 _ ?_
  refine AW.seq fun _ k1 => AW.region [9] Θ_ok ?_
  simp
  refine ⟨by omega, fun o ho => k1 _ ?_⟩
  rw [replicate_tab, flat_tab (fun _ _ => rfl)]
  refine AW.seq fun _ k1 => ?_
  refine AW.seq fun _ k2 => AW.region [] Θ_ok ?_
  simp
  refine k2 _ ?_
  refine AW.block ?_
  refine AW.loopI (X := Nat) (fun x => x ≤ a.length) (fun x => ⟨29, [(12, .int .i64 x), (11, .int .i64 a.length), (5, .mu o a.length), (0, .ro false (bools a)), (1, .ro false (bools l))], upd h o (some ⟨tab a.length fun i => .bool (decide (i < x) && (hasN a i && hasN l i)), 4, 1, true⟩)⟩) (fun x => a.length - x) 0 (Nat.zero_le _) (GStep.eq (by simp) ?_) fun x hx => ?_
  · simp; exact subH.refl _
  refine AW.seq fun _ k2 => AW.region [] Θ_ok ?_
  simp
  refine k2 _ ?_
  by_cases hlt : x < a.length
  · have inc := wrap_succ (show x < 9223372036854775807 by omega)
    have ea : (decide (0 ≤ (x : Int)) && hasI l (x : Int)) = hasN l x := by simp
    have sa := r9_Has l x
    rw [ea] at sa
    have hset : (tab a.length fun i => AV.bool (decide (i < x) && (hasN a i && hasN l i))).set x (.bool ((hasN a x && hasN l x))) = tab a.length fun i => .bool (decide (i < x + 1) && (hasN a i && hasN l i)) := by
      rw [set_tab]
      refine tab_congr fun i hi => ?_
      by_cases e : i = x
      · subst e; simp
      · by_cases h1 : i < x
        · simp [e, h1, show i < x + 1 by omega]
        · simp [e, h1, show ¬ i < x + 1 by omega]
    refine AW.seq fun _ k2 => AW.cond true (by simp [Int.natCast_inj, hlt]) (fun _ => ?_) (fun h => by cases h)
    refine AW.skip ?_
    simp
    refine k2 _ ?_
    refine AW.seq fun _ k2 => ?_
    refine AW.block ?_
    refine AW.seq fun _ k3 => AW.region [] Θ_ok ?_
    simp
    refine k3 _ ?_
    have hax : hasN a x = a[x] := by simp [hasN, hlt]
    cases hv : a[x]
    · have e : (hasN a x && hasN l x) = false := by rw [hax, hv]; rfl
      rw [e] at hset
      refine AW.region [] Θ_ok ?_
      simp [hlt, hv]
      refine ⟨by omega, k2 _ ?_⟩
      refine AW.region [] Θ_ok ?_
      simp
      exact ⟨x + 1, by omega, by omega, GStep.eq (by simp [inc]) (subH_of_eq (congrArg (fun c => upd h o (some ⟨c, 4, 1, true⟩)) hset))⟩
    · have e : (hasN a x && hasN l x) = hasN l x := by rw [hax, hv]; rfl
      rw [e] at hset
      refine AW.regionAt 10 [] Θ_ok fun B hB => ?_
      simp [hlt, hv]
      refine sa.use (by simp) ?_
      generalize hasN l x = v at *
      refine hB _ ?_
      clear hB B
      simp [hlt]
      refine ⟨by omega, k2 _ ?_⟩
      refine AW.region [] Θ_ok ?_
      simp
      exact ⟨x + 1, by omega, by omega, GStep.eq (by simp [inc]) (subH_of_eq (congrArg (fun c => upd h o (some ⟨c, 4, 1, true⟩)) hset))⟩
  obtain rfl : x = a.length := by omega
  refine AW.seq fun _ k2 => AW.cond false (by simp [Int.natCast_inj]) (fun h => by cases h) (fun _ => ?_)
  refine AW.exit ?_
  simp
  refine k1 _ ?_
  refine AW.seq fun _ kr => AW.region [] Θ_ok ?_
  simp
  refine kr _ (AW.ret ?_)
  simp [Try.f45]
  refine Fin.freeze (k := true) (upd_same _ _ _) (fun _ => rfl) rfl (by simp) (ones_bools _ _) h (by simp [upd_none_id ho]; exact subH.refl _) ⟨?_, rfl⟩
  simp only [bools, r9andL, map_tab]
  congr 1
  exact tab_congr fun i hi => by simp [hi]

theorem r9_or (a l : List Bool) (hb : a.length ≤ 17592186044416) : Pure Try.prog 44 [.ro false (bools a), .ro false (bools l)] (.ro true (bools (r9orL a l))) := by
  have hn' : a.length ≤ 1152921504606846976 := by omega
  intro h
  refine AC.body Θ_ok Try.func44 rfl rfl (Nat.le_of_ble_eq_true rfl) ?_
  refine AW.seq fun _ k1 => AW.region [] Θ_ok ?_
  simp
  refine k1 _ ?_
  refine AW.seq fun _ k1 => AW.region [9] Θ_ok ?_
  simp
  refine ⟨by omega, fun o ho => k1 _ ?_⟩
  rw [replicate_tab, flat_tab (fun _ _ => rfl)]
  refine AW.seq fun _ k1 => ?_
  refine AW.seq fun _ k2 => AW.region [] Θ_ok ?_
  simp
  refine k2 _ ?_
  refine AW.block ?_
  refine AW.loopI (X := Nat) (fun x => x ≤ a.length) (fun x => ⟨29, [(12, .int .i64 x), (11, .int .i64 a.length), (5, .mu o a.length), (0, .ro false (bools a)), (1, .ro false (bools l))], upd h o (some ⟨tab a.length fun i => .bool (decide (i < x) && (hasN a i || hasN l i)), 4, 1, true⟩)⟩) (fun x => a.length - x) 0 (Nat.zero_le _) (GStep.eq (by simp) ?_) fun x hx => ?_
  · simp; exact subH.refl _
  refine AW.seq fun _ k2 => AW.region [] Θ_ok ?_
  simp
  refine k2 _ ?_
  by_cases hlt : x < a.length
  · have inc := wrap_succ (show x < 9223372036854775807 by omega)
    have ea : (decide (0 ≤ (x : Int)) && hasI l (x : Int)) = hasN l x := by simp
    have sa := r9_Has l x
    rw [ea] at sa
    have hset : (tab a.length fun i => AV.bool (decide (i < x) && (hasN a i || hasN l i))).set x (.bool ((hasN a x || hasN l x))) = tab a.length fun i => .bool (decide (i < x + 1) && (hasN a i || hasN l i)) := by
      rw [set_tab]
      refine tab_congr fun i hi => ?_
      by_cases e : i = x
      · subst e; simp
      · by_cases h1 : i < x
        · simp [e, h1, show i < x + 1 by omega]
        · simp [e, h1, show ¬ i < x + 1 by omega]
    refine AW.seq fun _ k2 => AW.cond true (by simp [Int.natCast_inj, hlt]) (fun _ => ?_) (fun h => by cases h)
    refine AW.skip ?_
    simp
    refine k2 _ ?_
    refine AW.seq fun _ k2 => ?_
    refine AW.block ?_
    refine AW.seq fun _ k3 => AW.region [] Θ_ok ?_
    simp
    refine k3 _ ?_
    have hax : hasN a x = a[x] := by simp [hasN, hlt]
    cases hv : a[x]
    · have e : (hasN a x || hasN l x) = hasN l x := by rw [hax, hv]; rfl
      rw [e] at hset
      refine AW.regionAt 10 [] Θ_ok fun B hB => ?_
      simp [hlt, hv]
      refine sa.use (by simp) ?_
      generalize hasN l x = v at *
      refine hB _ ?_
      clear hB B
      simp [hlt]
      refine ⟨by omega, k2 _ ?_⟩
      refine AW.region [] Θ_ok ?_
      simp
      exact ⟨x + 1, by omega, by omega, GStep.eq (by simp [inc]) (subH_of_eq (congrArg (fun c => upd h o (some ⟨c, 4, 1, true⟩)) hset))⟩
    · have e : (hasN a x || hasN l x) = true := by rw [hax, hv]; rfl
      rw [e] at hset
      refine AW.region [] Θ_ok ?_
      simp [hlt, hv]
      refine ⟨by omega, k2 _ ?_⟩
      refine AW.region [] Θ_ok ?_
      simp
      exact ⟨x + 1, by omega, by omega, GStep.eq (by simp [inc]) (subH_of_eq (congrArg (fun c => upd h o (some ⟨c, 4, 1, true⟩)) hset))⟩
  obtain rfl : x = a.length := by omega
  refine AW.seq fun _ k2 => AW.cond false (by simp [Int.natCast_inj]) (fun h => by cases h) (fun _ => ?_)
  refine AW.exit ?_
  simp
  refine k1 _ ?_
  refine AW.seq fun _ kr => AW.region [] Θ_ok ?_
  simp
  refine kr _ (AW.ret ?_)
  simp [Try.f44]
  refine Fin.freeze (k := true) (upd_same _ _ _) (fun _ => rfl) rfl (by simp) (ones_bools _ _) h (by simp [upd_none_id ho]; exact subH.refl _) ⟨?_, rfl⟩
  simp only [bools, r9orL, map_tab]
  congr 1
  exact tab_congr fun i hi => by simp [hi]

theorem r9_rows (g : G) (hf : g.fits) (l : List (List Bool)) : Pure Try.prog 43 [g.av, .ro false (bools2 l)] (rowsA g l) := by
  intro h
  refine AC.body Θ_ok Try.func43 rfl rfl (Nat.le_of_ble_eq_true rfl) ?_
  refine AW.seq fun _ k1 => AW.region [] Θ_ok ?_
  simp
  refine k1 _ ?_
  refine AW.seq fun _ k1 => ?_
  refine AW.seq fun _ k2 => AW.region [] Θ_ok ?_
  simp
  refine k2 _ ?_
  by_cases hl : l = []
  · refine AW.cond true (by simp [Int.natCast_inj, hl]) (fun _ => ?_) (fun h => by cases h)
    refine AW.seq fun _ kr => AW.region [] Θ_ok ?_
    simp
    refine (r9_not g hf.owner []).use (by simp [G.av]) ?_
    simp
    refine kr _ (AW.ret ?_)
    simp [Try.f43]
    exact Fin.refl ⟨by simp [rowsA, hl, topL], rfl⟩
  · refine AW.cond false (by simp [Int.natCast_inj, hl]) (fun h => by cases h) (fun _ => ?_)
    refine AW.skip ?_
    simp
    refine k1 _ ?_
    refine AW.seq fun _ kr => AW.region [] Θ_ok ?_
    simp
    refine kr _ (AW.ret ?_)
    simp [Try.f43]
    exact Fin.refl ⟨by simp [rowsA, hl], rfl⟩
end Go.Par

set_option linter.unusedSimpArgs false
set_option linter.unusedVariables false
set_option maxRecDepth 8000
set_option maxHeartbeats 1000000
namespace Go.Par
open Go.Proofs

@[simp] theorem rowsA_len (g : G) (l : List (List Bool)) : lenA (rowsA g l) = some (rowsL g l).length := by
  unfold rowsA rowsL; split <;> simp [lenA]
theorem r9and_eq {g : G} {a b : List Bool} (h : a.length = g.owner.length) : r9andL a b = andL g a b := by simp only [r9andL, andL, h]
theorem r9or_eq {g : G} {a b : List Bool} (h : a.length = g.owner.length) : r9orL a b = orL g a b := by simp only [r9orL, orL, h]
theorem row_and (g : G) (a b : List Bool) : r9andL (rowL g a) b = andL g a b := by
  have hl : (rowL g a).length = g.owner.length := length_tab _ _
  simp only [r9andL, andL, hl]
  exact tab_congr fun v hv => by
    have : hasN (rowL g a) v = hasN a v := by simp [rowL, hasN, hv]
    rw [this]
theorem bot_rep (g : G) : (List.replicate g.owner.length (AV.bool false)) = bools (botL g) := by
  rw [replicate_tab, botL, andL]
  simp only [bools, map_tab]
  exact tab_congr fun v _ => by simp [hasN]

/-- What the first rows of assume come to, of no rows: nothing. -/
def allK (g : G) (A : List (List Bool)) (s : List Bool) (k : Nat) : List Bool := if k = 0 then botL g else levelK g A s k
theorem allK_len (g : G) (A : List (List Bool)) (s : List Bool) : ∀ k, (allK g A s k).length = g.owner.length
  | 0 => len_and _ _ _
  | k + 1 => len_or _ _ _
theorem allK_step (g : G) (A : List (List Bool)) (s : List Bool) (k : Nat) : orL g (allK g A s k) (great g (stepL g s (A.getD k []))) = allK g A s (k + 1) := by
  cases k with
  | zero =>
    show orL g (botL g) (great g (stepL g s (A.getD 0 []))) = levelK g A s 1
    rw [levelK, levelK]
    exact tab_congr fun v hv => by
      have : hasN (botL g) v = false := by rw [botL, has_and hv]; simp [hasN]
      rw [this]; simp [hasN]
  | succ k => rfl

def gr1A (g : G) (A E : List (List Bool)) : AV := if mayE g = 0 ∧ A.length ≤ 4 ∧ E.length ≤ 4 then .tup [.ro true (bools (solveL g A E).1), .int .i64 ((solveL g A E).2 : Nat)] else .tup [.nils, .int .i64 0]

theorem r9_GR1 (g : G) (hf : g.fits) (A E : List (List Bool)) : Pure Try.prog 15 [g.av, .ro false (bools2 A), .ro false (bools2 E)] (gr1A g A E) := by
  have hb := hf.owner
  intro h
  refine AC.body Θ_ok Try.func15 rfl rfl (Nat.le_of_ble_eq_true rfl) ?_
  refine AW.seq fun _ k1 => AW.region [] Θ_ok ?_
  simp
  refine k1 _ ?_
  refine AW.seq fun _ k1 => ?_
  by_cases hall : mayE g = 0 ∧ A.length ≤ 4 ∧ E.length ≤ 4
  · have hfin : gr1A g A E = .tup [.ro true (bools (solveL g A E).1), .int .i64 ((solveL g A E).2 : Nat)] := if_pos hall
    obtain ⟨hm, h3, h4⟩ := hall
    have hn3 := (may_ok hm).1
    have c1 : (A.length : Int) ≤ 4 := by omega
    have c2 : (E.length : Int) ≤ 4 := by omega
    refine AW.seq fun _ k2 => AW.regionAt 2 [] Θ_ok fun B hB => ?_
    simp
    refine (r9_May g hf).use (by simp [G.av]) ?_
    refine hB _ ?_
    clear hB B
    simp [hm, c1, c2, Int.not_lt.2 c1, Int.not_lt.2 c2]
    refine k2 _ ?_
    refine AW.cond false (by simp [Int.natCast_inj, c2]) (fun h => by cases h) (fun _ => ?_)
    refine AW.skip ?_
    simp
    refine k1 _ ?_
    have sRA := r9_rows g hf A
    have sRE := r9_rows g hf E
    have wRA := rowsA_weak g A
    have wRE := rowsA_weak g E
    have lRA := rowsA_len g A
    have lRE := rowsA_len g E
    unfold lenA at lRA lRE
    have hA4 := rowsL_le g A h3
    have hE4 := rowsL_le g E h4
    have hA0 := rowsL_pos g A
    have hsol : solveL g A E = solveG g (rowsL g A) (rowsL g E) (g.owner.length + 1) (topL g) 0 := rfl
    generalize solveL g A E = R at *
    generalize rowsL g A = A' at *
    generalize rowsL g E = E' at *
    generalize rowsA g A = VA at *
    generalize rowsA g E = VE at *
    have sF : ∀ x, Pure Try.prog 47 [g.av, .int .i64 1, .ro false (bools x)] (.ro true (bools (forceL g 1 x))) := fun x => by
      have := r9_Force g hf 1 x
      rwa [forceA1 g hf hm] at this
    have sT := r9_not g hb []
    rw [show notL g [] = topL g from rfl] at sT
    refine AW.seq fun _ k1 => AW.region [] Θ_ok ?_
    simp
    refine sT.use (by simp [G.av]) ?_
    refine k1 _ ?_
    refine AW.block ?_
    have hct : cntS (topL g) < g.owner.length + 1 := by have := cntS_le (topL g); rw [topL, len_not] at this; rw [topL]; omega
    refine AW.loopI (X := SX) (fun s => Kept g A' s.z ∧ cntS s.z < s.f ∧ s.k + s.f = g.owner.length + 1 ∧ solveG g A' E' s.f s.z s.k = R) (fun s => ⟨101, [(8, .ro true (bools s.z)), (9, .int .i64 s.k), (1, .ro false (bools2 A)), (2, .ro false (bools2 E)), (3, .rop [.ro false (ints g.owner), .ro false (rows g.next)])], h⟩) (fun s => s.f) ⟨topL g, 0, g.owner.length + 1⟩ ⟨kept_top _, hct, by simp only; omega, hsol.symm⟩ (GStep.eq (by simp) (subH.refl _)) ?_
    clear hct hsol
    rintro ⟨z, k, f⟩ ⟨hK, hc, hkf, hR⟩
    simp only at hK hc hkf hR ⊢
    refine AW.block ?_
    refine AW.seq fun _ k2 => AW.region [] Θ_ok ?_
    simp
    refine k2 _ ?_
    refine AW.seq fun _ k2 => ?_
    refine AW.seq fun _ k3 => AW.regionAt 3 [] Θ_ok fun B hB => ?_
    simp
    refine sRE.use (by simp [G.av]) ?_
    refine hB _ ?_
    clear hB B
    simp [lRE]
    refine k3 _ ?_
    refine AW.weaken 38 (.ro false (bools2 E')) rfl (.inr wRE) ?_
    refine AW.block ?_
    refine AW.loopI (X := Nat) (fun x => x ≤ E'.length) (fun x => ⟨101, [(40, .int .i64 x), (39, .int .i64 E'.length), (38, .ro false (bools2 E')), (10, .ro true (bools z)), (8, .ro true (bools (roundK g A' E' z x))), (9, .int .i64 k), (1, .ro false (bools2 A)), (2, .ro false (bools2 E)), (3, .rop [.ro false (ints g.owner), .ro false (rows g.next)])], h⟩) (fun x => E'.length - x) 0 (Nat.zero_le _) (GStep.eq (by simp [roundK]) (subH.refl _)) fun x hx => ?_
    refine AW.seq fun _ k3 => AW.region [] Θ_ok ?_
    simp
    refine k3 _ ?_
    by_cases hlt : x < E'.length
    · have inc := wrap_succ (show x < 9223372036854775807 by omega)
      obtain ⟨_, hKx⟩ := round_kept hm hA0 E' hK x
      have lx := hKx.1
      have hstepx : roundK g A' E' z (x + 1) = leastL g A' E'[x] (roundK g A' E' z x) := by simp [roundK, hlt]
      obtain ⟨zx, hzx⟩ : ∃ zx, zx = roundK g A' E' z x := ⟨_, rfl⟩
      rw [← hzx] at hstepx lx
      simp only [← hzx]
      clear hKx
      refine AW.seq fun _ k3 => AW.cond true (by simp [Int.natCast_inj, hlt]) (fun _ => ?_) (fun h => by cases h)
      refine AW.skip ?_
      simp
      refine k3 _ ?_
      refine AW.seq fun _ k3 => ?_
      refine AW.block ?_
      refine AW.seq fun _ k4 => AW.region [] Θ_ok ?_
      simp [hlt]
      refine k4 _ ?_
      obtain ⟨row, hrow⟩ : ∃ row, row = E'[x] := ⟨_, rfl⟩
      rw [← hrow] at hstepx ⊢
      refine AW.seq fun _ k4 => AW.region [] Θ_ok ?_
      simp
      refine ⟨by omega, k4 _ ?_⟩
      rw [lx, bot_rep]
      have M := level_mon hm hA0 (goalL g row zx)
      have hbot : (botL g).length = g.owner.length := len_and _ _ _
      have hble : leS g.owner.length (botL g) (levelL g A' (goalL g row zx) (botL g)) := bot_le _
      have hLd : leastL g A' row zx = fixG (levelL g A' (goalL g row zx)) (g.owner.length + 1) (botL g) := rfl
      have sRow := r9_Row g hb row
      have sFz := sF zx
      have sAnd := r9_and (rowL g row) (forceL g 1 zx) (by rw [rowL, length_tab]; exact hb)
      rw [row_and, show andL g row (forceL g 1 zx) = goalL g row zx from rfl] at sAnd
      have hgl : (goalL g row zx).length = g.owner.length := len_and _ _ _
      generalize rowL g row = rw_ at *
      generalize forceL g 1 zx = fz at *
      generalize goalL g row zx = goal at *
      generalize leastL g A' row zx = LR at *
      refine AW.seq fun _ k4 => ?_
      refine AW.block ?_
      refine AW.loopI (X := FX) (fun s => s.x.length = g.owner.length ∧ leS g.owner.length s.x (levelL g A' goal s.x) ∧ g.owner.length < s.f + cntS s.x ∧ fixG (levelL g A' goal) s.f s.x = LR) (fun s => ⟨101, [(13, .ro true (bools s.x)), (12, .ro false (bools row)), (40, .int .i64 x), (39, .int .i64 E'.length), (38, .ro false (bools2 E')), (10, .ro true (bools z)), (8, .ro true (bools zx)), (9, .int .i64 k), (1, .ro false (bools2 A)), (2, .ro false (bools2 E)), (3, .rop [.ro false (ints g.owner), .ro false (rows g.next)])], h⟩) (fun s => s.f) ⟨botL g, g.owner.length + 1⟩ ⟨hbot, hble, by simp only; omega, hLd.symm⟩ (GStep.eq (by simp) (subH.refl _)) ?_
      clear hLd hbot hble
      rintro ⟨y, fy⟩ ⟨hl, hd, hcn, hRy⟩
      simp only at hl hd hcn hRy ⊢
      have hlen := M.len y
      have hmo := M.mono _ _ hd
      have hfs : ∀ f', ¬ levelL g A' goal y = y → fixG (levelL g A' goal) (f' + 1) y = fixG (levelL g A' goal) f' (levelL g A' goal y) := fun f' q => fixG_step q
      have hfa : levelL g A' goal y = y → fixG (levelL g A' goal) fy y = y := fun q => fixG_at q
      have hlev : levelL g A' goal y = allK g A' (sureL g goal y) A'.length := by rw [levelL, allK, if_neg (by omega)]
      obtain ⟨w, hw⟩ : ∃ w, w = levelL g A' goal y := ⟨_, rfl⟩
      rw [← hw] at hlen hd hmo hfs hfa hlev
      have sFy := sF y
      have sOr := r9_or goal (forceL g 1 y) (by rw [hgl]; exact hb)
      rw [r9or_eq hgl, show orL g goal (forceL g 1 y) = sureL g goal y from rfl] at sOr
      have hsl : (sureL g goal y).length = g.owner.length := len_or _ _ _
      generalize forceL g 1 y = fyv at *
      generalize sureL g goal y = sure at *
      refine AW.block ?_
      refine AW.seq fun _ k5 => AW.draw [] 12 [] Θ_ok mixed (by kernel_rfl) (by kernel_rfl) ?_
      simp [vcDraw, vcPre, vcTail, callA, isAlloc, isLoad, effOp, obl, obA, mkOK, valA]
      refine ⟨_, sRow.wk (by simp [G.av]), ?_⟩
      try simp
      refine ⟨_, sFz.wk (by simp [G.av]), ?_⟩
      try simp
      refine ⟨_, sAnd.wk (by simp), ?_⟩
      try simp
      refine ⟨_, sFy.wk (by simp [G.av]), ?_⟩
      try simp
      refine ⟨_, sOr.wk (by simp), ?_⟩
      try simp
      refine k5 _ ?_
      refine AW.seq fun _ k5 => AW.region [] Θ_ok ?_
      simp
      refine ⟨by omega, k5 _ ?_⟩
      rw [lx, bot_rep]
      refine AW.seq fun _ k5 => ?_
      refine AW.seq fun _ k6 => AW.regionAt 3 [] Θ_ok fun B hB => ?_
      simp
      refine sRA.use (by simp [G.av]) ?_
      refine hB _ ?_
      clear hB B
      simp [lRA]
      refine k6 _ ?_
      refine AW.weaken 63 (.ro false (bools2 A')) rfl (.inr wRA) ?_
      refine AW.block ?_
      refine AW.loopI (X := Nat) (fun j => j ≤ A'.length) (fun j => ⟨101, [(65, .int .i64 j), (64, .int .i64 A'.length), (63, .ro false (bools2 A')), (15, .ro true (bools (allK g A' sure j))), (14, .ro true (bools sure)), (13, .ro true (bools y)), (12, .ro false (bools row)), (40, .int .i64 x), (39, .int .i64 E'.length), (38, .ro false (bools2 E')), (10, .ro true (bools z)), (8, .ro true (bools zx)), (9, .int .i64 k), (1, .ro false (bools2 A)), (2, .ro false (bools2 E)), (3, .rop [.ro false (ints g.owner), .ro false (rows g.next)])], h⟩) (fun j => A'.length - j) 0 (Nat.zero_le _) (GStep.eq (by simp [allK]) (subH.refl _)) fun j hj => ?_
      refine AW.seq fun _ k6 => AW.region [] Θ_ok ?_
      simp
      refine k6 _ ?_
      by_cases hjl : j < A'.length
      · have incj := wrap_succ (show j < 9223372036854775807 by omega)
        have sStep := r9_or (allK g A' sure j) (great g (stepL g sure A'[j])) (by rw [allK_len]; exact hb)
        rw [r9or_eq (allK_len _ _ _ _), show great g (stepL g sure A'[j]) = great g (stepL g sure (A'.getD j [])) by simp [hjl], allK_step] at sStep
        have hgd : great g (stepL g sure (A'.getD j [])) = fixG (stepL g sure (A'.getD j [])) (g.owner.length + 1) (topL g) := rfl
        have hgj : A'.getD j [] = A'[j] := by simp [hjl]
        rw [hgj] at sStep hgd
        have Ms := step_mon hm sure A'[j]
        have htl : (topL g).length = g.owner.length := len_not _ _
        have htd : leS g.owner.length (stepL g sure A'[j] (topL g)) (topL g) := le_top _
        have hct : cntS (topL g) < g.owner.length + 1 := by have := cntS_le (topL g); rw [htl] at this; omega
        obtain ⟨a, ha⟩ : ∃ a, a = A'[j] := ⟨_, rfl⟩
        rw [← ha] at sStep hgd Ms htd
        obtain ⟨nx, hnx⟩ : ∃ nx, nx = allK g A' sure (j + 1) := ⟨_, rfl⟩
        rw [← hnx] at sStep
        generalize great g (stepL g sure a) = gr at *
        refine AW.seq fun _ k6 => AW.cond true (by simp [Int.natCast_inj, hjl]) (fun _ => ?_) (fun h => by cases h)
        refine AW.skip ?_
        simp
        refine k6 _ ?_
        refine AW.seq fun _ k6 => ?_
        refine AW.block ?_
        refine AW.seq fun _ k7 => AW.region [] Θ_ok ?_
        simp [hjl]
        refine k7 _ ?_
        rw [← ha]
        refine AW.seq fun _ k7 => AW.region [] Θ_ok ?_
        simp
        refine sT.use (by simp [G.av]) ?_
        refine k7 _ ?_
        refine AW.seq fun _ k7 => ?_
        refine AW.block ?_
        refine AW.loopI (X := FX) (fun s => s.x.length = g.owner.length ∧ leS g.owner.length (stepL g sure a s.x) s.x ∧ cntS s.x < s.f ∧ fixG (stepL g sure a) s.f s.x = gr) (fun s => ⟨101, [(18, .ro true (bools s.x)), (17, .ro false (bools a)), (65, .int .i64 j), (64, .int .i64 A'.length), (63, .ro false (bools2 A')), (15, .ro true (bools (allK g A' sure j))), (14, .ro true (bools sure)), (13, .ro true (bools y)), (12, .ro false (bools row)), (40, .int .i64 x), (39, .int .i64 E'.length), (38, .ro false (bools2 E')), (10, .ro true (bools z)), (8, .ro true (bools zx)), (9, .int .i64 k), (1, .ro false (bools2 A)), (2, .ro false (bools2 E)), (3, .rop [.ro false (ints g.owner), .ro false (rows g.next)])], h⟩) (fun s => s.f) ⟨topL g, g.owner.length + 1⟩ ⟨htl, htd, hct, hgd.symm⟩ (GStep.eq (by simp) (subH.refl _)) ?_
        clear htl htd hct hgd
        rintro ⟨xx, fx⟩ ⟨hxl, hxd, hxc, hRx⟩
        simp only at hxl hxd hxc hRx ⊢
        have sN := r9_not g hb a
        have sFx := sF xx
        have sA2 := r9_and (notL g a) (forceL g 1 xx) (by rw [len_not]; exact hb)
        rw [r9and_eq (len_not _ _)] at sA2
        have sO2 := r9_or sure (andL g (notL g a) (forceL g 1 xx)) (by rw [hsl]; exact hb)
        rw [r9or_eq hsl, show orL g sure (andL g (notL g a) (forceL g 1 xx)) = stepL g sure a xx from rfl] at sO2
        have hxl2 := Ms.len xx
        have hxm := Ms.mono _ _ hxd
        have hxs : ∀ f', ¬ stepL g sure a xx = xx → fixG (stepL g sure a) (f' + 1) xx = fixG (stepL g sure a) f' (stepL g sure a xx) := fun f' q => fixG_step q
        have hxa : stepL g sure a xx = xx → fixG (stepL g sure a) fx xx = xx := fun q => fixG_at q
        obtain ⟨w2, hw2⟩ : ∃ w2, w2 = stepL g sure a xx := ⟨_, rfl⟩
        rw [← hw2] at sO2 hxl2 hxd hxm hxs hxa
        generalize andL g (notL g a) (forceL g 1 xx) = an at *
        generalize notL g a = na at *
        generalize forceL g 1 xx = fxx at *
        refine AW.block ?_
        refine AW.seq fun _ k8 => AW.draw [] 10 [] Θ_ok mixed (by kernel_rfl) (by kernel_rfl) ?_
        simp [vcDraw, vcPre, vcTail, callA, isAlloc, isLoad, effOp, obl, obA, mkOK, valA]
        refine ⟨_, sN.wk (by simp [G.av]), ?_⟩
        try simp
        refine ⟨_, sFx.wk (by simp [G.av]), ?_⟩
        try simp
        refine ⟨_, sA2.wk (by simp), ?_⟩
        try simp
        refine ⟨_, sO2.wk (by simp), ?_⟩
        try simp
        refine k8 _ ?_
        have sE := r9_SameRow w2 xx (by omega)
        generalize hbv : decide (w2 = xx) = bv at sE
        refine AW.seq fun _ k8 => ?_
        refine AW.seq fun _ k9 => AW.region [] Θ_ok ?_
        simp
        refine sE.use (by simp) ?_
        refine k9 _ ?_
        cases bv
        · have e := of_decide_eq_false hbv
          clear hbv
          refine AW.cond false (by simp [Int.natCast_inj]) (fun h => by cases h) (fun _ => ?_)
          refine AW.skip ?_
          simp
          refine k8 _ ?_
          refine AW.region [] Θ_ok ?_
          simp
          obtain ⟨f', rfl⟩ : ∃ f', fx = f' + 1 := ⟨fx - 1, by omega⟩
          have hc' := (cnt_mono hxl2 hxl hxd).2 e
          exact ⟨⟨w2, f'⟩, ⟨hxl2, hxm, by simp only; omega, by simp only; rw [← hRx, hxs f' e]⟩, by simp only; omega, GStep.eq (by simp) (subH.refl _)⟩
        · have e := of_decide_eq_true hbv
          clear hbv
          have hx2 : xx = gr := by rw [← hRx, hxa e]
          subst hx2
          refine AW.cond true (by simp [Int.natCast_inj]) (fun _ => ?_) (fun h => by cases h)
          refine AW.exit ?_
          simp
          refine k7 _ ?_
          refine AW.region [] Θ_ok ?_
          simp
          refine sStep.use (by simp) ?_
          refine k6 _ ?_
          refine AW.region [] Θ_ok ?_
          simp
          exact ⟨j + 1, by omega, by omega, GStep.eq (by simp [incj, hnx]) (subH.refl _)⟩
      · obtain rfl : j = A'.length := by omega
        refine AW.seq fun _ k6 => AW.cond false (by simp [Int.natCast_inj]) (fun h => by cases h) (fun _ => ?_)
        refine AW.exit ?_
        simp
        refine k5 _ ?_
        rw [← hlev]
        have sE := r9_SameRow w y (by omega)
        generalize hbv : decide (w = y) = bv at sE
        refine AW.seq fun _ k5 => ?_
        refine AW.seq fun _ k6 => AW.region [] Θ_ok ?_
        simp
        refine sE.use (by simp) ?_
        refine k6 _ ?_
        cases bv
        · have e := of_decide_eq_false hbv
          clear hbv
          refine AW.cond false (by simp [Int.natCast_inj]) (fun h => by cases h) (fun _ => ?_)
          refine AW.skip ?_
          simp
          refine k5 _ ?_
          refine AW.region [] Θ_ok ?_
          simp
          have hc' := (cnt_mono hl hlen hd).2 (fun q => e q.symm)
          have hcw := cntS_le w
          obtain ⟨f', rfl⟩ : ∃ f', fy = f' + 1 := ⟨fy - 1, by omega⟩
          exact ⟨⟨w, f'⟩, ⟨hlen, hmo, by simp only; omega, by simp only; rw [← hRy, hfs f' e]⟩, by simp only; omega, GStep.eq (by simp) (subH.refl _)⟩
        · have e := of_decide_eq_true hbv
          clear hbv
          have hy2 : y = LR := by rw [← hRy, hfa e]
          subst hy2
          refine AW.cond true (by simp [Int.natCast_inj]) (fun _ => ?_) (fun h => by cases h)
          refine AW.exit ?_
          simp
          refine k4 _ ?_
          refine AW.region [] Θ_ok ?_
          simp
          refine k3 _ ?_
          refine AW.region [] Θ_ok ?_
          simp
          exact ⟨x + 1, by omega, by omega, GStep.eq (by simp [inc, hstepx]) (subH.refl _)⟩
    · obtain rfl : x = E'.length := by omega
      refine AW.seq fun _ k3 => AW.cond false (by simp [Int.natCast_inj]) (fun h => by cases h) (fun _ => ?_)
      refine AW.exit ?_
      simp
      refine k2 _ ?_
      obtain ⟨hle, hK'⟩ := round_kept hm hA0 E' hK E'.length
      obtain ⟨f', rfl⟩ : ∃ f', f = f' + 1 := ⟨f - 1, by omega⟩
      have hstep : solveG g A' E' (f' + 1) z k = if z = roundK g A' E' z E'.length then (z, k) else solveG g A' E' f' (roundK g A' E' z E'.length) (k + 1) := rfl
      generalize roundK g A' E' z E'.length = Z at *
      have sE := r9_SameRow Z z (by have := hK'.1; omega)
      generalize hbv : decide (Z = z) = bv at sE
      refine AW.seq fun _ k2 => ?_
      refine AW.seq fun _ k3 => AW.region [] Θ_ok ?_
      simp
      refine sE.use (by simp) ?_
      refine k3 _ ?_
      cases bv
      · have e := of_decide_eq_false hbv
        clear hbv
        rw [if_neg (fun q => e q.symm), hR] at hstep
        have inck := wrap_succ (show k < 9223372036854775807 by omega)
        refine AW.cond false (by simp [Int.natCast_inj]) (fun h => by cases h) (fun _ => ?_)
        refine AW.skip ?_
        simp
        refine k2 _ ?_
        refine AW.region [] Θ_ok ?_
        simp
        have hc' := (cnt_mono hK'.1 hK.1 hle).2 e
        exact ⟨⟨Z, k + 1, f'⟩, ⟨hK', by simp only; omega, by simp only; omega, hstep.symm⟩, by simp only; omega, GStep.eq (by simp [inck]) (subH.refl _)⟩
      · have e := of_decide_eq_true hbv
        clear hbv
        rw [if_pos e.symm, hR] at hstep
        refine AW.cond true (by simp [Int.natCast_inj]) (fun _ => ?_) (fun h => by cases h)
        refine AW.seq fun _ kr => AW.region [] Θ_ok ?_
        simp
        refine kr _ (AW.ret ?_)
        simp [Try.f15]
        exact Fin.refl ⟨by rw [hfin, hstep, e], rfl⟩
  · have hfin : gr1A g A E = .tup [.nils, .int .i64 0] := if_neg hall
    have hbad : ¬ mayE g = 0 ∨ mayE g = 0 ∧ (4 : Int) < (A.length : Int) ∨ mayE g = 0 ∧ ¬ (4 : Int) < (A.length : Int) ∧ (4 : Int) < (E.length : Int) := by
      by_cases a2 : mayE g = 0
      · by_cases a3 : 4 < (A.length : Int)
        · exact .inr (.inl ⟨a2, a3⟩)
        · exact .inr (.inr ⟨a2, a3, by
            by_cases a4 : 4 < (E.length : Int)
            · exact a4
            · exact absurd ⟨a2, by omega, by omega⟩ hall⟩)
      · exact .inl a2
    rcases hbad with h1 | ⟨h1, h2⟩ | ⟨h1, h2, h3⟩
    · refine AW.seq fun _ k2 => AW.regionAt 2 [] Θ_ok fun B hB => ?_
      simp
      refine (r9_May g hf).use (by simp [G.av]) ?_
      refine hB _ ?_
      clear hB B
      simp [h1]
      refine k2 _ ?_
      refine AW.cond true (by simp [Int.natCast_inj]) (fun _ => ?_) (fun h => by cases h)
      refine AW.seq fun _ kr => AW.region [] Θ_ok ?_
      simp
      refine kr _ (AW.ret ?_)
      simp [Try.f15]
      exact Fin.refl ⟨hfin.symm, rfl⟩
    · refine AW.seq fun _ k2 => AW.regionAt 2 [] Θ_ok fun B hB => ?_
      simp
      refine (r9_May g hf).use (by simp [G.av]) ?_
      refine hB _ ?_
      clear hB B
      simp [h1, h2]
      refine k2 _ ?_
      refine AW.cond true (by simp [Int.natCast_inj]) (fun _ => ?_) (fun h => by cases h)
      refine AW.seq fun _ kr => AW.region [] Θ_ok ?_
      simp
      refine kr _ (AW.ret ?_)
      simp [Try.f15]
      exact Fin.refl ⟨hfin.symm, rfl⟩
    · refine AW.seq fun _ k2 => AW.regionAt 2 [] Θ_ok fun B hB => ?_
      simp
      refine (r9_May g hf).use (by simp [G.av]) ?_
      refine hB _ ?_
      clear hB B
      simp [h1, h2, Int.not_lt.1 h2, h3]
      refine k2 _ ?_
      refine AW.cond true (by simp [Int.natCast_inj, h3]) (fun _ => ?_) (fun h => by cases h)
      refine AW.seq fun _ kr => AW.region [] Θ_ok ?_
      simp
      refine kr _ (AW.ret ?_)
      simp [Try.f15]
      exact Fin.refl ⟨hfin.symm, rfl⟩
end Go.Par
