/- small.Winners; measures that every program must know. -/
import Derived.Test.YtihlpchiomkinaaSpJ
import Derived.Test.YtihlpchiomkinaaRkA
set_option linter.unusedSimpArgs false
set_option linter.unusedVariables false
set_option maxRecDepth 8000
set_option maxHeartbeats 2000000
namespace Go.Par
open Go.Proofs

noncomputable def smW (g : G) (P : List Int) : AV := if mayP g P then .ro true (ints (winM (measL g P))) else .nils
def wiW (L : List Ms) (v : Nat) : List Int := tab L.length fun i => if i < v then winOf (xM L i) else 0
theorem wiW_len (L : List Ms) (v : Nat) : (wiW L v).length = L.length := length_tab _ _
theorem wiW_set {L : List Ms} {x : Nat} (hx : x < L.length) : (wiW L x).set x (winOf L[x]) = wiW L (x + 1) := by
  refine List.ext_getElem (by simp [wiW]) fun i h1 h2 => ?_
  have hi : i < L.length := by simpa [wiW] using h2
  rw [List.getElem_set]
  simp only [wiW, getElem_tab]
  by_cases e : x = i
  · subst e; rw [if_pos rfl, if_pos (Nat.lt_succ_self _)]; simp [xM, hx]
  · rw [if_neg e]
    by_cases q : i < x
    · rw [if_pos q, if_pos (by omega)]
    · rw [if_neg q, if_neg (by omega)]
theorem wiW_full (L : List Ms) : wiW L L.length = winM L := by
  refine List.ext_getElem (by simp [wiW, winM]) fun i h1 h2 => ?_
  have hi : i < L.length := by simpa [wiW] using h1
  simp [wiW, winM, hi, xM]

theorem small_Winners (g : G) (hf : g.fits) (P : List Int) (hP : P.length ≤ 1152921504606846976) : Pure Try.prog 34 [g.av, .ro false (ints P)] (smW g P) := by
  have sM := small_Measures g hf P hP
  intro h
  refine AC.body Θ_ok Try.func34 rfl rfl (Nat.le_of_ble_eq_true rfl) ?_
  refine AW.seq fun _ k1 => AW.region [] Θ_ok ?_
  simp
  refine k1 _ ?_
  by_cases hmp : mayP g P = true
  · have hfin : smW g P = .ro true (ints (winM (measL g P))) := if_pos hmp
    rw [smA, if_pos hmp] at sM
    have ok := mayP_mg hmp
    have hn := (may_ok ok.m).1
    have lL : (measL g P).length = g.owner.length := meas_len ok
    obtain ⟨L, hL⟩ : ∃ L, L = measL g P := ⟨_, rfl⟩
    rw [← hL] at hfin sM lL
    refine AW.seq fun _ k1 => AW.regionAt 3 [] Θ_ok fun B hB => ?_
    simp
    refine sM.use (by simp [G.av]) ?_
    refine hB _ ?_
    clear hB B
    simp
    refine k1 _ ?_
    refine AW.seq fun _ k1 => ?_
    refine AW.seq fun _ k2 => AW.region [] Θ_ok ?_
    simp
    refine k2 _ ?_
    refine AW.cond false (by simp [Int.natCast_inj]) (fun h => by cases h) (fun _ => ?_)
    refine AW.skip ?_
    simp
    refine k1 _ ?_
    have b1 : 8 * (L.length : Int) ≤ 140737488355328 := by omega
    have b2 : (L.length : Int) ≤ 140737488355328 := by omega
    have e1 : (List.replicate L.length (AV.int IntKind.i64 0)).flatMap AV.flat = (wiW L 0).map (AV.int .i64) := by
      rw [replicate_tab, flat_tab (fun _ _ => rfl)]; simp [wiW]
    refine AW.seq fun _ k1 => AW.region [20] Θ_ok ?_
    simp [newA]
    rw [e1]
    simp only [obI_mk]
    refine ⟨⟨b1, b2⟩, fun o ho => k1 _ ?_⟩
    clear e1 b1 b2
    refine AW.seq fun _ k1 => ?_
    refine AW.seq fun _ k2 => AW.region [] Θ_ok ?_
    simp
    refine k2 _ ?_
    have eH : ∀ X : Ob, upd h o (some X) o = some X := fun X => upd_same _ _ _
    have eU : ∀ X Y : Ob, upd (upd h o (some X)) o (some Y) = upd h o (some Y) := fun X Y => upd_upd _ _ _ _
    refine AW.block ?_
    refine AW.loopI (X := Nat) (fun x => x ≤ L.length) (fun x => ⟨37, [(7, .mu o L.length), (21, .ro true (bools (L.map topM))), (22, .int .i64 L.length), (23, .int .i64 x)], upd h o (some (obI (wiW L x)))⟩) (fun x => L.length - x) 0 (Nat.zero_le _) (GStep.eq (by simp) (subH.refl _)) fun x hx => ?_
    refine AW.seq fun _ k2 => AW.region [] Θ_ok ?_
    simp
    refine k2 _ ?_
    by_cases hlt : x < L.length
    · have inc := wrap_succ (show x < 9223372036854775807 by omega)
      have lw := wiW_len L x
      have s0 := wiW_set hlt
      have m1 := map_set_int (wiW L x) x 1
      have m2 : ∀ R : List Int, (R.map (AV.int .i64)).set x (.int .i64 0) = (R.set x 0).map (AV.int .i64) := fun R => map_set_int R x 0
      have ss : ((wiW L x).set x 1).set x 0 = (wiW L x).set x 0 := by rw [List.set_set]
      generalize hW : wiW L (x + 1) = W2 at *
      generalize wiW L x = W1 at *
      have lW1 : (W1.set x 1).length = L.length := by rw [List.length_set, lw]
      generalize hW1 : W1.set x 1 = W3 at *
      have lm : (L.map topM).length = L.length := by simp
      refine AW.seq fun _ k2 => AW.cond true (by simp [Int.natCast_inj, hlt]) (fun _ => ?_) (fun h => by cases h)
      refine AW.skip ?_
      simp
      refine k2 _ ?_
      refine AW.seq fun _ k2 => ?_
      refine AW.block ?_
      refine AW.seq fun _ k3 => AW.region [] Θ_ok ?_
      simp [hlt]
      refine k3 _ ?_
      refine AW.seq fun _ k3 => AW.region [] Θ_ok ?_
      simp [eH, lw, hlt, m1, obI_mk, eU]
      refine ⟨by omega, k3 _ ?_⟩
      refine AW.seq fun _ k3 => AW.region [] Θ_ok ?_
      simp
      refine k3 _ ?_
      cases ht : L[x] with
      | none =>
        rw [ht] at s0
        have s1 : W1.set x 0 = W2 := s0
        rw [s1] at ss
        have m3 := m2 W3
        rw [ss] at m3
        refine AW.cond true (by simp [Int.natCast_inj, ht, topM]) (fun _ => ?_) (fun h => by cases h)
        refine AW.region [] Θ_ok ?_
        simp [eH, lW1, hlt, m3, obI_mk, eU]
        refine ⟨by omega, k2 _ ?_⟩
        refine AW.region [] Θ_ok ?_
        simp
        exact ⟨x + 1, by omega, by omega, GStep.eq (by simp [inc]) (subH_of_eq (by rw [hW]))⟩
      | some t =>
        rw [ht] at s0
        have s1 : W3 = W2 := by rw [← hW1]; obtain ⟨_, _, _⟩ := t; exact s0
        refine AW.cond false (by simp [Int.natCast_inj, ht, topM]) (fun h => by cases h) (fun _ => ?_)
        refine AW.skip ?_
        simp
        refine k2 _ ?_
        refine AW.region [] Θ_ok ?_
        simp
        exact ⟨x + 1, by omega, by omega, GStep.eq (by simp [inc]) (subH_of_eq (by rw [hW, s1]))⟩
    have hxx : x = L.length := by omega
    subst hxx
    refine AW.seq fun _ k2 => AW.cond false (by simp [Int.natCast_inj]) (fun h => by cases h) (fun _ => ?_)
    refine AW.exit ?_
    simp
    refine k1 _ ?_
    refine AW.seq fun _ kr => AW.region [] Θ_ok ?_
    simp
    refine kr _ (AW.ret ?_)
    simp [Try.f34]
    refine Fin.freeze (k := true) (x := obI (wiW L L.length)) (eH _) (fun _ => rfl) rfl (by simp [wiW_len]) (fun u hu => by obtain ⟨z, _, rfl⟩ := List.mem_map.1 hu; rfl) h ?_ ⟨?_, rfl⟩
    · exact subH_of_eq (updN _ ho)
    · rw [hfin, obI_cells, wiW_full]
  · have hfin : smW g P = .nils := if_neg hmp
    rw [smA, if_neg hmp] at sM
    refine AW.seq fun _ k1 => AW.regionAt 3 [] Θ_ok fun B hB => ?_
    simp
    refine sM.use (by simp [G.av]) ?_
    refine hB _ ?_
    clear hB B
    simp
    refine k1 _ ?_
    refine AW.seq fun _ k1 => ?_
    refine AW.seq fun _ k2 => AW.region [] Θ_ok ?_
    simp
    refine k2 _ ?_
    refine AW.cond true (by simp [Int.natCast_inj]) (fun _ => ?_) (fun h => by cases h)
    refine AW.seq fun _ kr => AW.region [] Θ_ok ?_
    simp
    refine kr _ (AW.ret ?_)
    simp [Try.f34]
    exact Fin.refl ⟨hfin.symm, rfl⟩

/-! ### A game that is known -/
def ring16 : G := ⟨[1, 1], [[0, 1], [1]]⟩
theorem ring16_fits : ring16.fits := ⟨by decide, by decide, by decide⟩
theorem ring16_A : mayP ring16 [1, 2] = true := rfl
theorem ring16_B : mayP ring16 [1, 1] = true := rfl
theorem ring16_mA : measL ring16 [1, 2] = [some (1, 0, 0), some (0, 0, 0)] := by
  have ok := mayP_mg ring16_A
  have l0 : Lfi ring16 [1, 2] [some (0, 0, 0), some (0, 0, 0)] := Lfi.zero
  have l1 := l0.lift ok (v := 0) (by decide)
  rw [show shouldM ring16 [1, 2] [some (0, 0, 0), some (0, 0, 0)] 0 = some (1, 0, 0) from rfl] at l1
  have pre : Pre ring16 [1, 2] [some (1, 0, 0), some (0, 0, 0)] := by
    intro v hv
    have : v = 0 ∨ v = 1 := by have : v < 2 := hv; omega
    rcases this with rfl | rfl <;> decide
  exact (meas_eq ok (Lfi.done l1 pre)).symm
theorem ring16_mB : measL ring16 [1, 1] = [none, none] := by
  have ok := mayP_mg ring16_B
  have l0 : Lfi ring16 [1, 1] [some (0, 0, 0), some (0, 0, 0)] := Lfi.zero
  have l1 := l0.lift ok (v := 1) (by decide)
  rw [show shouldM ring16 [1, 1] [some (0, 0, 0), some (0, 0, 0)] 1 = some (1, 0, 0) from rfl] at l1
  have l2 := l1.lift ok (v := 1) (by decide)
  rw [show shouldM ring16 [1, 1] ([some (0, 0, 0), some (0, 0, 0)].set 1 (some (1, 0, 0))) 1 = some (2, 0, 0) from rfl] at l2
  have l3 := l2.lift ok (v := 1) (by decide)
  rw [show shouldM ring16 [1, 1] (([some (0, 0, 0), some (0, 0, 0)].set 1 (some (1, 0, 0))).set 1 (some (2, 0, 0))) 1 = none from rfl] at l3
  have l4 : Lfi ring16 [1, 1] [some (0, 0, 0), none] := l3
  have l5 := l4.lift ok (v := 0) (by decide)
  rw [show shouldM ring16 [1, 1] [some (0, 0, 0), none] 0 = some (1, 0, 0) from rfl] at l5
  have l6 := l5.lift ok (v := 0) (by decide)
  rw [show shouldM ring16 [1, 1] ([some (0, 0, 0), none].set 0 (some (1, 0, 0))) 0 = some (2, 0, 0) from rfl] at l6
  have l7 := l6.lift ok (v := 0) (by decide)
  rw [show shouldM ring16 [1, 1] (([some (0, 0, 0), none].set 0 (some (1, 0, 0))).set 0 (some (2, 0, 0))) 0 = none from rfl] at l7
  have pre : Pre ring16 [1, 1] [none, none] := by
    intro v hv
    have : v = 0 ∨ v = 1 := by have : v < 2 := hv; omega
    rcases this with rfl | rfl <;> decide
  exact (meas_eq ok (Lfi.done (x := [none, none]) l7 pre)).symm

theorem l16_awake : Pure Try.prog 30 [] (.bool true) := by
  have sA := small_Measures ring16 ring16_fits [1, 2] (by decide)
  have sW := small_Winners ring16 ring16_fits [1, 2] (by decide)
  have sB := small_Measures ring16 ring16_fits [1, 1] (by decide)
  rw [smA, if_pos ring16_A, ring16_mA] at sA
  rw [smA, if_pos ring16_B, ring16_mB] at sB
  rw [smW, if_pos ring16_A, ring16_mA] at sW
  obtain ⟨r, hr⟩ : ∃ r, r = numM (some (1, 0, 0)) := ⟨_, rfl⟩
  obtain ⟨a, ha⟩ : ∃ a, a = [numM (some (1, 0, 0)), numM (some (0, 0, 0))] := ⟨_, rfl⟩
  obtain ⟨b, hb⟩ : ∃ b, b = [topM (some (1, 0, 0)), topM (some (0, 0, 0))] := ⟨_, rfl⟩
  obtain ⟨c, hc⟩ : ∃ c, c = winM [some (1, 0, 0), some (0, 0, 0)] := ⟨_, rfl⟩
  obtain ⟨d, hd⟩ : ∃ d, d = [none, none].map numM := ⟨_, rfl⟩
  obtain ⟨e, he⟩ : ∃ e, e = [none, none].map topM := ⟨_, rfl⟩
  rw [show [some (1, 0, 0), some (0, 0, 0)].map numM = a from ha.symm, show [some (1, 0, 0), some (0, 0, 0)].map topM = b from hb.symm] at sA
  rw [← hc] at sW
  rw [← hd, ← he] at sB
  have al : a.length = 2 := by rw [ha]; rfl
  have bl : b.length = 2 := by rw [hb]; rfl
  have cl : c.length = 2 := by rw [hc]; rfl
  have el : e.length = 2 := by rw [he]; rfl
  have a0 : ∀ h, a[0]'h = r := by rw [ha, hr]; exact fun _ => rfl
  have b0 : ∀ h, b[0]'h = false := by rw [hb]; exact fun _ => rfl
  have c0 : ∀ h, c[0]'h = 1 := by rw [hc]; exact fun _ => rfl
  have e0 : ∀ h, e[0]'h = true := by rw [he]; exact fun _ => rfl
  have rl : r.length = 3 := by rw [hr]; rfl
  have r0 : ∀ h, r[0]'h = 1 := by rw [hr]; exact fun _ => rfl
  clear ha hb hc hd he hr
  intro h
  refine AC.body Θ_ok Try.func30 rfl rfl (Nat.le_of_ble_eq_true rfl) ?_
  refine AW.seq fun _ k1 => AW.region [] Θ_ok ?_
  simp
  refine k1 _ ?_
  refine AW.seq fun _ k1 => AW.region [1] Θ_ok ?_
  simp [newA]
  refine ⟨rfl, fun o ho => k1 _ ?_⟩
  refine AW.box 1 (o := o) rfl (upd_same _ _ _) ?_
  simp only [upd_upd, upd_none_id ho]
  refine AW.seq fun _ k1 => AW.regionAt 3 [] Θ_ok fun B hB => ?_
  simp
  refine ⟨rfl, ?_⟩
  refine sA.use (by simp [G.av, ring16]) ?_
  refine hB _ ?_
  clear hB B
  simp
  refine k1 _ ?_
  refine AW.seq fun _ k1 => AW.regionAt 3 [] Θ_ok fun B hB => ?_
  simp
  refine ⟨rfl, ?_⟩
  refine sW.use (by simp [G.av, ring16]) ?_
  refine hB _ ?_
  clear hB B
  simp
  refine k1 _ ?_
  refine AW.seq fun _ k1 => AW.regionAt 3 [] Θ_ok fun B hB => ?_
  simp
  refine ⟨rfl, ?_⟩
  refine sB.use (by simp [G.av, ring16]) ?_
  refine hB _ ?_
  clear hB B
  simp
  refine k1 _ ?_
  refine AW.seq fun _ kr => AW.region [] Θ_ok ?_
  simp [al, bl, cl, el, a0, b0, c0, e0, rl, r0]
  refine kr _ (AW.ret ?_)
  simp [Try.f30]
  exact Fin.refl ⟨rfl, rfl⟩
end Go.Par
