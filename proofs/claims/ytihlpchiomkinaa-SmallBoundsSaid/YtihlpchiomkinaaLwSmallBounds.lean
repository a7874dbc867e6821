import Derived.Test.YtihlpchiomkinaaSpK
import Derived.Test.YtihlpchiomkinaaSmQ
import Derived.Test.YtihlpchiomkinaaPhA
import Derived.Test.YtihlpchiomkinaaRkC
set_option linter.unusedSimpArgs false
set_option linter.unusedVariables false
set_option maxRecDepth 8000
set_option maxHeartbeats 2000000
namespace Go.Par
open Go.Proofs

def evP (P : List Int) : List Int := P.map fun p => p - p % 2
def evX (P : List Int) (x : Nat) : List Int := tab P.length fun i => if i < x then P.getD i 0 - P.getD i 0 % 2 else 0
theorem evX_len (P : List Int) (x : Nat) : (evX P x).length = P.length := length_tab _ _
theorem evX_set {P : List Int} {x : Nat} (hx : x < P.length) : (evX P x).set x (P[x] - P[x] % 2) = evX P (x + 1) := by
  refine List.ext_getElem (by simp [evX]) fun i h1 h2 => ?_
  have hi : i < P.length := by simpa [evX] using h2
  rw [List.getElem_set]
  simp only [evX, getElem_tab]
  by_cases e : x = i
  · subst e; rw [if_pos rfl, if_pos (Nat.lt_succ_self _)]; simp [hx]
  · rw [if_neg e]
    by_cases q : i < x
    · rw [if_pos q, if_pos (by omega)]
    · rw [if_neg q, if_neg (by omega)]
theorem evX_full (P : List Int) : evX P P.length = evP P := by
  refine List.ext_getElem (by simp [evX, evP]) fun i h1 h2 => ?_
  have hi : i < P.length := by simpa [evX] using h1
  simp [evX, evP, hi]
theorem evX_zero (P : List Int) : evX P 0 = tab P.length fun _ => 0 := tab_congr fun i _ => by rw [if_neg (Nat.not_lt_zero _)]
theorem evP_may {g : G} {P : List Int} (h : mayP g P = true) : mayP g (evP P) = true := by
  simp only [mayP, Bool.and_eq_true, decide_eq_true_eq, List.all_eq_true] at h ⊢
  refine ⟨⟨h.1.1, by rw [evP, List.length_map]; exact h.1.2⟩, fun p hp => ?_⟩
  obtain ⟨q, hq, rfl⟩ := List.mem_map.1 hp
  have := h.2 q hq
  omega
theorem evP_evn (P : List Int) : Evn (evP P) := Evn.of fun p hp => by
  obtain ⟨q, hq, rfl⟩ := List.mem_map.1 hp
  omega
theorem num_ok {mo : Mo} : ∀ {m : Ms}, msOk mo m → (numM m).length = 3 ∧ ∀ i (h : i < (numM m).length), 0 ≤ (numM m)[i] ∧ (numM m)[i] ≤ moA mo i
  | none, _ => by
    have n0 : ∀ i, 0 ≤ moA mo i := fun i => by unfold moA; split <;> (try split) <;> omega
    refine ⟨rfl, fun i h => ?_⟩
    have h3 : i < 3 := h
    rcases three h3 with rfl | rfl | rfl
    · exact ⟨Int.le_refl _, n0 0⟩
    · exact ⟨Int.le_refl _, n0 1⟩
    · exact ⟨Int.le_refl _, n0 2⟩
  | some (a, b, c), m => by
    obtain ⟨m1, m2, m3⟩ := m
    refine ⟨rfl, fun i h => ?_⟩
    have h3 : i < 3 := h
    rcases three h3 with rfl | rfl | rfl
    · show 0 ≤ (a : Int) ∧ (a : Int) ≤ (mo.a : Int); omega
    · show 0 ≤ (b : Int) ∧ (b : Int) ≤ (mo.b : Int); omega
    · show 0 ≤ (c : Int) ∧ (c : Int) ≤ (mo.c : Int); omega
theorem num_zero {m : Ms} (h : m = none ∨ m = some (0, 0, 0)) : (numM m).length = 3 ∧ ∀ i (h : i < (numM m).length), (numM m)[i] = 0 := by
  rcases h with rfl | rfl
  · refine ⟨rfl, fun i h => ?_⟩
    have h3 : i < 3 := h
    rcases three h3 with rfl | rfl | rfl <;> rfl
  · refine ⟨rfl, fun i h => ?_⟩
    have h3 : i < 3 := h
    rcases three h3 with rfl | rfl | rfl <;> rfl
def BH (h : Heap) (t e : Nat) (P : List Int) (x : Nat) (f : Nat → Int) : Heap := HL h [(e, obI (evX P x)), (t, obV 49 f)]
section
variable {h : Heap} {t e : Nat} (N : HN h [e, t]) (P : List Int) (x : Nat) (f : Nat → Int)
include N
theorem BH.gt : BH h t e P x f t = some (obV 49 f) := HL.at (k := 1) N.nd rfl
theorem BH.ge : BH h t e P x f e = some (obI (evX P x)) := HL.at (k := 0) N.nd rfl
theorem BH.pt (f' : Nat → Int) : upd (BH h t e P x f) t (some (obV 49 f')) = BH h t e P x f' := HL.put (k := 1) N.nd rfl
theorem BH.pe (x' : Nat) : upd (BH h t e P x f) e (some (obI (evX P x'))) = BH h t e P x' f := HL.put (k := 0) N.nd rfl
end

theorem law_SmallBounds (g : G) (hg : g.wide) (P : List Int) (hP : (DK.sl .int).fits P) : Pure Try.prog 9 [g.av, .ro false (ints P)] (.bool true) := by
  have hf := hg.f
  have hPl : P.length ≤ 1152921504606846976 := by
    have : P.length * 8 ≤ reachBytes := hP.1
    unfold reachBytes at this
    omega
  have sH := l15_Heavy g hf P
  have sY := r9_MayPrio g hf P hPl
  have sM := small_Measures g hf P hPl
  intro h
  refine AC.body Θ_ok Try.func9 rfl rfl (Nat.le_of_ble_eq_true rfl) ?_
  refine AW.seq fun _ k1 => AW.region [] Θ_ok ?_
  simp
  refine k1 _ ?_
  refine AW.seq fun _ k1 => ?_
  by_cases h1 : 0 < heavy15 g P
  · refine AW.seq fun _ k2 => AW.regionAt 3 [] Θ_ok fun B hB => ?_
    simp
    refine sH.use (by simp [G.av]) ?_
    refine hB _ ?_
    clear hB B
    simp [h1]
    refine k2 _ ?_
    refine AW.cond true (by simp [Int.natCast_inj]) (fun _ => ?_) (fun h => by cases h)
    refine AW.seq fun _ kr => AW.region [] Θ_ok ?_
    simp
    refine (l16_awake).use (by simp [G.av]) ?_
    try simp
    refine kr _ (AW.ret ?_)
    simp [Try.f9]
    exact Fin.refl ⟨rfl, rfl⟩
  have h1' := Int.not_lt.1 h1
  by_cases hm : mayP g P = true
  · rw [smA, if_pos hm] at sM
    rw [hm] at sY
    have ok := mayP_mg hm
    have hn := (may_ok ok.m).1
    have lP := ok.len
    have hX := meas_least ok
    have hm2 := evP_may hm
    have ok2 := mayP_mg hm2
    have lE : (evP P).length = g.owner.length := ok2.len
    have sM2 := small_Measures g hf (evP P) (by omega)
    rw [smA, if_pos hm2] at sM2
    have hX2 := meas_least ok2
    have sR := r9_Region g hf 0 []
    rw [regA, if_pos ⟨ok.m, .inl rfl⟩] at sR
    have lR : (regL g 0 []).length = g.owner.length := regL_len _ _ _
    have lost := fun v (hv : v < g.owner.length) => even_lost ok2 (evP_evn P) hX2 hv
    have alle := fun v (hv : v < g.owner.length) => even_all (evP_evn P) hX2.ok hv
    have lL : (measL g P).length = g.owner.length := meas_len ok
    have lL2 : (measL g (evP P)).length = g.owner.length := meas_len ok2
    obtain ⟨L, hL⟩ : ∃ L, L = measL g P := ⟨_, rfl⟩
    obtain ⟨L2, hL2⟩ : ∃ L2, L2 = measL g (evP P) := ⟨_, rfl⟩
    rw [← hL] at sM lL hX
    rw [← hL2] at sM2 lL2 hX2
    simp only [← hL2] at lost alle
    clear hL hL2
    have lA : (L.map numM).length = g.owner.length := by simp [lL]
    have lB : (L.map topM).length = g.owner.length := by simp [lL]
    have lA2 : (L2.map numM).length = g.owner.length := by simp [lL2]
    have lB2 : (L2.map topM).length = g.owner.length := by simp [lL2]
    have key : ∀ x (hx : x < g.owner.length) (h1 : x < (L.map numM).length), (L.map numM)[x].length = 3 ∧ ∀ i (h : i < (L.map numM)[x].length), 0 ≤ (L.map numM)[x][i] ∧ (L.map numM)[x][i] ≤ moA (moL P) i := by
      intro x hx h1
      have hxL : x < L.length := by omega
      have e : xM L x = L[x] := by simp [xM, hxL]
      have m := hX.ok.2 x hx
      rw [e] at m
      simp only [List.getElem_map]
      exact num_ok m
    have key2 : ∀ x (hx : x < g.owner.length) (h1 : x < (L2.map numM).length) (h2 : x < (L2.map topM).length) (h3 : x < (regL g 0 []).length), (L2.map numM)[x].length = 3 ∧ (∀ i (h : i < (L2.map numM)[x].length), (L2.map numM)[x][i] = 0) ∧ (L2.map topM)[x] = (regL g 0 [])[x] := by
      intro x hx h1 h2 h3
      have hxL : x < L2.length := by omega
      have e : xM L2 x = L2[x] := by simp [xM, hxL]
      have m := alle x hx
      have l := lost x hx
      rw [e] at m l
      have e2 : hasN (regL g 0 []) x = (regL g 0 [])[x] := by simp [hasN, h3]
      rw [e2] at l
      simp only [List.getElem_map]
      obtain ⟨z1, z2⟩ := num_zero m
      refine ⟨z1, z2, ?_⟩
      rcases m with q | q
      · rw [q] at l ⊢
        exact (l.1 rfl).symm
      · rw [q] at l ⊢
        cases r : (regL g 0 [])[x] with
        | false => rfl
        | true => exact absurd (l.2 r) (by simp)
    have hEP : ∀ x (hx : x < P.length), 0 ≤ P[x] ∧ P[x] ≤ 5 := fun x hx => by
      have p0 := ok.lo x (by omega)
      have p5 := ok.hi x (by omega)
      rw [show P.getD x 0 = P[x] by simp [hx]] at p0 p5
      exact ⟨p0, p5⟩
    clear alle lost hX hX2
    generalize L.map numM = A at *
    generalize L.map topM = B at *
    generalize L2.map numM = A2 at *
    generalize L2.map topM = B2 at *
    generalize regL g 0 [] = R at *
    refine AW.seq fun _ k2 => AW.regionAt 3 [] Θ_ok fun B hB => ?_
    simp
    refine sH.use (by simp [G.av]) ?_
    refine hB _ ?_
    clear hB B
    refine vcOps_split 5 fun B hB => ?_
    simp [h1, h1']
    refine sY.use (by simp [G.av]) ?_
    refine hB _ ?_
    clear hB B
    simp
    refine k2 _ ?_
    refine AW.cond false (by simp [Int.natCast_inj]) (fun h => by cases h) (fun _ => ?_)
    refine AW.skip ?_
    simp
    refine k1 _ ?_
    refine AW.seq fun _ k1 => AW.regionAt 3 [] Θ_ok fun B hB => ?_
    simp
    refine sM.use (by simp [G.av]) ?_
    refine hB _ ?_
    clear hB B
    simp
    refine k1 _ ?_
    refine AW.seq fun _ k1 => ?_
    refine AW.seq fun _ k2 => AW.region [] Θ_ok ?_
    simp [lA, lB, lP]
    refine k2 _ ?_
    refine AW.cond false (by simp [Int.natCast_inj]) (fun h => by cases h) (fun _ => ?_)
    refine AW.skip ?_
    simp
    refine k1 _ ?_
    refine AW.seq fun _ k1 => AW.region [7] Θ_ok ?_
    simp [newA]
    refine fun t ht => k1 _ ?_
    refine AW.seq fun _ k1 => AW.region [51] Θ_ok ?_
    simp [newA]
    have b1 : 8 * (P.length : Int) ≤ 140737488355328 := by omega
    have b2 : (P.length : Int) ≤ 140737488355328 := by omega
    have e1 : (List.replicate P.length (AV.int IntKind.i64 0)).flatMap AV.flat = (evX P 0).map (AV.int .i64) := by
      rw [replicate_tab, flat_tab (fun _ _ => rfl), evX_zero]; simp
    rw [e1]
    simp only [obI_mk]
    refine ⟨⟨b1, b2⟩, fun e he => k1 _ ?_⟩
    have N1 : HN h [t] := HL.new (l := []) ⟨List.nodup_nil, fun o ho => by cases ho⟩ ht
    have N : HN h [e, t] := HL.new (l := [(t, obV 49 (cF P 0))]) N1 he
    rw [show upd (upd h t (some (⟨[.int .i64 0, .int .i64 0, .int .i64 0], 49, 3, true⟩ : Ob))) e (some (obI (evX P 0))) = BH h t e P 0 (cF P 0) from rfl]
    clear ht he e1 b1 b2 N1
    refine AW.seq fun _ k1 => ?_
    refine AW.seq fun _ k2 => AW.region [] Θ_ok ?_
    simp
    refine k2 _ ?_
    refine AW.block ?_
    refine AW.loopI (X := Nat) (fun x => x ≤ P.length) (fun x => ⟨156, [(1, .ro false (ints P)), (2, .rop [.ro false (ints g.owner), .ro false (rows g.next)]), (5, .ro true (rows A)), (7, .ptr t 0), (8, .mu e P.length), (52, .ro false (ints P)), (53, .int .i64 P.length), (54, .int .i64 x)], BH h t e P x (cF P x)⟩) (fun x => P.length - x) 0 (Nat.zero_le _) (GStep.eq (by simp) (subH.refl _)) fun x hx => ?_
    refine AW.seq fun _ k2 => AW.region [] Θ_ok ?_
    simp
    refine k2 _ ?_
    by_cases hlt : x < P.length
    · have inc := wrap_succ (show x < 9223372036854775807 by omega)
      obtain ⟨p0, p5⟩ := hEP x hlt
      refine AW.seq fun _ k2 => AW.cond true (by simp [Int.natCast_inj, hlt]) (fun _ => ?_) (fun h => by cases h)
      refine AW.skip ?_
      simp
      refine k2 _ ?_
      refine AW.seq fun _ k2 => ?_
      refine AW.block ?_
      refine AW.seq fun _ k3 => AW.region [] Θ_ok ?_
      simp [hlt]
      refine k3 _ ?_
      refine AW.seqTo ⟨156, [(1, .ro false (ints P)), (2, .rop [.ro false (ints g.owner), .ro false (rows g.next)]), (5, .ro true (rows A)), (7, .ptr t 0), (8, .mu e P.length), (9, .int .i64 x), (10, .int .i64 P[x]), (52, .ro false (ints P)), (53, .int .i64 P.length), (54, .int .i64 x)], BH h t e P x (cF P (x + 1))⟩ (fun _ k3 => ?_) ?_
      · have gt := BH.gt N P x (cF P x)
        refine AW.seq fun _ k4 => AW.region [] Θ_ok ?_
        simp
        refine k4 _ ?_
        by_cases ho : P[x] % 2 = 1
        · obtain ⟨k, hk⟩ : ∃ k : Nat, P[x] = ((2 * k + 1 : Nat) : Int) := ⟨(P[x] / 2).toNat, by omega⟩
          have hk3 : k < 3 := by omega
          have hk3' : (k : Int) < 3 := by omega
          have tm : P[x].tmod 2 = 1 := by rw [Int.tmod_eq_emod_of_nonneg p0]; exact ho
          have td : P[x].tdiv 2 = (k : Int) := by rw [Int.tdiv_eq_ediv_of_nonneg p0]; omega
          have wk : IntKind.i64.wrap (k : Int) = (k : Int) := wrap_id (by omega) (by omega)
          have dx := obV_drop 49 (cF P x) hk3
          have sx := obV_set 49 (cF P x) hk3 (cF P x k + 1)
          have cl := cF_le P x k
          have wc : IntKind.i64.wrap (cF P x k + 1) = cF P x k + 1 := wrap_id (by omega) (by omega)
          have ecf : (obV 49 fun j => if j = k then cF P x k + 1 else cF P x j) = obV 49 (cF P (x + 1)) := by
            congr 1
            funext j
            rw [cF_succ P hlt, hk]
            by_cases e : j = k
            · subst e; simp
            · rw [if_neg e, if_neg (by omega)]; omega
          rw [ecf] at sx
          have pt := BH.pt N P x (cF P x) (cF P (x + 1))
          refine AW.cond true (by simp [Int.natCast_inj, tm]) (fun _ => ?_) (fun h => by cases h)
          refine AW.region [] Θ_ok ?_
          simp [gt, td, wk, hk3, hk3', dx, wc, sx, pt]
          refine ⟨by omega, k3 _ (GStep.eq (by simp) (subH.refl _))⟩
        · have tm : P[x].tmod 2 = 0 := by rw [Int.tmod_eq_emod_of_nonneg p0]; omega
          have ecf : cF P x = cF P (x + 1) := by
            funext j
            rw [cF_succ P hlt, if_neg (by omega)]; omega
          refine AW.cond false (by simp [Int.natCast_inj, tm]) (fun h => by cases h) (fun _ => ?_)
          refine AW.skip ?_
          simp
          exact k3 _ (GStep.eq (by simp) (subH_of_eq (by rw [← ecf])))
      · have ge := BH.ge N P x (cF P (x + 1))
        have pe := BH.pe N P x (cF P (x + 1)) (x + 1)
        have tm : P[x].tmod 2 = P[x] % 2 := Int.tmod_eq_emod_of_nonneg p0
        have wm : IntKind.i64.wrap (P[x] % 2) = P[x] % 2 := wrap_id (by omega) (by omega)
        have wd : IntKind.i64.wrap (P[x] - P[x] % 2) = P[x] - P[x] % 2 := wrap_id (by omega) (by omega)
        have ex := evX_set hlt
        have mx := map_set_int (evX P x) x (P[x] - P[x] % 2)
        have lx := evX_len P x
        rw [ex] at mx
        refine AW.region [] Θ_ok ?_
        simp [ge, tm, wm, wd, hlt, lx, mx, obI_mk, pe]
        refine ⟨by omega, k2 _ ?_⟩
        refine AW.region [] Θ_ok ?_
        simp
        exact ⟨x + 1, by omega, by omega, GStep.eq (by simp [inc]) (subH.refl _)⟩
    have hxx : x = P.length := by omega
    subst hxx
    refine AW.seq fun _ k2 => AW.cond false (by simp [Int.natCast_inj]) (fun h => by cases h) (fun _ => ?_)
    refine AW.exit ?_
    simp
    refine k1 _ ?_
    clear hlt hx
    have ge := BH.ge N P P.length (cF P P.length)
    have gt := BH.gt N P P.length (cF P P.length)
    have hne : t ≠ e := fun z => by have := N.nd; rw [z] at this; simp at this
    have hsub : subH h (BH h t e P P.length (cF P P.length)) := HL.sub (l := [(e, obI (evX P P.length)), (t, obV 49 (cF P P.length))]) N
    have ft : h t = none := N.free _ (by simp)
    have fe : h e = none := N.free _ (by simp)
    generalize BH h t e P P.length (cF P P.length) = H at *
    refine AW.freeze 8 false rfl ge (fun z => by cases z) rfl (by simp [evX_len]) (fun u hu => by obtain ⟨z, _, rfl⟩ := List.mem_map.1 hu; rfl) ?_
    refine AW.box 7 (o := t) (x := obV 49 (cF P P.length)) rfl (by simp only; rw [upd_ne _ _ hne]; exact gt) ?_
    rw [show (obV 49 (cF P P.length)).cells = moC (moL P) from cF_full P, obI_cells, evX_full]
    refine AW.ghost (GStep.eq (S := ⟨156, _, _⟩) (tm := [(2, .rop [.ro false (ints g.owner), .ro false (rows g.next)]), (5, .ro true (rows A)), (1, .ro false (ints P)), (7, .rop (moC (moL P))), (8, .ro false (ints (evP P)))]) (h := h) (by simp [EqAll]) fun o x hx => ?_) ?_
    · have q1 : o ≠ t := fun z => by rw [z, ft] at hx; cases hx
      have q2 : o ≠ e := fun z => by rw [z, fe] at hx; cases hx
      simp only
      rw [upd_ne _ _ q1, upd_ne _ _ q2]
      exact hsub o x hx
    clear hsub ft fe ge gt hne
    refine AW.seq fun _ k1 => ?_
    refine AW.seq fun _ k2 => AW.region [] Θ_ok ?_
    simp [lA]
    refine k2 _ ?_
    refine AW.block ?_
    refine AW.loopI (X := Nat) (fun x => x ≤ g.owner.length) (fun x => ⟨156, [(1, .ro false (ints P)), (2, .rop [.ro false (ints g.owner), .ro false (rows g.next)]), (5, .ro true (rows A)), (7, .rop (moC (moL P))), (8, .ro false (ints (evP P))), (77, .int .i64 g.owner.length), (78, .int .i64 x)], h⟩) (fun x => g.owner.length - x) 0 (Nat.zero_le _) (GStep.eq (by simp) (subH.refl _)) fun x hx => ?_
    refine AW.seq fun _ k2 => AW.region [] Θ_ok ?_
    simp
    refine k2 _ ?_
    by_cases hlt : x < g.owner.length
    · have inc := wrap_succ (show x < 9223372036854775807 by omega)
      have hltA : x < A.length := by omega
      obtain ⟨l3, hk⟩ := key x hlt hltA
      refine AW.seq fun _ k2 => AW.cond true (by simp [Int.natCast_inj, hlt]) (fun _ => ?_) (fun h => by cases h)
      refine AW.skip ?_
      simp
      refine k2 _ ?_
      refine AW.seq fun _ k2 => ?_
      refine AW.block ?_
      refine AW.seq fun _ k3 => AW.region [] Θ_ok ?_
      simp
      refine k3 _ ?_
      refine AW.seq fun _ k3 => ?_
      refine AW.seq fun _ k4 => AW.region [] Θ_ok ?_
      simp [hltA, l3]
      refine k4 _ ?_
      refine AW.cond false (by simp [Int.natCast_inj]) (fun h => by cases h) (fun _ => ?_)
      refine AW.skip ?_
      simp
      refine k3 _ ?_
      refine AW.seq fun _ k3 => AW.region [] Θ_ok ?_
      simp [hltA, l3]
      refine k3 _ ?_
      obtain ⟨T, hT⟩ : ∃ T, T = A[x] := ⟨_, rfl⟩
      simp only [← hT] at l3 hk ⊢
      refine AW.block ?_
      refine AW.loopI (X := Nat) (fun i => i ≤ 3) (fun i => ⟨156, [(1, .ro false (ints P)), (2, .rop [.ro false (ints g.owner), .ro false (rows g.next)]), (5, .ro true (rows A)), (7, .rop (moC (moL P))), (8, .ro false (ints (evP P))), (77, .int .i64 g.owner.length), (78, .int .i64 x), (90, .ro false (ints T)), (91, .int .i64 3), (92, .int .i64 i)], h⟩) (fun i => 3 - i) 0 (Nat.zero_le _) (GStep.eq (by simp [l3]) (subH.refl _)) fun i hi => ?_
      refine AW.seq fun _ k3 => AW.region [] Θ_ok ?_
      simp
      refine k3 _ ?_
      by_cases hi3 : i < 3
      · have hi3' : (i : Int) < 3 := by omega
        have hiT : i < T.length := by omega
        have inc2 := wrap_succ (show i < 9223372036854775807 by omega)
        have d := moC_drop (moL P) hi3
        obtain ⟨y1, y2⟩ := hk i hiT
        generalize moC (moL P) = C at *
        generalize moA (moL P) i = y at *
        have y1' := Int.not_lt.2 y1
        have y2' := Int.not_lt.2 y2
        refine AW.seq fun _ k3 => AW.cond true (by simp [Int.natCast_inj, hi3']) (fun _ => ?_) (fun h => by cases h)
        refine AW.skip ?_
        simp
        refine k3 _ ?_
        refine AW.seq fun _ k3 => ?_
        refine AW.block ?_
        refine AW.seq fun _ k4 => AW.region [] Θ_ok ?_
        simp [hiT]
        refine k4 _ ?_
        refine AW.seq fun _ k4 => AW.region [] Θ_ok ?_
        simp [y1, y1', y2, y2', d, hi3, hi3']
        refine k4 _ ?_
        refine AW.cond false (by simp [Int.natCast_inj]) (fun h => by cases h) (fun _ => ?_)
        refine AW.skip ?_
        simp
        refine k3 _ ?_
        refine AW.region [] Θ_ok ?_
        simp
        exact ⟨i + 1, by omega, by omega, GStep.eq (by simp [inc2]) (subH.refl _)⟩
      have hii : i = 3 := by omega
      subst hii
      refine AW.seq fun _ k3 => AW.cond false (by simp [Int.natCast_inj]) (fun h => by cases h) (fun _ => ?_)
      refine AW.exit ?_
      simp
      refine k2 _ ?_
      refine AW.region [] Θ_ok ?_
      simp
      exact ⟨x + 1, by omega, by omega, GStep.eq (by simp [inc]) (subH.refl _)⟩
    have hxx : x = g.owner.length := by omega
    subst hxx
    refine AW.seq fun _ k2 => AW.cond false (by simp [Int.natCast_inj]) (fun h => by cases h) (fun _ => ?_)
    refine AW.exit ?_
    simp
    refine k1 _ ?_
    clear key hx hlt
    refine AW.seq fun _ k1 => AW.regionAt 3 [] Θ_ok fun B hB => ?_
    simp
    refine sM2.use (by simp [G.av]) ?_
    refine hB _ ?_
    clear hB B
    simp
    refine k1 _ ?_
    refine AW.seq fun _ k1 => AW.regionAt 2 [] Θ_ok fun B hB => ?_
    simp
    refine sR.use (by simp [G.av]) ?_
    refine hB _ ?_
    clear hB B
    simp
    refine k1 _ ?_
    refine AW.seq fun _ k1 => ?_
    refine AW.seq fun _ k2 => AW.region [] Θ_ok ?_
    simp [lA2, lB2, lP]
    refine k2 _ ?_
    refine AW.cond false (by simp [Int.natCast_inj]) (fun h => by cases h) (fun _ => ?_)
    refine AW.skip ?_
    simp
    refine k1 _ ?_
    refine AW.seq fun _ k1 => ?_
    refine AW.seq fun _ k2 => AW.region [] Θ_ok ?_
    simp [lA2]
    refine k2 _ ?_
    refine AW.block ?_
    refine AW.loopI (X := Nat) (fun x => x ≤ g.owner.length) (fun x => ⟨156, [(14, .ro true (rows A2)), (15, .ro true (bools B2)), (16, .ro true (bools R)), (129, .int .i64 g.owner.length), (130, .int .i64 x)], h⟩) (fun x => g.owner.length - x) 0 (Nat.zero_le _) (GStep.eq (by simp) (subH.refl _)) fun x hx => ?_
    refine AW.seq fun _ k2 => AW.region [] Θ_ok ?_
    simp
    refine k2 _ ?_
    by_cases hlt : x < g.owner.length
    · have inc := wrap_succ (show x < 9223372036854775807 by omega)
      have hltA : x < A2.length := by omega
      have hltB : x < B2.length := by omega
      have hltR : x < R.length := by omega
      obtain ⟨l3, hk, hb⟩ := key2 x hlt hltA hltB hltR
      refine AW.seq fun _ k2 => AW.cond true (by simp [Int.natCast_inj, hlt]) (fun _ => ?_) (fun h => by cases h)
      refine AW.skip ?_
      simp
      refine k2 _ ?_
      refine AW.seq fun _ k2 => ?_
      refine AW.block ?_
      refine AW.seq fun _ k3 => AW.region [] Θ_ok ?_
      simp
      refine k3 _ ?_
      refine AW.seq fun _ k3 => ?_
      refine AW.seq fun _ k4 => AW.region [] Θ_ok ?_
      simp [hltA, l3]
      refine k4 _ ?_
      obtain ⟨T, hT⟩ : ∃ T, T = A2[x] := ⟨_, rfl⟩
      simp only [← hT] at l3 hk ⊢
      refine AW.block ?_
      refine AW.loopI (X := Nat) (fun i => i ≤ 3) (fun i => ⟨156, [(14, .ro true (rows A2)), (15, .ro true (bools B2)), (16, .ro true (bools R)), (17, .int .i64 x), (129, .int .i64 g.owner.length), (130, .int .i64 x), (136, .ro false (ints T)), (137, .int .i64 3), (138, .int .i64 i)], h⟩) (fun i => 3 - i) 0 (Nat.zero_le _) (GStep.eq (by simp [l3]) (subH.refl _)) fun i hi => ?_
      refine AW.seq fun _ k4 => AW.region [] Θ_ok ?_
      simp
      refine k4 _ ?_
      by_cases hi3 : i < 3
      · have hi3' : (i : Int) < 3 := by omega
        have hiT : i < T.length := by omega
        have inc2 := wrap_succ (show i < 9223372036854775807 by omega)
        have y1 := hk i hiT
        refine AW.seq fun _ k4 => AW.cond true (by simp [Int.natCast_inj, hi3']) (fun _ => ?_) (fun h => by cases h)
        refine AW.skip ?_
        simp
        refine k4 _ ?_
        refine AW.seq fun _ k4 => ?_
        refine AW.block ?_
        refine AW.seq fun _ k5 => AW.region [] Θ_ok ?_
        simp [hiT]
        refine k5 _ ?_
        refine AW.seq fun _ k5 => AW.region [] Θ_ok ?_
        simp [y1]
        refine k5 _ ?_
        refine AW.cond false (by simp [Int.natCast_inj]) (fun h => by cases h) (fun _ => ?_)
        refine AW.skip ?_
        simp
        refine k4 _ ?_
        refine AW.region [] Θ_ok ?_
        simp
        exact ⟨i + 1, by omega, by omega, GStep.eq (by simp [inc2]) (subH.refl _)⟩
      have hii : i = 3 := by omega
      subst hii
      refine AW.seq fun _ k4 => AW.cond false (by simp [Int.natCast_inj]) (fun h => by cases h) (fun _ => ?_)
      refine AW.exit ?_
      simp
      refine k3 _ ?_
      refine AW.seq fun _ k3 => AW.draw [] 9 [] Θ_ok mixed (by kernel_rfl) (by kernel_rfl) ?_
      simp [vcDraw, vcPre, vcTail, callA, isAlloc, isLoad, effOp, obl, obA, mkOK, valA, hltB, hltR, hb]
      refine k3 _ ?_
      refine AW.cond false (by simp [Int.natCast_inj]) (fun h => by cases h) (fun _ => ?_)
      refine AW.skip ?_
      simp
      refine k2 _ ?_
      refine AW.region [] Θ_ok ?_
      simp
      exact ⟨x + 1, by omega, by omega, GStep.eq (by simp [inc]) (subH.refl _)⟩
    have hxx : x = g.owner.length := by omega
    subst hxx
    refine AW.seq fun _ k2 => AW.cond false (by simp [Int.natCast_inj]) (fun h => by cases h) (fun _ => ?_)
    refine AW.exit ?_
    simp
    refine k1 _ ?_
    refine AW.seq fun _ kr => AW.region [] Θ_ok ?_
    simp
    refine (l16_awake).use (by simp [G.av]) ?_
    try simp
    refine kr _ (AW.ret ?_)
    simp [Try.f9]
    exact Fin.refl ⟨rfl, rfl⟩
  · rw [show mayP g P = false by simpa using hm] at sY
    refine AW.seq fun _ k2 => AW.regionAt 3 [] Θ_ok fun B hB => ?_
    simp
    refine sH.use (by simp [G.av]) ?_
    refine hB _ ?_
    clear hB B
    refine vcOps_split 5 fun B hB => ?_
    simp [h1, h1']
    refine sY.use (by simp [G.av]) ?_
    refine hB _ ?_
    clear hB B
    simp
    refine k2 _ ?_
    refine AW.cond true (by simp [Int.natCast_inj]) (fun _ => ?_) (fun h => by cases h)
    refine AW.seq fun _ kr => AW.region [] Θ_ok ?_
    simp
    refine (l16_awake).use (by simp [G.av]) ?_
    try simp
    refine kr _ (AW.ret ?_)
    simp [Try.f9]
    exact Fin.refl ⟨rfl, rfl⟩
end Go.Par
