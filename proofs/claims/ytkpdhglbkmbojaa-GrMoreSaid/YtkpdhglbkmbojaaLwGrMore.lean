import Derived.Test.YtkpdhglbkmbojaaGrA
import Derived.Test.YtkpdhglbkmbojaaGrB
import Derived.Test.YtkpdhglbkmbojaaGrF
import Derived.Test.YtkpdhglbkmbojaaCgA
import Derived.Test.YtkpdhglbkmbojaaMaGi
import Derived.Test.YtkpdhglbkmbojaaMaPe
set_option linter.unusedSimpArgs false
set_option linter.unusedVariables false
set_option maxRecDepth 8000
set_option maxHeartbeats 2000000
namespace Go.Par
open Go.Proofs

def obW (l : List (List Bool)) (nn : Bool) : Ob := ⟨bools2 l, 27, 1, nn⟩
@[simp] theorem obW_cells (l : List (List Bool)) (nn : Bool) : (obW l nn).cells = bools2 l := rfl
@[simp] theorem obW_ty (l : List (List Bool)) (nn : Bool) : (obW l nn).ty = 27 := rfl
@[simp] theorem obW_sz (l : List (List Bool)) (nn : Bool) : (obW l nn).sz = 1 := rfl
@[simp] theorem obW_nn (l : List (List Bool)) (nn : Bool) : (obW l nn).nn = nn := rfl

theorem sz0 : (Value.slice none 0 0).cells.size = 1 := rfl
theorem fW (l : List (List Bool)) : (bools2 l).flatMap AV.flat = bools2 l := by
  induction l with
  | nil => rfl
  | cons a l ih => simpa [bools2] using ih
theorem fWl (l : List (List Bool)) : (l.map ((fun a : AV => a.flat.length) ∘ fun r => AV.ro false (bools r))).sum = l.length := by
  induction l with
  | nil => rfl
  | cons a l ih => rw [List.map_cons, List.sum_cons, ih, List.length_cons, Nat.add_comm]; rfl
theorem none_of {h : Heap} {o q : Nat} {x : Ob} (e : upd h o (some x) q = none) : h q = none := by
  unfold upd at e; split at e
  · exact absurd e (by simp)
  · exact e
theorem give1 {f : FuncId} {g : G} {lb : List (List Bool)} {l : List (List Bool)} {cs : List AV} {n : Nat} {r : AV} (hs : Pure Try.prog f [g.av, .ro false (bools2 l), .ro false (bools2 lb)] r) (hc : cs = bools2 l) (hn : n = l.length) (H : Heap) (c : Nat) (h0 : H c = none) :
    AC Try.prog f [g.av, .mu c n, .ro false (bools2 lb)] (upd H c (some (⟨cs, 27, 1, true⟩ : Ob))) fun r' h' => r' = r ∧ h' = H := by
  subst hc hn
  exact (AC.giveUp (o := c) (.cons (.same (wk_refl _)) (.cons (.mu (upd_same _ _ _) (by simp) (by simp) (by simp [AV.flat]) (by rw [fW]; exact (List.take_of_length_le (by simp)).symm)) (.cons (.same (wk_refl _)) .nil))) hs).mono fun _ _ ⟨e1, e2⟩ => ⟨e1, by rw [e2, upd_upd, upd_none_id h0]⟩
theorem give2 {f : FuncId} {g : G} {la : List (List Bool)} {l : List (List Bool)} {cs : List AV} {n : Nat} {r : AV} (hs : Pure Try.prog f [g.av, .ro false (bools2 la), .ro false (bools2 l)] r) (hc : cs = bools2 l) (hn : n = l.length) (H : Heap) (c : Nat) (h0 : H c = none) :
    AC Try.prog f [g.av, .ro false (bools2 la), .mu c n] (upd H c (some (⟨cs, 27, 1, true⟩ : Ob))) fun r' h' => r' = r ∧ h' = H := by
  subst hc hn
  exact (AC.giveUp (o := c) (.cons (.same (wk_refl _)) (.cons (.same (wk_refl _)) (.cons (.mu (upd_same _ _ _) (by simp) (by simp) (by simp [AV.flat]) (by rw [fW]; exact (List.take_of_length_le (by simp)).symm)) .nil))) hs).mono fun _ _ ⟨e1, e2⟩ => ⟨e1, by rw [e2, upd_upd, upd_none_id h0]⟩
theorem law_GrMore (g : G) (hg : g.wide) (la : List (List Bool)) (hA : (DK.sl (.sl .bool)).fits la) (lb : List (List Bool)) (hB : (DK.sl (.sl .bool)).fits lb) (lr : List Bool) (hR : (DK.sl .bool).fits lr) : Pure Try.prog 7 [g.av, .ro false (bools2 la), .ro false (bools2 lb), .ro false (bools lr)] (.bool true) := by
  have hf := hg.f
  have sH := l18_Heavy g hf la lb (G.wide.rows2 hA) (G.wide.rows2 hB)
  have sY := r9_May g hf
  have sZ := gr1_Region g hf la lb
  intro h
  refine AC.body Θ_ok Try.func7 rfl rfl (Nat.le_of_ble_eq_true rfl) ?_
  refine AW.seq fun _ k1 => AW.region [] Θ_ok ?_
  simp
  refine k1 _ ?_
  refine AW.seq fun _ k1 => ?_
  by_cases h1 : 0 < heavy18 g la lb
  · refine AW.seq fun _ k2 => AW.regionAt 4 [] Θ_ok fun B hB => ?_
    simp
    refine sH.use (by simp [G.av]) ?_
    refine hB _ ?_
    clear hB B
    simp [h1]
    refine k2 _ ?_
    refine AW.cond true (by simp [Int.natCast_inj]) (fun _ => ?_) (fun h => by cases h)
    refine AW.seq fun _ kr => AW.region [] Θ_ok ?_
    simp
    refine (l18_awake).use (by simp [G.av]) ?_
    try simp
    refine kr _ (AW.ret ?_)
    simp [Try.f7]
    exact Fin.refl ⟨rfl, rfl⟩
  have h1' := Int.not_lt.1 h1
  by_cases h2 : 300 < lr.length
  · have h2' : (300 : Int) < lr.length := by omega
    refine AW.seq fun _ k2 => AW.regionAt 4 [] Θ_ok fun B hB => ?_
    simp
    refine sH.use (by simp [G.av]) ?_
    refine hB _ ?_
    clear hB B
    simp [h1, h1', h2, h2']
    refine k2 _ ?_
    refine AW.cond true (by simp [Int.natCast_inj]) (fun _ => ?_) (fun h => by cases h)
    refine AW.seq fun _ kr => AW.region [] Θ_ok ?_
    simp
    refine (l18_awake).use (by simp [G.av]) ?_
    try simp
    refine kr _ (AW.ret ?_)
    simp [Try.f7]
    exact Fin.refl ⟨rfl, rfl⟩
  have h2' : ¬ (300 : Int) < lr.length := by omega
  have h2'' : (lr.length : Int) ≤ 300 := by omega
  by_cases hc : mayE g = 0 ∧ la.length ≤ 3 ∧ lb.length ≤ 3 ∧ 0 < la.length ∧ 0 < lb.length
  · obtain ⟨hm, a3, b3, a0, b0⟩ := hc
    rw [hm] at sY
    have c1 : ¬ (3 : Int) < la.length := by omega
    have c1' : (la.length : Int) ≤ 3 := by omega
    have c2 : ¬ (3 : Int) < lb.length := by omega
    have c2' : (lb.length : Int) ≤ 3 := by omega
    have c3 : ¬ (la.length : Int) = 0 := by omega
    have c3' : ¬ la = [] := fun e => by rw [e] at a0; exact absurd a0 (by decide)
    have c4 : ¬ (lb.length : Int) = 0 := by omega
    have c4' : ¬ lb = [] := fun e => by rw [e] at b0; exact absurd b0 (by decide)
    rw [regionA, if_pos ⟨hm, by omega, by omega⟩] at sZ
    have hn := (may_ok hm).1
    have lz : (solveL g la lb).1.length = g.owner.length := (solve_spec hm la lb).2.1.1
    refine AW.seq fun _ k2 => AW.regionAt 4 [] Θ_ok fun B hB => ?_
    simp
    refine sH.use (by simp [G.av]) ?_
    refine hB _ ?_
    clear hB B
    refine vcOps_split 9 fun B hB => ?_
    simp [h1, h1', h2, h2', h2'']
    refine sY.use (by simp [G.av]) ?_
    refine hB _ ?_
    clear hB B
    simp [c1, c1', c2, c2', c3, c3', c4, c4']
    refine k2 _ ?_
    refine AW.cond false (by simp [Int.natCast_inj, c1, c1', c2, c2', c3, c3', c4, c4']) (fun h => by cases h) (fun _ => ?_)
    refine AW.skip ?_
    simp
    refine k1 _ ?_
    refine AW.seq fun _ k1 => AW.regionAt 4 [] Θ_ok fun B hB => ?_
    simp
    refine sZ.use (by simp [G.av]) ?_
    refine hB _ ?_
    clear hB B
    simp
    refine k1 _ ?_
    have sA := gr1_Region g hf (la ++ [lr]) lb
    have sB := gr1_Region g hf la (lb ++ [lr])
    rw [regionA, if_pos ⟨hm, by simp; omega, by omega⟩] at sA
    rw [regionA, if_pos ⟨hm, by omega, by simp; omega⟩] at sB
    have lA : (solveL g (la ++ [lr]) lb).1.length = g.owner.length := (solve_spec hm _ _).2.1.1
    have lB : (solveL g la (lb ++ [lr])).1.length = g.owner.length := (solve_spec hm _ _).2.1.1
    have up : leS g.owner.length (solveL g la lb).1 (solveL g (la ++ [lr]) lb).1 := solve_in hm (by rw [rowsL_ne c3', rowsL_ne (by simp)]; exact rowIn.snoc _ _) (rowIn.refl _)
    have dn : leS g.owner.length (solveL g la (lb ++ [lr])).1 (solveL g la lb).1 := solve_in hm (rowIn.refl _) (by rw [rowsL_ne c4', rowsL_ne (by simp)]; exact rowIn.snoc _ _)
    have sC := gr1_Region g hf (la[la.length - 1] :: la) lb
    have sD := gr1_Region g hf la (lb[lb.length - 1] :: lb)
    rw [regionA, if_pos ⟨hm, by simp; omega, by omega⟩] at sC
    rw [regionA, if_pos ⟨hm, by omega, by simp; omega⟩] at sD
    rw [show (solveL g (la[la.length - 1] :: la) lb).1 = (solveL g la lb).1 from solve_same hm (by rw [rowsL_ne c3', rowsL_ne (by simp)]; exact rowIn.twice _) (by rw [rowsL_ne c3', rowsL_ne (by simp)]; exact rowIn.cons _ _) (rowIn.refl _) (rowIn.refl _)] at sC
    rw [show (solveL g la (lb[lb.length - 1] :: lb)).1 = (solveL g la lb).1 from solve_same hm (rowIn.refl _) (rowIn.refl _) (by rw [rowsL_ne c4', rowsL_ne (by simp)]; exact rowIn.cons _ _) (by rw [rowsL_ne c4', rowsL_ne (by simp)]; exact rowIn.twice _)] at sD
    have x1 : (la.length : Int) - 1 = ((la.length - 1 : Nat) : Int) := by omega
    have x2 : (lb.length : Int) - 1 = ((lb.length - 1 : Nat) : Int) := by omega
    have x3 : la.length - 1 < la.length := by omega
    have x4 : lb.length - 1 < lb.length := by omega
    have x5 := wrap_nat (n := la.length - 1) (by omega)
    have x6 := wrap_nat (n := lb.length - 1) (by omega)
    obtain ⟨ra, era⟩ : ∃ r, r = la[la.length - 1] := ⟨_, rfl⟩
    obtain ⟨rb, erb⟩ : ∃ r, r = lb[lb.length - 1] := ⟨_, rfl⟩
    rw [← era] at sC
    rw [← erb] at sD
    have era' := era.symm
    have erb' := erb.symm
    clear era erb
    generalize (solveL g (la ++ [lr]) lb).1 = A at *
    generalize (solveL g la (lb ++ [lr])).1 = B at *
    generalize (solveL g la lb).1 = Z at *
    refine AW.seqTo ⟨160, [(1, .ro false (bools2 la)), (2, .ro false (bools2 lb)), (4, .rop [.ro false (ints g.owner), .ro false (rows g.next)]), (9, .ro false (bools Z)), (10, .ro false (bools A)), (11, .ro false (bools B))], h⟩ (fun _ k1 => AW.orders mixed ?_) ?_
    · refine AD.either 11 3 (by decide) ?_ ?_
      · skip
        refine AD.draw [0,1,2,4,5,7,9,10,11,12,14,15,3,6,8,13,16,17,18,19] [0,1,2,12,3,4,13,5,14,6,7,8,9,15,10,11,16,17,18,19] [56,66] 12 [0,6] Θ_ok (by kernel_rfl) (by kernel_rfl) (by kernel_rfl) ?_
        simp only [addA_toList, addL, permOps, relab, List.getElem?_cons_zero, List.getElem?_cons_succ]
        refine vcDraw_split 12 fun B hB => ?_
        simp [vcPre, vcTail, callA, isAlloc, isLoad, effOp, obl, obA, mkOK, valA]
        refine fun a1 q1 a2 q2 => hB _ _ _ ?_
        have a12 : a1 ≠ a2 := fun e => by rw [e] at q2; simp [upd] at q2
        have a21 : a2 ≠ a1 := fun e => a12 e.symm
        clear hB B
        have g2 : h a2 = none := none_of q2
        obtain ⟨G2, e2⟩ : ∃ G2, G2 = upd h a2 (some (⟨[], 27, 1, true⟩ : Ob)) := ⟨_, rfl⟩
        have g1 : G2 a1 = none := by rw [e2, upd_ne _ _ a12]; exact q1
        rw [upd_comm h _ _ a12, ← e2]
        simp [vcPre, vcTail, callA, isAlloc, isLoad, effOp, obl, obA, mkOK, valA, appendA, upd_same, sz0, fW, fWl, upd_none_id g1]
        refine ⟨⟨by omega, by omega⟩, fun b1 r1 => ⟨⟨by omega, by omega⟩, fun d1 s1 => ?_⟩⟩
        have r1' := none_of r1
        rw [upd_none_id r1']
        have s1' := none_of s1
        refine (give1 sA (by rw [List.take_of_length_le (by simp)]; simp) (by simp) G2 d1 s1').mono ?_
        rintro v1 hv1 ⟨ev, eh⟩
        rw [eh, ev, show G2 a2 = some (⟨[], 27, 1, true⟩ : Ob) from by rw [e2, upd_same], show upd G2 a2 none = h from by rw [e2, upd_upd, upd_none_id g2]]
        refine ⟨⟨rfl, rfl, by omega, by omega⟩, fun b2 r2 => ⟨⟨by omega, by omega⟩, fun d2 s2 => ?_⟩⟩
        have s2' := none_of s2
        have r2' : h b2 = none := by rw [e2] at r2; exact none_of r2
        rw [upd_none_id r2']
        refine (give2 sB (by rw [List.take_of_length_le (by simp)]; simp) (by simp) h d2 s2').mono ?_
        rintro v2 hv2 ⟨ev, eh⟩
        rw [eh, ev]
        exact k1 _ (GStep.eq (by simp) (subH.refl _))
      refine AD.either 11 6 (by decide) ?_ ?_
      · skip
        refine AD.draw [0,1,2,4,5,7,9,10,12,14,15,3,11,6,8,13,16,17,18,19] [0,1,2,11,3,4,13,5,14,6,7,12,8,15,9,10,16,17,18,19] [56,66] 11 [0,6] Θ_ok (by kernel_rfl) (by kernel_rfl) (by kernel_rfl) ?_
        simp only [addA_toList, addL, permOps, relab, List.getElem?_cons_zero, List.getElem?_cons_succ]
        refine vcDraw_split 11 fun B hB => ?_
        simp [vcPre, vcTail, callA, isAlloc, isLoad, effOp, obl, obA, mkOK, valA]
        refine fun a1 q1 => hB _ _ _ ?_
        clear hB B
        simp [vcPre, vcTail, callA, isAlloc, isLoad, effOp, obl, obA, mkOK, valA, appendA, upd_same, sz0, fW, fWl, upd_none_id q1]
        refine ⟨⟨by omega, by omega⟩, fun b1 z00 a2 q2 => ?_⟩
        have a12 : b1 ≠ a2 := fun e => by rw [e] at q2; simp [upd] at q2
        have g2 : h a2 = none := none_of q2
        obtain ⟨G2, e2⟩ : ∃ G2, G2 = upd h a2 (some (⟨[], 27, 1, true⟩ : Ob)) := ⟨_, rfl⟩
        have z0 : h b1 = none := by first | exact z00 | exact none_of z00
        have g1 : G2 b1 = none := by rw [e2, upd_ne _ _ a12]; exact z0
        rw [upd_comm h _ _ a12, ← e2]
        rw [upd_same, upd_upd, upd_none_id g1]
        refine ⟨⟨rfl, rfl, by simp, by omega, by omega⟩, fun d1 s1 => ?_⟩
        have s1' := none_of s1
        dsimp only
        refine (give1 sA (by first | (rw [List.take_of_length_le (by simp)]; simp) | simp) (by first | (simp; done) | (simp; omega)) G2 d1 s1').mono ?_
        rintro v1 hv1 ⟨ev, eh⟩
        rw [eh, ev, show G2 a2 = some (⟨[], 27, 1, true⟩ : Ob) from by rw [e2, upd_same], show upd G2 a2 none = h from by rw [e2, upd_upd, upd_none_id g2]]
        refine ⟨⟨rfl, rfl, by omega, by omega⟩, fun b2 r2 => ⟨⟨by omega, by omega⟩, fun d2 s2 => ?_⟩⟩
        have s2' := none_of s2
        have r2' : h b2 = none := by first | exact r2 | exact none_of r2 | (rw [e2] at r2; exact none_of r2)
        rw [upd_none_id r2']
        refine (give2 sB (by first | (rw [List.take_of_length_le (by simp)]; simp) | simp) (by first | (simp; done) | (simp; omega)) h d2 s2').mono ?_
        rintro v2 hv2 ⟨ev, eh⟩
        rw [eh, ev]
        exact k1 _ (GStep.eq (by simp) (subH.refl _))
      refine AD.either 11 8 (by decide) ?_ ?_
      · skip
        refine AD.draw [0,1,2,4,5,7,9,10,12,14,15,3,6,11,8,13,16,17,18,19] [0,1,2,11,3,4,12,5,14,6,7,13,8,15,9,10,16,17,18,19] [56,66] 11 [0,6] Θ_ok (by kernel_rfl) (by kernel_rfl) (by kernel_rfl) ?_
        simp only [addA_toList, addL, permOps, relab, List.getElem?_cons_zero, List.getElem?_cons_succ]
        refine vcDraw_split 11 fun B hB => ?_
        simp [vcPre, vcTail, callA, isAlloc, isLoad, effOp, obl, obA, mkOK, valA]
        refine fun a1 q1 => hB _ _ _ ?_
        clear hB B
        simp [vcPre, vcTail, callA, isAlloc, isLoad, effOp, obl, obA, mkOK, valA, appendA, upd_same, sz0, fW, fWl, upd_none_id q1]
        refine ⟨⟨by omega, by omega⟩, fun b1 r1 => ⟨⟨by omega, by omega⟩, fun d1 s1 a2 q2 => ?_⟩⟩
        have r1' : h b1 = none := by first | exact r1 | exact none_of r1
        rw [upd_none_id r1'] at q2 ⊢
        have z00 : h d1 = none := none_of s1
        have a12 : d1 ≠ a2 := fun e => by rw [e] at q2; simp [upd] at q2
        have g2 : h a2 = none := none_of q2
        obtain ⟨G2, e2⟩ : ∃ G2, G2 = upd h a2 (some (⟨[], 27, 1, true⟩ : Ob)) := ⟨_, rfl⟩
        have z0 : h d1 = none := by first | exact z00 | exact none_of z00
        have g1 : G2 d1 = none := by rw [e2, upd_ne _ _ a12]; exact z0
        rw [upd_comm h _ _ a12, ← e2]
        have s1' := g1
        refine (give1 sA (by first | (rw [List.take_of_length_le (by simp)]; simp) | simp) (by first | (simp; done) | (simp; omega)) G2 d1 s1').mono ?_
        rintro v1 hv1 ⟨ev, eh⟩
        rw [eh, ev, show G2 a2 = some (⟨[], 27, 1, true⟩ : Ob) from by rw [e2, upd_same], show upd G2 a2 none = h from by rw [e2, upd_upd, upd_none_id g2]]
        refine ⟨⟨rfl, rfl, by omega, by omega⟩, fun b2 r2 => ⟨⟨by omega, by omega⟩, fun d2 s2 => ?_⟩⟩
        have s2' := none_of s2
        have r2' : h b2 = none := by first | exact r2 | exact none_of r2 | (rw [e2] at r2; exact none_of r2)
        rw [upd_none_id r2']
        refine (give2 sB (by first | (rw [List.take_of_length_le (by simp)]; simp) | simp) (by first | (simp; done) | (simp; omega)) h d2 s2').mono ?_
        rintro v2 hv2 ⟨ev, eh⟩
        rw [eh, ev]
        exact k1 _ (GStep.eq (by simp) (subH.refl _))
      · skip
        refine AD.draw [0,1,2,4,5,7,9,10,12,14,15,3,6,8,11,13,16,17,18,19] [0,1,2,11,3,4,12,5,13,6,7,14,8,15,9,10,16,17,18,19] [56,66] 11 [0,6] Θ_ok (by kernel_rfl) (by kernel_rfl) (by kernel_rfl) ?_
        simp only [addA_toList, addL, permOps, relab, List.getElem?_cons_zero, List.getElem?_cons_succ]
        refine vcDraw_split 11 fun B hB => ?_
        simp [vcPre, vcTail, callA, isAlloc, isLoad, effOp, obl, obA, mkOK, valA]
        refine fun a1 q1 => hB _ _ _ ?_
        clear hB B
        simp [vcPre, vcTail, callA, isAlloc, isLoad, effOp, obl, obA, mkOK, valA, appendA, upd_same, sz0, fW, fWl, upd_none_id q1]
        refine ⟨⟨by omega, by omega⟩, fun b1 r1 => ⟨⟨by omega, by omega⟩, fun d1 s1 => ?_⟩⟩
        have r1' : h b1 = none := by first | exact r1 | exact none_of r1
        rw [upd_none_id r1']
        have s1' : h d1 = none := none_of s1
        refine (give1 sA (by first | (rw [List.take_of_length_le (by simp)]; simp) | simp) (by first | (simp; done) | (simp; omega)) h d1 s1').mono ?_
        rintro v1 hv1 ⟨ev, eh⟩
        rw [eh, ev]
        intro a2 q2
        rw [upd_none_id q2]
        refine ⟨⟨by omega, by omega⟩, fun b2 r2 => ⟨⟨by omega, by omega⟩, fun d2 s2 => ?_⟩⟩
        have s2' := none_of s2
        have r2' : h b2 = none := by first | exact r2 | exact none_of r2 | (rw [e2] at r2; exact none_of r2)
        rw [upd_none_id r2']
        refine (give2 sB (by first | (rw [List.take_of_length_le (by simp)]; simp) | simp) (by first | (simp; done) | (simp; omega)) h d2 s2').mono ?_
        rintro v2 hv2 ⟨ev, eh⟩
        rw [eh, ev]
        exact k1 _ (GStep.eq (by simp) (subH.refl _))
    refine AW.seqTo ⟨160, [(4, .rop [.ro false (ints g.owner), .ro false (rows g.next)]), (9, .ro false (bools Z)), (10, .ro false (bools A)), (11, .ro false (bools B)), (12, .ro false (bools Z)), (13, .ro false (bools Z))], h⟩ (fun _ k1 => AW.orders mixed ?_) ?_
    · refine AD.either 20 9 (by decide) ?_ ?_
      · skip
        refine AD.draw [0,1,2,3,4,5,6,7,8,10,12,13,14,15,16,17,18,19,20,21,9,11,22,23,24,25] [0,1,2,3,4,5,6,7,8,20,9,21,10,11,12,13,14,15,16,17,18,19,22,23,24,25] [80,93] 20 [0,6,10,17] Θ_ok (by kernel_rfl) (by kernel_rfl) (by kernel_rfl) ?_
        simp only [addA_toList, addL, permOps, relab, List.getElem?_cons_zero, List.getElem?_cons_succ]
        refine vcDraw_split 20 fun B hB => ?_
        simp [vcPre, vcTail, callA, isAlloc, isLoad, effOp, obl, obA, mkOK, valA, x1, x2, x3, x4, x5, x6, era', erb']
        refine fun a1 q1 a2 q2 => hB _ _ _ ?_
        clear hB B
        have z00 : h a1 = none := q1
        have a12 : a1 ≠ a2 := fun e => by rw [e] at q2; simp [upd] at q2
        have g2 : h a2 = none := none_of q2
        obtain ⟨G2, e2⟩ : ∃ G2, G2 = upd h a2 (some (⟨[.ro false (bools rb)], 27, 1, true⟩ : Ob)) := ⟨_, rfl⟩
        have z0 : h a1 = none := by first | exact z00 | exact none_of z00
        have g1 : G2 a1 = none := by rw [e2, upd_ne _ _ a12]; exact z0
        rw [upd_comm h _ _ a12, ← e2]
        simp [vcPre, vcTail, callA, isAlloc, isLoad, effOp, obl, obA, mkOK, valA, appendA, upd_same, sz0, fW, fWl, upd_none_id g1]
        refine ⟨⟨by omega, by omega⟩, fun d1 s1 => ?_⟩
        have s1' := none_of s1
        refine (give1 sC (by first | (rw [List.take_of_length_le (by simp)]; simp) | simp) (by first | (simp; done) | (simp; omega)) G2 d1 s1').mono ?_
        rintro v1 hv1 ⟨ev, eh⟩
        rw [eh, ev, show G2 a2 = some (⟨[.ro false (bools rb)], 27, 1, true⟩ : Ob) from by rw [e2, upd_same], show upd G2 a2 none = h from by rw [e2, upd_upd, upd_none_id g2]]
        refine ⟨⟨rfl, rfl, Nat.le_refl 1, by omega, by omega⟩, fun d2 s2 => ?_⟩
        have s2' : h d2 = none := by first | exact s2 | exact none_of s2 | (rw [e2] at s2; exact none_of s2)
        refine (give2 sD (by first | (rw [List.take_of_length_le (by simp)]; simp) | simp) (by first | (simp; done) | (simp; omega)) h d2 s2').mono ?_
        rintro v2 hv2 ⟨ev, eh⟩
        rw [eh, ev]
        exact k1 _ (GStep.eq (by simp) (subH.refl _))
      refine AD.either 20 11 (by decide) ?_ ?_
      · skip
        refine AD.draw [0,1,2,3,4,5,6,7,8,10,12,13,14,15,16,17,18,19,21,9,20,11,22,23,24,25] [0,1,2,3,4,5,6,7,8,19,9,21,10,11,12,13,14,15,16,17,20,18,22,23,24,25] [80,93] 19 [0,6,10,17] Θ_ok (by kernel_rfl) (by kernel_rfl) (by kernel_rfl) ?_
        simp only [addA_toList, addL, permOps, relab, List.getElem?_cons_zero, List.getElem?_cons_succ]
        refine vcDraw_split 19 fun B hB => ?_
        simp [vcPre, vcTail, callA, isAlloc, isLoad, effOp, obl, obA, mkOK, valA, x1, x2, x3, x4, x5, x6, era', erb']
        refine fun a1 q1 => hB _ _ _ ?_
        clear hB B
        simp [vcPre, vcTail, callA, isAlloc, isLoad, effOp, obl, obA, mkOK, valA, appendA, upd_same, sz0, fW, fWl, upd_none_id q1]
        refine ⟨⟨by omega, by omega⟩, fun d1 z00 a2 q2 => ?_⟩
        have a12 : d1 ≠ a2 := fun e => by rw [e] at q2; simp [upd] at q2
        have g2 : h a2 = none := none_of q2
        obtain ⟨G2, e2⟩ : ∃ G2, G2 = upd h a2 (some (⟨[.ro false (bools rb)], 27, 1, true⟩ : Ob)) := ⟨_, rfl⟩
        have z0 : h d1 = none := by first | exact z00 | exact none_of z00
        have g1 : G2 d1 = none := by rw [e2, upd_ne _ _ a12]; exact z0
        rw [upd_comm h _ _ a12, ← e2]
        have s1' := g1
        refine (give1 sC (by first | (rw [List.take_of_length_le (by simp)]; simp) | simp) (by first | (simp; done) | (simp; omega)) G2 d1 s1').mono ?_
        rintro v1 hv1 ⟨ev, eh⟩
        rw [eh, ev, show G2 a2 = some (⟨[.ro false (bools rb)], 27, 1, true⟩ : Ob) from by rw [e2, upd_same], show upd G2 a2 none = h from by rw [e2, upd_upd, upd_none_id g2]]
        refine ⟨⟨rfl, rfl, Nat.le_refl 1, by omega, by omega⟩, fun d2 s2 => ?_⟩
        have s2' : h d2 = none := by first | exact s2 | exact none_of s2 | (rw [e2] at s2; exact none_of s2)
        refine (give2 sD (by first | (rw [List.take_of_length_le (by simp)]; simp) | simp) (by first | (simp; done) | (simp; omega)) h d2 s2').mono ?_
        rintro v2 hv2 ⟨ev, eh⟩
        rw [eh, ev]
        exact k1 _ (GStep.eq (by simp) (subH.refl _))
      · skip
        refine AD.draw [0,1,2,3,4,5,6,7,8,10,12,13,14,15,16,17,18,19,21,9,11,20,22,23,24,25] [0,1,2,3,4,5,6,7,8,19,9,20,10,11,12,13,14,15,16,17,21,18,22,23,24,25] [80,93] 19 [0,6,10,17] Θ_ok (by kernel_rfl) (by kernel_rfl) (by kernel_rfl) ?_
        simp only [addA_toList, addL, permOps, relab, List.getElem?_cons_zero, List.getElem?_cons_succ]
        refine vcDraw_split 19 fun B hB => ?_
        simp [vcPre, vcTail, callA, isAlloc, isLoad, effOp, obl, obA, mkOK, valA, x1, x2, x3, x4, x5, x6, era', erb']
        refine fun a1 q1 => hB _ _ _ ?_
        clear hB B
        simp [vcPre, vcTail, callA, isAlloc, isLoad, effOp, obl, obA, mkOK, valA, appendA, upd_same, sz0, fW, fWl, upd_none_id q1]
        refine ⟨⟨by omega, by omega⟩, fun d1 s1 => ?_⟩
        have s1' : h d1 = none := by first | exact s1 | exact none_of s1
        refine (give1 sC (by first | (rw [List.take_of_length_le (by simp)]; simp) | simp) (by first | (simp; done) | (simp; omega)) h d1 s1').mono ?_
        rintro v1 hv1 ⟨ev, eh⟩
        rw [eh, ev]
        intro a2 q2
        rw [upd_none_id q2]
        refine ⟨⟨by omega, by omega⟩, fun d2 s2 => ?_⟩
        have s2' : h d2 = none := by first | exact s2 | exact none_of s2 | (rw [e2] at s2; exact none_of s2)
        refine (give2 sD (by first | (rw [List.take_of_length_le (by simp)]; simp) | simp) (by first | (simp; done) | (simp; omega)) h d2 s2').mono ?_
        rintro v2 hv2 ⟨ev, eh⟩
        rw [eh, ev]
        exact k1 _ (GStep.eq (by simp) (subH.refl _))
    have eA : A.length = Z.length := by omega
    have eB : B.length = Z.length := by omega
    refine AW.seq fun _ k1 => ?_
    refine AW.seq fun _ k2 => AW.regionAt 24 [] Θ_ok fun B hB => ?_
    simp [lz, lA, lB]
    refine (r9_SameRow Z Z (by omega)).use (by first | rfl | simp) ?_
    refine hB _ ?_
    clear hB B
    refine vcOps_split 6 fun B hB => ?_
    simp
    refine (r9_SameRow Z Z (by omega)).use (by first | rfl | simp) ?_
    refine hB _ ?_
    clear hB B
    simp
    refine k2 _ ?_
    refine AW.cond false (by simp [Int.natCast_inj]) (fun h => by cases h) (fun _ => ?_)
    refine AW.skip ?_
    simp
    refine k1 _ ?_
    refine AW.seq fun _ k1 => ?_
    refine AW.seq fun _ k2 => AW.region [] Θ_ok ?_
    simp
    refine k2 _ ?_
    refine AW.block ?_
    refine AW.loopI (X := Nat) (fun x => x ≤ Z.length) (fun x => ⟨160, [(9, .ro false (bools Z)), (10, .ro false (bools A)), (11, .ro false (bools B)), (130, .int .i64 Z.length), (131, .int .i64 x)], h⟩) (fun x => Z.length - x) 0 (Nat.zero_le _) (GStep.eq (by simp) (subH.refl _)) fun x hx => ?_
    refine AW.seq fun _ k2 => AW.region [] Θ_ok ?_
    simp
    refine k2 _ ?_
    by_cases hlt : x < Z.length
    · have inc := wrap_succ (show x < 9223372036854775807 by omega)
      have hltA : x < A.length := by omega
      have hltB : x < B.length := by omega
      have h1 := up x (by omega)
      have h2 := dn x (by omega)
      have eZ : hasN Z x = Z[x] := by simp [hasN, hlt]
      have eX : hasN A x = A[x] := by simp [hasN, hltA]
      have eY : hasN B x = B[x] := by simp [hasN, hltB]
      rw [eZ, eX] at h1
      rw [eZ, eY] at h2
      clear up dn
      refine AW.seq fun _ k2 => AW.cond true (by simp [Int.natCast_inj, hlt]) (fun _ => ?_) (fun h => by cases h)
      refine AW.skip ?_
      simp
      refine k2 _ ?_
      refine AW.seq fun _ k2 => ?_
      refine AW.block ?_
      refine AW.seq fun _ k3 => AW.region [] Θ_ok ?_
      simp
      refine k3 _ ?_
      cases hZ : Z[x]
      · have hB : B[x] = false := by
          cases q : B[x] with
          | false => rfl
          | true => have := h2 q; rw [hZ] at this; cases this
        refine AW.seq fun _ k3 => AW.region [] Θ_ok ?_
        simp [hlt, hltA, hltB, hZ, hB]
        refine k3 _ ?_
        refine AW.cond false (by simp [Int.natCast_inj]) (fun h => by cases h) (fun _ => ?_)
        refine AW.skip ?_
        simp
        refine k2 _ ?_
        refine AW.region [] Θ_ok ?_
        simp
        exact ⟨x + 1, by omega, by omega, GStep.eq (by simp [inc]) (subH.refl _)⟩
      · have hA := h1 hZ
        cases hB : B[x]
        · refine AW.seq fun _ k3 => AW.region [] Θ_ok ?_
          simp [hlt, hltA, hltB, hZ, hA, hB]
          refine k3 _ ?_
          refine AW.cond false (by simp [Int.natCast_inj]) (fun h => by cases h) (fun _ => ?_)
          refine AW.skip ?_
          simp
          refine k2 _ ?_
          refine AW.region [] Θ_ok ?_
          simp
          exact ⟨x + 1, by omega, by omega, GStep.eq (by simp [inc]) (subH.refl _)⟩
        · refine AW.seq fun _ k3 => AW.region [] Θ_ok ?_
          simp [hlt, hltA, hltB, hZ, hA, hB]
          refine k3 _ ?_
          refine AW.cond false (by simp [Int.natCast_inj]) (fun h => by cases h) (fun _ => ?_)
          refine AW.skip ?_
          simp
          refine k2 _ ?_
          refine AW.region [] Θ_ok ?_
          simp
          exact ⟨x + 1, by omega, by omega, GStep.eq (by simp [inc]) (subH.refl _)⟩
    obtain rfl : x = Z.length := by omega
    refine AW.seq fun _ k2 => AW.cond false (by simp [Int.natCast_inj]) (fun h => by cases h) (fun _ => ?_)
    refine AW.exit ?_
    simp
    refine k1 _ ?_
    refine AW.seq fun _ kr => AW.region [] Θ_ok ?_
    simp
    refine (l18_awake).use (by simp [G.av]) ?_
    try simp
    refine kr _ (AW.ret ?_)
    simp [Try.f7]
    exact Fin.refl ⟨rfl, rfl⟩
  · by_cases hm : mayE g = 0
    · rw [hm] at sY
      by_cases a3 : 3 < la.length
      · have c1 : (3 : Int) < la.length := by omega
        refine AW.seq fun _ k2 => AW.regionAt 4 [] Θ_ok fun B hB => ?_
        simp
        refine sH.use (by simp [G.av]) ?_
        refine hB _ ?_
        clear hB B
        refine vcOps_split 9 fun B hB => ?_
        simp [h1, h1', h2, h2', h2'']
        refine sY.use (by simp [G.av]) ?_
        refine hB _ ?_
        clear hB B
        simp [c1, a3]
        refine k2 _ ?_
        refine AW.cond true (by simp [Int.natCast_inj, c1, a3]) (fun _ => ?_) (fun h => by cases h)
        refine AW.seq fun _ kr => AW.region [] Θ_ok ?_
        simp
        refine (l18_awake).use (by simp [G.av]) ?_
        try simp
        refine kr _ (AW.ret ?_)
        simp [Try.f7]
        exact Fin.refl ⟨rfl, rfl⟩
      have c1 : ¬ (3 : Int) < la.length := by omega
      have c1' : (la.length : Int) ≤ 3 := by omega
      by_cases b3 : 3 < lb.length
      · have c2 : (3 : Int) < lb.length := by omega
        refine AW.seq fun _ k2 => AW.regionAt 4 [] Θ_ok fun B hB => ?_
        simp
        refine sH.use (by simp [G.av]) ?_
        refine hB _ ?_
        clear hB B
        refine vcOps_split 9 fun B hB => ?_
        simp [h1, h1', h2, h2', h2'']
        refine sY.use (by simp [G.av]) ?_
        refine hB _ ?_
        clear hB B
        simp [c1, c1', a3, c2, b3]
        refine k2 _ ?_
        refine AW.cond true (by simp [Int.natCast_inj, c1, c1', a3, c2, b3]) (fun _ => ?_) (fun h => by cases h)
        refine AW.seq fun _ kr => AW.region [] Θ_ok ?_
        simp
        refine (l18_awake).use (by simp [G.av]) ?_
        try simp
        refine kr _ (AW.ret ?_)
        simp [Try.f7]
        exact Fin.refl ⟨rfl, rfl⟩
      have c2 : ¬ (3 : Int) < lb.length := by omega
      have c2' : (lb.length : Int) ≤ 3 := by omega
      by_cases a0 : la = []
      · have c3 : (la.length : Int) = 0 := by rw [a0]; rfl
        refine AW.seq fun _ k2 => AW.regionAt 4 [] Θ_ok fun B hB => ?_
        simp
        refine sH.use (by simp [G.av]) ?_
        refine hB _ ?_
        clear hB B
        refine vcOps_split 9 fun B hB => ?_
        simp [h1, h1', h2, h2', h2'']
        refine sY.use (by simp [G.av]) ?_
        refine hB _ ?_
        clear hB B
        simp [c1, c1', a3, c2, c2', b3, a0, c3]
        refine k2 _ ?_
        refine AW.cond true (by simp [Int.natCast_inj, c1, c1', a3, c2, c2', b3, a0, c3]) (fun _ => ?_) (fun h => by cases h)
        refine AW.seq fun _ kr => AW.region [] Θ_ok ?_
        simp
        refine (l18_awake).use (by simp [G.av]) ?_
        try simp
        refine kr _ (AW.ret ?_)
        simp [Try.f7]
        exact Fin.refl ⟨rfl, rfl⟩
      have al := List.length_pos_iff.2 a0
      have c3 : ¬ (la.length : Int) = 0 := by omega
      have b0 : lb = [] := by
        cases lb with
        | nil => rfl
        | cons x l => exact absurd ⟨hm, by omega, by omega, al, by simp⟩ hc
      have c4 : (lb.length : Int) = 0 := by rw [b0]; rfl
      refine AW.seq fun _ k2 => AW.regionAt 4 [] Θ_ok fun B hB => ?_
      simp
      refine sH.use (by simp [G.av]) ?_
      refine hB _ ?_
      clear hB B
      refine vcOps_split 9 fun B hB => ?_
      simp [h1, h1', h2, h2', h2'']
      refine sY.use (by simp [G.av]) ?_
      refine hB _ ?_
      clear hB B
      simp [c1, c1', a3, c2, c2', b3, a0, c3, b0, c4]
      refine k2 _ ?_
      refine AW.cond true (by simp [Int.natCast_inj, c1, c1', a3, c2, c2', b3, a0, c3, b0, c4]) (fun _ => ?_) (fun h => by cases h)
      refine AW.seq fun _ kr => AW.region [] Θ_ok ?_
      simp
      refine (l18_awake).use (by simp [G.av]) ?_
      try simp
      refine kr _ (AW.ret ?_)
      simp [Try.f7]
      exact Fin.refl ⟨rfl, rfl⟩
    · refine AW.seq fun _ k2 => AW.regionAt 4 [] Θ_ok fun B hB => ?_
      simp
      refine sH.use (by simp [G.av]) ?_
      refine hB _ ?_
      clear hB B
      refine vcOps_split 9 fun B hB => ?_
      simp [h1, h1', h2, h2', h2'']
      refine sY.use (by simp [G.av]) ?_
      refine hB _ ?_
      clear hB B
      simp [hm]
      refine k2 _ ?_
      refine AW.cond true (by simp [Int.natCast_inj, hm]) (fun _ => ?_) (fun h => by cases h)
      refine AW.seq fun _ kr => AW.region [] Θ_ok ?_
      simp
      refine (l18_awake).use (by simp [G.av]) ?_
      try simp
      refine kr _ (AW.ret ?_)
      simp [Try.f7]
      exact Fin.refl ⟨rfl, rfl⟩
end Go.Par
