/- The planner: where it has the system go; a whole plan. -/
import Derived.Test.YtaipmknajpbpkaaPnD
set_option linter.unusedSimpArgs false
set_option linter.unusedVariables false
set_option maxRecDepth 8000
set_option maxHeartbeats 2000000
namespace Go.Par
open Go.Proofs

def PLH (h0 : Heap) (a q : Nat) (g : G) (A : List (List Bool)) (Z : List Bool) (to : List Int) : Heap := HL h0 [(a, obPl g A Z (.mu q g.owner.length)), (q, obTd to true)]
section
variable {h0 : Heap} {a q : Nat} (N : HN h0 [a, q]) (g : G) (A : List (List Bool)) (Z : List Bool) (to : List Int)
include N
theorem PLH.ga : PLH h0 a q g A Z to a = some (obPl g A Z (.mu q g.owner.length)) := HL.at (k := 0) N.nd rfl
theorem PLH.gq : PLH h0 a q g A Z to q = some (obTd to true) := HL.at (k := 1) N.nd rfl
theorem PLH.put (to' : List Int) : upd (PLH h0 a q g A Z to) q (some (obTd to' true)) = PLH h0 a q g A Z to' := HL.put (k := 1) N.nd rfl
end

def pgX (g : G) (F I : List Bool) (to : List Int) (x : Nat) : List Int := tab to.length fun v => if v < x ∧ hasN F v = true ∧ ow g v = 1 ∧ to.getD v 0 < 0 then lowL (nx g v) I else to.getD v 0
@[simp] theorem pgX_len (g : G) (F I : List Bool) (to : List Int) (x : Nat) : (pgX g F I to x).length = to.length := length_tab _ _
theorem pgX_zero (g : G) (F I : List Bool) (to : List Int) : pgX g F I to 0 = to := by
  refine (tab_ext rfl fun i hi => ?_).symm
  rw [if_neg (by omega), List.getElem?_eq_getElem hi]; simp [hi]
theorem pgX_all (g : G) (F I : List Bool) (to : List Int) {n : Nat} (h : to.length ≤ n) : pgX g F I to n = goesL g F I to := by
  unfold pgX goesL
  exact tab_congr fun v hv => by simp [show v < n by omega]
theorem pgX_at (g : G) (F I : List Bool) (to : List Int) {x : Nat} (hx : x < to.length) : (pgX g F I to x)[x]? = some to[x] := by
  unfold pgX
  rw [getElem?_tab, if_pos hx, if_neg (by omega)]; simp [hx]
theorem pgX_skip (g : G) (F I : List Bool) (to : List Int) (x : Nat) (h : ¬ (hasN F x = true ∧ ow g x = 1 ∧ to.getD x 0 < 0)) : pgX g F I to (x + 1) = pgX g F I to x := by
  unfold pgX
  refine tab_congr fun v hv => ?_
  by_cases e : v = x
  · subst e; rw [if_neg (fun q => h q.2), if_neg (by omega)]
  · by_cases q : v < x
    · simp [q, show v < x + 1 by omega]
    · simp [q, show ¬ v < x + 1 by omega]
theorem pgX_set (g : G) (F I : List Bool) (to : List Int) (x : Nat) (h : hasN F x = true ∧ ow g x = 1 ∧ to.getD x 0 < 0) : (pgX g F I to x).set x (lowL (nx g x) I) = pgX g F I to (x + 1) := by
  unfold pgX
  rw [set_tab]
  refine tab_congr fun v hv => ?_
  by_cases e : v = x
  · subst e; rw [if_pos rfl, if_pos ⟨by omega, h⟩]
  · rw [if_neg e]
    by_cases q : v < x
    · simp [q, show v < x + 1 by omega]
    · simp [q, show ¬ v < x + 1 by omega]

section
variable {g : G} (hf : g.fits) (hm : mayE g = 0) {A : List (List Bool)} {Z : List Bool} {h0 : Heap} {a q : Nat} (N : HN h0 [a, q])
include hf hm N
theorem plan_goes (F I : List Bool) (hF : F.length = g.owner.length) (hI : I.length = g.owner.length) (to : List Int) (ht : to.length = g.owner.length) :
    AC Try.prog 74 [.ptr a 0, .ro false (bools F), .ro false (bools I)] (PLH h0 a q g A Z to) fun _ h' => h' = PLH h0 a q g A Z (goesL g F I to) := by
  have hn := (may_ok hm).1
  refine AC.body Θ_ok Try.func74 rfl rfl (Nat.le_of_ble_eq_true rfl) ?_
  refine AW.seq fun _ k1 => AW.region [] Θ_ok ?_
  simp
  refine k1 _ ?_
  refine AW.block ?_
  refine AW.loopI (X := Nat) (fun x => x ≤ F.length) (fun x => ⟨48, [(0, .ptr a 0), (2, .ro false (bools I)), (8, .ro false (bools F)), (9, .int .i64 F.length), (10, .int .i64 x)], PLH h0 a q g A Z (pgX g F I to x)⟩) (fun x => F.length - x) 0 (Nat.zero_le _) (GStep.eq (by simp) (by simp only [pgX_zero]; exact subH.refl _)) fun x hx => ?_
  refine AW.seq fun _ k2 => AW.region [] Θ_ok ?_
  simp
  refine k2 _ ?_
  by_cases hlt : x < F.length
  · have inc := wrap_succ (show x < 9223372036854775807 by omega)
    have hxo : x < g.owner.length := by omega
    have hxt : x < to.length := by omega
    have ha := PLH.ga N g A Z (pgX g F I to x)
    have hq := PLH.gq N g A Z (pgX g F I to x)
    have hg := pgX_at g F I to hxt
    have hgl := pgX_len g F I to x
    have hp := PLH.put N g A Z (pgX g F I to x)
    have hFx : hasN F x = F[x] := by simp [hasN, hlt]
    have hox : ow g x = g.owner[x] := by simp [ow, hxo]
    have htx : to.getD x 0 = to[x] := by simp [hxt]
    refine AW.seq fun _ k2 => AW.cond true (by simp [Int.natCast_inj, hlt]) (fun _ => ?_) (fun h => by cases h)
    refine AW.skip ?_
    simp
    refine k2 _ ?_
    refine AW.seq fun _ k2 => ?_
    refine AW.block ?_
    refine AW.seq fun _ k3 => AW.region [] Θ_ok ?_
    simp [hlt]
    refine k3 _ ?_
    have hdr : (ints (pgX g F I to x)).drop x = .int .i64 to[x] :: (ints (pgX g F I to x)).drop (x + 1) := by
      have hh : x < (ints (pgX g F I to x)).length := by rw [List.length_map, hgl]; exact hxt
      rw [List.drop_eq_getElem_cons hh]
      have : (ints (pgX g F I to x))[x] = .int .i64 to[x] := by
        have e : (ints (pgX g F I to x))[x]? = some (.int .i64 to[x]) := by rw [ints, List.getElem?_map, hg]; rfl
        rw [List.getElem?_eq_getElem hh] at e; exact Option.some.inj e
      rw [this]
    by_cases c : hasN F x = true ∧ ow g x = 1 ∧ to.getD x 0 < 0
    · have sL := plan_lowest hf hm ha x hxo I hI
      have st := pgX_set g F I to x c
      have hs := hp ((pgX g F I to x).set x (lowL (nx g x) I))
      rw [st] at hs
      obtain ⟨c1, c2, c3⟩ := c
      rw [hFx] at c1
      rw [hox] at c2
      rw [htx] at c3
      generalize hL : pgX g F I to x = L at *
      generalize PLH h0 a q g A Z L = H at *
      generalize lowL (nx g x) I = y at *
      have hmap : (ints L).set x (.int .i64 y) = ints (pgX g F I to (x + 1)) := by rw [mapi_set, st]
      refine AW.seq fun _ k3 => AW.region [] Θ_ok ?_
      simp [c1, c2, c3, ha, hq, hxo, hxt, hgl, hdr]
      refine k3 _ ?_
      refine AW.cond true (by simp [Int.natCast_inj]) (fun _ => ?_) (fun h => by cases h)
      refine AW.draw [] 8 [3] Θ_ok mixed (by kernel_rfl) (by kernel_rfl) ?_
      simp [vcDraw, vcPre, vcTail, callA, isAlloc, isLoad, effOp, obl, obA, mkOK, valA, ha]
      refine (sL.wk (by simp)).mono ?_
      rintro r2 h' ⟨rfl, rfl⟩
      have ha2 := PLH.ga N g A Z (pgX g F I to (x + 1))
      simp [ha, hq, hxo, hmap, obTd_mk, hs, ha2]
      refine ⟨by omega, k2 _ ?_⟩
      refine AW.region [] Θ_ok ?_
      simp
      exact ⟨x + 1, by omega, by omega, GStep.eq (by simp [inc]) (subH.refl _)⟩
    · have st := pgX_skip g F I to x c
      have fin : ∀ S' : St, GStep S' ⟨48, [(0, .ptr a 0), (2, .ro false (bools I)), (8, .ro false (bools F)), (9, .int .i64 F.length), (10, .int .i64 x)], PLH h0 a q g A Z (pgX g F I to x)⟩ → True := fun _ _ => trivial
      generalize pgX g F I to x = L at *
      refine AW.seqTo ⟨48, [(0, .ptr a 0), (2, .ro false (bools I)), (8, .ro false (bools F)), (9, .int .i64 F.length), (10, .int .i64 x), (36, .bool false)], PLH h0 a q g A Z L⟩ (fun _ k3 => ?_) ?_
      · by_cases c1 : F[x] = true
        · by_cases c2 : g.owner[x] = 1
          · have c3 : ¬ to[x] < 0 := fun e => c ⟨by rw [hFx]; exact c1, by rw [hox]; exact c2, by rw [htx]; exact e⟩
            have c3' := Int.not_lt.1 c3
            refine AW.region [] Θ_ok ?_
            simp [c1, c2, c3, c3', ha, hq, hxo, hxt, hgl, hdr]
            exact k3 _ (GStep.eq (by simp) (subH.refl _))
          · refine AW.region [] Θ_ok ?_
            simp [c1, c2, ha, hxo]
            exact k3 _ (GStep.eq (by simp) (subH.refl _))
        · refine AW.region [] Θ_ok ?_
          simp [c1]
          exact k3 _ (GStep.eq (by simp) (subH.refl _))
      refine AW.cond false (by simp [Int.natCast_inj]) (fun h => by cases h) (fun _ => ?_)
      refine AW.skip ?_
      simp
      refine k2 _ ?_
      refine AW.region [] Θ_ok ?_
      simp
      exact ⟨x + 1, by omega, by omega, GStep.eq (by simp [inc]) (by simp only [st]; exact subH.refl _)⟩
  · obtain rfl : x = F.length := by omega
    refine AW.seq fun _ k2 => AW.cond false (by simp [Int.natCast_inj]) (fun h => by cases h) (fun _ => ?_)
    refine AW.exit ?_
    simp
    exact Fin.refl (by rw [pgX_all g F I to (by omega)])
end
end Go.Par
