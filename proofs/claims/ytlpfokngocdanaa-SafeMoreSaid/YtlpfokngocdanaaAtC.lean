import Derived.Test.YtlpfokngocdanaaAtB
set_option linter.unusedSimpArgs false
set_option linter.unusedVariables false
set_option maxRecDepth 8000
namespace Go.Par
open Go.Proofs

theorem map_drop_int (R : List Int) {v : Nat} (h : v < R.length) : (R.map (AV.int .i64)).drop v = .int .i64 R[v] :: (R.map (AV.int .i64)).drop (v + 1) := by
  rw [List.drop_eq_getElem_cons (show v < (R.map (AV.int .i64)).length by simpa using h)]; simp
theorem map_set_int (R : List Int) (v : Nat) (x : Int) : (R.map (AV.int .i64)).set v (.int .i64 x) = (R.set v x).map (AV.int .i64) := by rw [List.map_set]
theorem obI_mk (R : List Int) : (⟨R.map (.int .i64), 3, 1, true⟩ : Ob) = obI R := rfl

theorem at_gives {h0 : Heap} {k : SN} (N : SNok h0 k) (g : G) (who : Int) (L R : List Int) (T : List Pr) (v rank : Nat) (hR : R.length = g.owner.length) (hv : v < R.length) (ht : T.length < 1099511627776) :
    AC Try.prog 40 [.ptr k.s 0, .int .i64 v, .int .i64 rank] (SH h0 k g who L R T) fun _ h' => if R[v] < 0 then ∃ o', SNok h0 ⟨k.s, k.l, k.r, o', true⟩ ∧ h' = SH h0 ⟨k.s, k.l, k.r, o', true⟩ g who L (R.set v rank) (pushL T (v, rank)) else h' = SH h0 k g who L R T := by
  have hs := SH.s N g who L R T
  have hr := SH.r N g who L R T
  have dr := map_drop_int R hv
  have hv' : v < g.owner.length := by omega
  have hs2 := map_set_int R v rank
  refine AC.body Θ_ok Try.func40 rfl rfl (Nat.le_of_ble_eq_true rfl) ?_
  refine AW.seq fun _ k1 => AW.region [] Θ_ok ?_
  simp [hs, hr, dr, hv']
  refine k1 _ ?_
  by_cases hc : R[v] < 0
  · have p1 := SH.putR N g who L R T (R.set v rank)
    have hs3 := SH.s N g who L (R.set v rank) T
    simp only [if_pos hc]
    generalize R.set v (rank : Int) = R' at *
    refine AW.cond true (by simp [Int.natCast_inj, hc]) (fun _ => ?_) (fun h => by cases h)
    refine AW.seq fun _ k1 => AW.region [] Θ_ok ?_
    simp [hs, hr, dr, hv', hs2, obI_mk]
    refine ⟨by omega, k1 _ ?_⟩
    rw [p1]
    refine AW.regionAt 9 [] Θ_ok fun B hB => ?_
    simp [hs3]
    refine (heap_Push N g who L R' T (v, rank) ht).mono ?_
    rintro r h' ⟨o', N', rfl⟩
    refine hB _ ?_
    clear hB B
    simp
    exact Fin.refl ⟨o', N', rfl⟩
  · refine AW.cond false (by simp [Int.natCast_inj, hc, Int.not_lt.1 hc]) (fun h => by cases h) (fun _ => ?_)
    refine AW.skip ?_
    simp [Try.f40]
    exact Fin.refl (by rw [if_neg hc])

theorem at_forced {h0 : Heap} {k : SN} (N : SNok h0 k) (g : G) (who : Int) (L R : List Int) (T : List Pr) (v : Nat) (x y w : Int) (hL : L.length = g.owner.length) (hv : v < L.length) (hxv : L[v] = x) (hy : x - 1 = y) (hw : g.owner[v]? = some w) (hx : 0 < x) (hx2 : x < 9223372036854775808) :
    AC Try.prog 43 [.ptr k.s 0, .int .i64 v] (SH h0 k g who L R T) fun r h' => r = .bool (decide (w = who) || decide (y = 0)) ∧ h' = SH h0 k g who (L.set v y) R T := by
  have hs := SH.s N g who L R T
  have hl := SH.l N g who L R T
  have dr := map_drop_int L hv
  rw [hxv] at dr
  have hv' : v < g.owner.length := by omega
  have hgw : g.owner[v] = w := by
    rw [List.getElem?_eq_getElem hv'] at hw; exact Option.some.inj hw
  have w1 : IntKind.i64.wrap (x - 1) = y := by rw [← hy]; exact wrap_id (by omega) (by omega)
  have hs2 := map_set_int L v y
  have p1 := SH.putL N g who L R T (L.set v y)
  have hs3 := SH.s N g who (L.set v y) R T
  have hl3 := SH.l N g who (L.set v y) R T
  have dr3 := map_drop_int (L.set v y) (v := v) (by simpa using hv)
  simp only [List.getElem_set_self] at dr3
  have hL3 : (L.set v y).length = L.length := by simp
  clear hxv hw
  generalize L.set v y = L' at *
  refine AC.body Θ_ok Try.func43 rfl rfl (Nat.le_of_ble_eq_true rfl) ?_
  refine AW.seq fun _ k1 => AW.region [] Θ_ok ?_
  simp
  refine k1 _ ?_
  refine AW.seq fun _ k1 => AW.region [] Θ_ok ?_
  simp [hs, hl, dr, hv', w1, hs2, obI_mk]
  refine ⟨by omega, k1 _ ?_⟩
  rw [p1]
  refine AW.seq fun _ kr => AW.draw [] 24 [] Θ_ok mixed (by kernel_rfl) (by kernel_rfl) ?_
  refine vcDraw_split 14 fun B hB => ?_
  simp [vcPre, vcTail, callA, isAlloc, isLoad, effOp, obl, obA, mkOK, valA, hs3, hl3, hv', hgw]
  by_cases e : w = who
  · have e1 : (w == who) = true := by simp [e]
    refine hB _ _ _ ?_
    clear hB B
    simp [vcPre, vcTail, callA, isAlloc, isLoad, effOp, obl, obA, mkOK, valA, hs3, hl3, hv', e1]
    refine kr _ (AW.ret ?_)
    simp [Try.f43]
    exact Fin.refl ⟨by simp [e], rfl⟩
  · have e1 : (w == who) = false := by simp [e]
    refine hB _ _ _ ?_
    clear hB B
    simp [vcPre, vcTail, callA, isAlloc, isLoad, effOp, obl, obA, mkOK, valA, hs3, hl3, hv', e1, dr3]
    refine kr _ (AW.ret ?_)
    simp [Try.f43]
    refine Fin.refl ⟨?_, rfl⟩
    simp [e]
    by_cases q : y = 0 <;> simp [q]
end Go.Par
