import Derived.Test.YtdicfaplohdopaaFnM
set_option linter.unusedSimpArgs false
set_option maxRecDepth 8000
namespace Go.Par
open Go.Proofs

theorem waysA_shape (g : G) (p : Nat → Int → Bool) : ∃ a b, waysA g p = .agg [a, b] ∧ a.one = true ∧ b.one = true := by
  unfold waysA
  split
  · exact ⟨_, _, rfl, rfl, rfl⟩
  · exact ⟨_, _, rfl, rfl, rfl⟩

theorem graph_Only1 (in_ : List Bool) (v : Int) (h0 : 0 ≤ v) : Pure Try.prog 44 [.int .i64 v, .rop [.ro false (bools in_)]] (.bool (hasI in_ v)) := by
  intro h
  refine AC.body Θ_ok Try.func44 rfl rfl (Nat.le_of_ble_eq_true rfl) ?_
  refine AW.seq fun _ k1 => AW.region [] Θ_ok ?_
  simp
  refine k1 _ ?_
  by_cases hv : v < in_.length
  · have hn : v.toNat < in_.length := by omega
    refine AW.seq fun _ kr => AW.region [] Θ_ok ?_
    simp [hv, h0, hn]
    refine kr _ (AW.ret ?_)
    simp [Try.f44]
    exact Fin.refl ⟨by simp [hasI, hn], rfl⟩
  · have hn : in_.length ≤ v.toNat := by omega
    refine AW.seq fun _ kr => AW.region [] Θ_ok ?_
    simp [hv]
    refine kr _ (AW.ret ?_)
    simp [Try.f44]
    exact Fin.refl ⟨by simp [hasI, hn], rfl⟩

def onlyP (in_ : List Bool) (v : Nat) (w : Int) : Bool := hasN in_ v && hasI in_ w

theorem graph_Only2 (in_ : List Bool) (v : Nat) (w : Int) (h0 : 0 ≤ w) : Pure Try.prog 46 [.int .i64 v, .int .i64 w, .rop [.clo 44 [.rop [.ro false (bools in_)]]]] (.bool (onlyP in_ v w)) := by
  intro h
  refine AC.body Θ_ok Try.func46 rfl rfl (Nat.le_of_ble_eq_true rfl) ?_
  refine AW.seq fun _ k1 => AW.region [] Θ_ok ?_
  simp
  refine k1 _ ?_
  have s1 := graph_Only1 in_ v (by omega)
  rw [hasI_nat] at s1
  refine AW.seq fun _ kr => AW.regionAt 3 [] Θ_ok fun B hB => ?_
  simp
  refine s1.use (by simp) ?_
  cases e : hasN in_ v
  · refine hB _ ?_
    clear hB B
    simp
    refine kr _ (AW.ret ?_)
    simp [Try.f46]
    exact Fin.refl ⟨by simp [onlyP, e], rfl⟩
  · refine hB _ ?_
    clear hB B
    refine vcOps_split 4 fun B hB => ?_
    simp
    refine (graph_Only1 in_ w h0).use (by simp) ?_
    refine hB _ ?_
    clear hB B
    simp
    refine kr _ (AW.ret ?_)
    simp [Try.f46]
    exact Fin.refl ⟨by simp [onlyP, e], rfl⟩

theorem graph_Only (g : G) (hf : g.fits) (in_ : List Bool) : Pure Try.prog 28 [g.av, .ro false (bools in_)] (waysA g (onlyP in_)) := by
  intro h
  refine AC.body Θ_ok Try.func28 rfl rfl (Nat.le_of_ble_eq_true rfl) ?_
  refine AW.seq fun _ k1 => AW.region [4] Θ_ok ?_
  simp [newA]
  refine fun r hr => k1 _ ?_
  refine AW.seq fun _ k1 => AW.region [5] Θ_ok ?_
  simp [newA]
  refine fun c hc => k1 _ ?_
  obtain ⟨hcr, hc0⟩ := ne_of_none hc (by simp)
  refine AW.box 5 rfl (upd_same _ _ _) ?_
  simp only [upd_upd_none hc]
  have spec := graph_ways g hf 46 [.rop [.clo 44 [.rop [.ro false (bools in_)]]]] (onlyP in_) (fun hm v h w hv hw => graph_Only2 in_ v w ((may_row hm hv h).2 w hw).1)
  obtain ⟨a, b, eA, h1, h2⟩ := waysA_shape g (onlyP in_)
  rw [eA] at spec ⊢
  refine AW.seq fun _ kr => AW.regionAt 3 [] Θ_ok fun B hB => ?_
  simp
  refine spec.use (by simp [G.av]) ?_
  refine hB _ ?_
  clear hB B
  simp [upd_same, h1, h2]
  refine kr _ (AW.ret ?_)
  simp [Try.f28, upd_same]
  exact ⟨_, h, GV.sub (subH_upd hr), rfl, rfl⟩

def followP (g : G) (who : Int) (to_ : List Int) (v : Nat) (w : Int) : Bool := !decide (g.owner.getD v 0 = who) || (decide (v < to_.length) && decide (to_.getD v 0 = w))

theorem graph_Follow1 (g : G) (who : Int) (to_ : List Int) (v : Nat) (hv : v < g.owner.length) (w : Int) :
    Pure Try.prog 49 [.int .i64 v, .int .i64 w, .rop [.ro false (ints g.owner), .ro false (rows g.next)], .rop [.int .i64 who], .rop [.ro false (ints to_)]] (.bool (followP g who to_ v w)) := by
  intro h
  refine AC.body Θ_ok Try.func49 rfl rfl (Nat.le_of_ble_eq_true rfl) ?_
  refine AW.seq fun _ k1 => AW.region [] Θ_ok ?_
  simp
  refine k1 _ ?_
  by_cases ho : g.owner[v] = who
  · by_cases hl : v < to_.length
    · refine AW.seq fun _ kr => AW.draw [] 21 [] Θ_ok mixed (by kernel_rfl) (by kernel_rfl) ?_
      simp [vcDraw, vcPre, vcTail, callA, isAlloc, isLoad, effOp, obl, obA, mkOK, valA, hv, ho, hl]
      refine kr _ (AW.ret ?_)
      simp [Try.f49]
      exact Fin.refl ⟨by simp [followP, hv, ho, hl]; rfl, rfl⟩
    · refine AW.seq fun _ kr => AW.draw [] 21 [] Θ_ok mixed (by kernel_rfl) (by kernel_rfl) ?_
      simp [vcDraw, vcPre, vcTail, callA, isAlloc, isLoad, effOp, obl, obA, mkOK, valA, hv, ho, hl]
      refine kr _ (AW.ret ?_)
      simp [Try.f49]
      exact Fin.refl ⟨by simp [followP, hv, ho, hl], rfl⟩
  · refine AW.seq fun _ kr => AW.draw [] 21 [] Θ_ok mixed (by kernel_rfl) (by kernel_rfl) ?_
    simp [vcDraw, vcPre, vcTail, callA, isAlloc, isLoad, effOp, obl, obA, mkOK, valA, hv, ho]
    refine kr _ (AW.ret ?_)
    simp [Try.f49]
    exact Fin.refl ⟨by simp [followP, hv, ho], rfl⟩

theorem graph_Follow (g : G) (hf : g.fits) (who : Int) (to_ : List Int) : Pure Try.prog 30 [g.av, .int .i64 who, .ro false (ints to_)] (waysA g (followP g who to_)) := by
  intro h
  refine AC.body Θ_ok Try.func30 rfl rfl (Nat.le_of_ble_eq_true rfl) ?_
  refine AW.seq fun _ k1 => AW.region [6] Θ_ok ?_
  simp [newA]
  refine fun r hr => k1 _ ?_
  have spec := graph_ways g hf 49 [.rop [.ro false (ints g.owner), .ro false (rows g.next)], .rop [.int .i64 who], .rop [.ro false (ints to_)]] (followP g who to_) (fun hm v h w hv hw => graph_Follow1 g who to_ v hv w)
  obtain ⟨a, b, eA, h1, h2⟩ := waysA_shape g (followP g who to_)
  rw [eA] at spec ⊢
  refine AW.seq fun _ kr => AW.regionAt 3 [] Θ_ok fun B hB => ?_
  simp
  refine spec.use (by simp [G.av]) ?_
  refine hB _ ?_
  clear hB B
  simp [upd_same, h1, h2]
  refine kr _ (AW.ret ?_)
  simp [Try.f30, upd_same]
  exact ⟨_, h, GV.sub (subH_upd hr), rfl, rfl⟩
end Go.Par
