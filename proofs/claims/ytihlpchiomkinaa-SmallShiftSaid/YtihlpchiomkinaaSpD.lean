/- The lifter: compare. -/
import Derived.Test.YtihlpchiomkinaaSpC
set_option linter.unusedSimpArgs false
set_option linter.unusedVariables false
set_option maxRecDepth 8000
set_option maxHeartbeats 1000000
namespace Go.Par
open Go.Proofs

def cmpI (a b : Int) : Int := if a < b then -1 else if b < a then 1 else 0
theorem cmp_nan (a : Int) : Pure Try.prog 98 [.int .i64 a] (.bool false) := by
  intro h
  refine AC.body Θ_ok Try.func98 rfl rfl (Nat.le_of_ble_eq_true rfl) ?_
  refine AW.seq fun _ k1 => AW.region [] Θ_ok ?_
  simp
  refine k1 _ ?_
  refine AW.seq fun _ kr => AW.region [] Θ_ok ?_
  simp
  refine kr _ (AW.ret ?_)
  simp [Try.f98]
  exact Fin.refl ⟨rfl, rfl⟩
theorem cmp_Compare (a b : Int) : Pure Try.prog 94 [.int .i64 a, .int .i64 b] (.int .i64 (cmpI a b)) := by
  intro h
  refine AC.body Θ_ok Try.func94 rfl rfl (Nat.le_of_ble_eq_true rfl) ?_
  refine AW.seq fun _ k1 => AW.region [] Θ_ok ?_
  simp
  refine k1 _ ?_
  refine AW.seq fun _ k1 => AW.region [] Θ_ok ?_
  simp
  refine (cmp_nan a).use (by simp [G.av]) ?_
  try simp
  refine k1 _ ?_
  refine AW.seq fun _ k1 => AW.region [] Θ_ok ?_
  simp
  refine (cmp_nan b).use (by simp [G.av]) ?_
  try simp
  refine k1 _ ?_
  refine AW.seq fun _ k1 => ?_
  refine AW.seq fun _ k2 => AW.region [] Θ_ok ?_
  simp
  refine k2 _ ?_
  refine AW.cond false (by simp [Int.natCast_inj]) (fun h => by cases h) (fun _ => ?_)
  refine AW.skip ?_
  simp
  refine k1 _ ?_
  refine AW.seq fun _ k1 => ?_
  refine AW.seq fun _ k2 => AW.region [] Θ_ok ?_
  simp
  refine k2 _ ?_
  refine AW.cond false (by simp [Int.natCast_inj]) (fun h => by cases h) (fun _ => ?_)
  refine AW.skip ?_
  simp
  refine k1 _ ?_
  refine AW.seq fun _ k1 => ?_
  refine AW.seq fun _ k2 => AW.region [] Θ_ok ?_
  simp
  refine k2 _ ?_
  by_cases h1 : a < b
  · have e : cmpI a b = -1 := if_pos h1
    refine AW.cond true (by simp [Int.natCast_inj, h1]) (fun _ => ?_) (fun h => by cases h)
    refine AW.seq fun _ kr => AW.region [] Θ_ok ?_
    simp
    refine kr _ (AW.ret ?_)
    simp [Try.f94]
    exact Fin.refl ⟨by rw [e], rfl⟩
  have h1' := Int.not_lt.1 h1
  refine AW.cond false (by simp [Int.natCast_inj, h1, h1']) (fun h => by cases h) (fun _ => ?_)
  refine AW.skip ?_
  simp
  refine k1 _ ?_
  refine AW.seq fun _ k1 => ?_
  refine AW.seq fun _ k2 => AW.region [] Θ_ok ?_
  simp
  refine k2 _ ?_
  by_cases h2 : b < a
  · have e : cmpI a b = 1 := by rw [cmpI, if_neg h1, if_pos h2]
    refine AW.cond true (by simp [Int.natCast_inj, h2]) (fun _ => ?_) (fun h => by cases h)
    refine AW.seq fun _ kr => AW.region [] Θ_ok ?_
    simp
    refine kr _ (AW.ret ?_)
    simp [Try.f94]
    exact Fin.refl ⟨by rw [e], rfl⟩
  have h2' := Int.not_lt.1 h2
  have e : cmpI a b = 0 := by rw [cmpI, if_neg h1, if_neg h2]
  refine AW.cond false (by simp [Int.natCast_inj, h2, h2']) (fun h => by cases h) (fun _ => ?_)
  refine AW.skip ?_
  simp
  refine k1 _ ?_
  refine AW.seq fun _ kr => AW.region [] Θ_ok ?_
  simp
  refine kr _ (AW.ret ?_)
  simp [Try.f94]
  exact Fin.refl ⟨by rw [e], rfl⟩
theorem small_bit (t : Bool) : Pure Try.prog 95 [.bool t] (.int .i64 (if t then 1 else 0)) := by
  intro h
  refine AC.body Θ_ok Try.func95 rfl rfl (Nat.le_of_ble_eq_true rfl) ?_
  refine AW.seq fun _ k1 => AW.region [] Θ_ok ?_
  simp
  refine k1 _ ?_
  cases t
  · refine AW.seq fun _ k1 => ?_
    refine AW.seq fun _ k2 => AW.region [] Θ_ok ?_
    simp
    refine k2 _ ?_
    refine AW.cond false (by simp [Int.natCast_inj]) (fun h => by cases h) (fun _ => ?_)
    refine AW.skip ?_
    simp
    refine k1 _ ?_
    refine AW.seq fun _ kr => AW.region [] Θ_ok ?_
    simp
    refine kr _ (AW.ret ?_)
    simp [Try.f95]
    exact Fin.refl ⟨rfl, rfl⟩
  · refine AW.seq fun _ k1 => ?_
    refine AW.seq fun _ k2 => AW.region [] Θ_ok ?_
    simp
    refine k2 _ ?_
    refine AW.cond true (by simp [Int.natCast_inj]) (fun _ => ?_) (fun h => by cases h)
    refine AW.seq fun _ kr => AW.region [] Θ_ok ?_
    simp
    refine kr _ (AW.ret ?_)
    simp [Try.f95]
    exact Fin.refl ⟨rfl, rfl⟩

def cmpM (x y : Ms) : Int := cmpI (mcode x) (mcode y)
theorem cmpM_lt {x y : Ms} : cmpM x y < 0 ↔ mcode x < mcode y := by
  unfold cmpM cmpI
  by_cases h : (mcode x : Int) < mcode y
  · rw [if_pos h]; omega
  · rw [if_neg h]; by_cases k : (mcode y : Int) < mcode x
    · rw [if_pos k]; omega
    · rw [if_neg k]; omega
theorem cmpM_gt {x y : Ms} : 0 < cmpM x y ↔ mcode y < mcode x := by
  unfold cmpM cmpI
  by_cases h : (mcode x : Int) < mcode y
  · rw [if_pos h]; omega
  · rw [if_neg h]; by_cases k : (mcode y : Int) < mcode x
    · rw [if_pos k]; omega
    · rw [if_neg k]; omega

theorem small_compare (mo : Mo) (ok : mo.ok) (x y : Ms) (hx : msOk mo x) (hy : msOk mo y) : Pure Try.prog 86 [avM x, avM y] (.int .i64 (cmpM x y)) := by
  have key : (msN x).t = true ∨ (msN y).t = true → cmpM x y = cmpI (if (msN x).t then 1 else 0) (if (msN y).t then 1 else 0) := by
    intro h
    cases x with
    | none =>
      cases y with
      | none => rfl
      | some u =>
        have := code_top ok hy
        simp only [cmpM, cmpI, msN]
        rw [if_neg (by omega), if_pos (by omega)]; rfl
    | some t =>
      cases y with
      | none =>
        have := code_top ok hx
        simp only [cmpM, cmpI, msN]
        rw [if_pos (by omega)]; rfl
      | some u => simp [msN] at h
  by_cases ht : (msN x).t = true ∨ (msN y).t = true
  · have e := key ht
    have s1 := small_bit (msN x).t
    have s2 := small_bit (msN y).t
    have s3 := cmp_Compare (if (msN x).t then 1 else 0) (if (msN y).t then 1 else 0)
    rw [← e] at s3
    have ex : avM x = .agg (msN x).l := rfl
    have ey : avM y = .agg (msN y).l := rfl
    rw [ex, ey]
    generalize cmpM x y = c at *
    generalize msN x = X at *
    generalize msN y = Y at *
    obtain ⟨a1, a2, a3, a4⟩ := X
    obtain ⟨b1, b2, b3, b4⟩ := Y
    simp only at ht s1 s2 s3
    intro h
    refine AC.body Θ_ok Try.func86 rfl rfl (Nat.le_of_ble_eq_true rfl) ?_
    refine AW.seq fun _ k1 => AW.region [] Θ_ok ?_
    simp [M4.l]
    refine k1 _ ?_
    refine AW.seq fun _ k1 => ?_
    refine AW.block ?_
    have go : ∀ (r : Bool), r = true → (a4 = true ∨ b4 = true) := fun _ _ => ht
    cases a4 with
    | true =>
      refine AW.seq fun _ k2 => AW.region [] Θ_ok ?_
      simp
      refine k2 _ ?_
      refine AW.cond true (by simp [Int.natCast_inj]) (fun _ => ?_) (fun h => by cases h)
      refine AW.seq fun _ kr => AW.draw [] 8 [] Θ_ok mixed (by kernel_rfl) (by kernel_rfl) ?_
      refine vcDraw_split 2 fun B hB => ?_
      simp [vcPre, vcTail, callA, isAlloc, isLoad, effOp, obl, obA, mkOK, valA]
      refine hB _ _ _ ?_
      clear hB B
      refine vcPre_split 1 fun B hB => ?_
      simp [vcPre, vcTail, callA, isAlloc, isLoad, effOp, obl, obA, mkOK, valA]
      refine ⟨_, s1.wk (by simp), ?_⟩
      refine hB _ _ _ ?_
      clear hB B
      refine vcPre_split 3 fun B hB => ?_
      simp [vcPre, vcTail, callA, isAlloc, isLoad, effOp, obl, obA, mkOK, valA]
      refine ⟨_, s2.wk (by simp), ?_⟩
      refine hB _ _ _ ?_
      clear hB B
      simp [vcPre, vcTail, callA, isAlloc, isLoad, effOp, obl, obA, mkOK, valA]
      refine ⟨_, s3.wk (by simp), ?_⟩
      try simp
      refine kr _ (AW.ret ?_)
      simp [Try.f86]
      exact Fin.refl ⟨rfl, rfl⟩
    | false =>
      have hb : b4 = true := by rcases ht with h | h; cases h; exact h
      subst hb
      refine AW.seq fun _ k2 => AW.region [] Θ_ok ?_
      simp
      refine k2 _ ?_
      refine AW.cond true (by simp [Int.natCast_inj]) (fun _ => ?_) (fun h => by cases h)
      refine AW.seq fun _ kr => AW.draw [] 8 [] Θ_ok mixed (by kernel_rfl) (by kernel_rfl) ?_
      refine vcDraw_split 2 fun B hB => ?_
      simp [vcPre, vcTail, callA, isAlloc, isLoad, effOp, obl, obA, mkOK, valA]
      refine hB _ _ _ ?_
      clear hB B
      refine vcPre_split 1 fun B hB => ?_
      simp [vcPre, vcTail, callA, isAlloc, isLoad, effOp, obl, obA, mkOK, valA]
      refine ⟨_, s1.wk (by simp), ?_⟩
      refine hB _ _ _ ?_
      clear hB B
      refine vcPre_split 3 fun B hB => ?_
      simp [vcPre, vcTail, callA, isAlloc, isLoad, effOp, obl, obA, mkOK, valA]
      refine ⟨_, s2.wk (by simp), ?_⟩
      refine hB _ _ _ ?_
      clear hB B
      simp [vcPre, vcTail, callA, isAlloc, isLoad, effOp, obl, obA, mkOK, valA]
      refine ⟨_, s3.wk (by simp), ?_⟩
      try simp
      refine kr _ (AW.ret ?_)
      simp [Try.f86]
      exact Fin.refl ⟨rfl, rfl⟩
  · cases x with
    | none => exact absurd (.inl rfl) ht
    | some t =>
    cases y with
    | none => exact absurd (.inr rfl) ht
    | some u =>
      clear key ht
      have eT : avM (some t) = .agg (lM t) := rfl
      have eU : avM (some u) = .agg (lM u) := rfl
      have e1 := fun x (hx' : x < 3) => code_lt ok hx hy hx'
      have e1' := fun x (hx' : x < 3) => code_lt ok hy hx hx'
      have e2 := code_eq (t := t) (u := u)
      obtain ⟨c, hc⟩ : ∃ c, c = cmpM (some t) (some u) := ⟨_, rfl⟩
      rw [eT, eU, ← hc]
      intro h
      refine AC.body Θ_ok Try.func86 rfl rfl (Nat.le_of_ble_eq_true rfl) ?_
      have d3 := lM_drop3 t
      have d3' := lM_drop3 u
      refine AW.seq fun _ k1 => AW.region [] Θ_ok ?_
      simp
      refine k1 _ ?_
      refine AW.seq fun _ k1 => ?_
      refine AW.block ?_
      refine AW.seq fun _ k2 => AW.region [] Θ_ok ?_
      simp [d3, d3']
      refine k2 _ ?_
      refine AW.cond false (by simp [Int.natCast_inj]) (fun h => by cases h) (fun _ => ?_)
      refine AW.skip ?_
      simp
      refine k1 _ ?_
      refine AW.seq fun _ k1 => ?_
      refine AW.seq fun _ k2 => AW.region [] Θ_ok ?_
      simp
      refine k2 _ ?_
      refine AW.block ?_
      refine AW.loopI (X := Nat) (fun j => j ≤ 3 ∧ ∀ k, 3 - j ≤ k → k < 3 → atM t k = atM u k) (fun j => ⟨42, [(2, .rop (lM t)), (3, .rop (lM u)), (5, .int .i64 (2 - (j : Int)))], h⟩) (fun j => 3 - j) 0 ⟨Nat.zero_le _, fun k h1 h2 => by omega⟩ (GStep.eq (by simp) (subH.refl _)) fun j hj => ?_
      obtain ⟨hj, heq⟩ := hj
      refine AW.seq fun _ k2 => ?_
      refine AW.seq fun _ k3 => AW.region [] Θ_ok ?_
      simp
      refine k3 _ ?_
      by_cases hlt : j < 3
      · obtain ⟨x, hxj⟩ : ∃ x, x = 2 - j := ⟨_, rfl⟩
        have hx3 : x < 3 := by omega
        have ej : 2 - (j : Int) = (x : Int) := by omega
        have w : IntKind.i64.wrap ((x : Int) - 1) = 2 - ((j + 1 : Nat) : Int) := by rw [wrap_id (by omega) (by omega)]; omega
        have hge : (0 : Int) ≤ (x : Int) := by omega
        have hx3' : (x : Int) < 3 := by omega
        have hj2 : (j : Int) ≤ 2 := by omega
        have dx := lM_drop t hx3
        have du := lM_drop u hx3
        rw [ej]
        refine AW.cond true (by simp [Int.natCast_inj, hge, hj2]) (fun _ => ?_) (fun h => by cases h)
        refine AW.skip ?_
        simp
        refine k2 _ ?_
        refine AW.seq fun _ k3 => ?_
        refine AW.block ?_
        refine AW.seq fun _ k5 => AW.draw [] 9 [] Θ_ok mixed (by kernel_rfl) (by kernel_rfl) ?_
        simp [vcDraw, vcPre, vcTail, callA, isAlloc, isLoad, effOp, obl, obA, mkOK, valA, dx, du, hx3, hx3']
        refine k5 _ ?_
        by_cases c1 : atM t x = atM u x
        · refine AW.cond false (by simp [Int.natCast_inj, c1]) (fun h => by cases h) (fun _ => ?_)
          refine AW.skip ?_
          simp
          refine k3 _ ?_
          refine AW.region [] Θ_ok ?_
          simp
          exact ⟨j + 1, ⟨by omega, fun k h1 h2 => by
            by_cases e : k = x
            · subst e; exact c1
            · exact heq k (by omega) h2⟩, by omega, GStep.eq (by simp [w]) (subH.refl _)⟩
        · have q1 := e1 x hx3 (fun k h1 h2 => heq k (by omega) h2) c1
          have q2 := e1' x hx3 (fun k h1 h2 => (heq k (by omega) h2).symm) (fun z => c1 z.symm)
          have ec : c = cmpI (atM t x) (atM u x) := by
            rw [hc, cmpM, cmpI, cmpI]
            by_cases z : atM t x < atM u x
            · rw [if_pos z, if_pos (by have := q1.2 z; omega)]
            · rw [if_neg z, if_neg (fun y => z (q1.1 (by omega)))]
              by_cases z2 : atM u x < atM t x
              · rw [if_pos z2, if_pos (by have := q2.2 z2; omega)]
              · rw [if_neg z2, if_neg (fun y => z2 (q2.1 (by omega)))]
          have s3 := cmp_Compare (atM t x) (atM u x)
          rw [← ec] at s3
          refine AW.cond true (by simp [Int.natCast_inj, c1]) (fun _ => ?_) (fun h => by cases h)
          refine AW.seq fun _ kr => AW.draw [] 10 [] Θ_ok mixed (by kernel_rfl) (by kernel_rfl) ?_
          refine vcDraw_split 8 fun B hB => ?_
          simp [vcPre, vcTail, callA, isAlloc, isLoad, effOp, obl, obA, mkOK, valA, dx, du, hx3, hx3']
          refine hB _ _ _ ?_
          clear hB B
          simp [vcPre, vcTail, callA, isAlloc, isLoad, effOp, obl, obA, mkOK, valA]
          refine ⟨_, s3.wk (by simp), ?_⟩
          try simp
          refine kr _ (AW.ret ?_)
          simp [Try.f86]
          exact Fin.refl ⟨rfl, rfl⟩
      have : j = 3 := by omega
      subst this
      have := e2 fun k hk => heq k (by omega) hk
      subst this
      have ec : c = 0 := by rw [hc, cmpM, cmpI, if_neg (by omega), if_neg (by omega)]
      refine AW.cond false (by simp [Int.natCast_inj]) (fun h => by cases h) (fun _ => ?_)
      refine AW.exit ?_
      simp
      refine k1 _ ?_
      refine AW.seq fun _ kr => AW.region [] Θ_ok ?_
      simp
      refine kr _ (AW.ret ?_)
      simp [Try.f86]
      exact Fin.refl ⟨by rw [ec], rfl⟩
end Go.Par
