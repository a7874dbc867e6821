import Derived.Test.YtdicfaplohdopaaFnK
import Derived.Test.YtdicfaplohdopaaPlD
set_option linter.unusedSimpArgs false
set_option maxRecDepth 8000
namespace Go.Par
open Go.Proofs

def modN (p : Int) (n : Nat) : Int := IntKind.i64.wrap ((IntKind.u64.wrap p).tmod n)
theorem wrap_u64_nat {n : Nat} (h : n < 9223372036854775808) : IntKind.u64.wrap (n : Int) = n := by
  rw [IntKind.wrap_u64]; omega
theorem modN_nat (p : Int) {n : Nat} (h0 : 0 < n) (h : n < 9223372036854775808) : ∃ u : Nat, u < n ∧ modN p n = u := by
  have h1 : 0 ≤ IntKind.u64.wrap p := by rw [IntKind.wrap_u64]; omega
  have h2 : (IntKind.u64.wrap p).tmod n = (IntKind.u64.wrap p) % n := Int.tmod_eq_emod_of_nonneg h1
  have h3 := Int.emod_nonneg (IntKind.u64.wrap p) (show (n : Int) ≠ 0 by omega)
  have h4 := Int.emod_lt_of_pos (IntKind.u64.wrap p) (show (0 : Int) < n by omega)
  refine ⟨((IntKind.u64.wrap p) % n).toNat, by omega, ?_⟩
  rw [modN, h2, IntKind.wrap_i64]
  omega

theorem bools_one (n u : Nat) : (tab n fun _ => AV.bool false).set u (.bool true) = bools (oneL n u) := by
  rw [set_tab]; simp only [bools, oneL, map_tab]
  exact tab_congr fun i _ => by by_cases e : i = u <;> simp [e]

theorem law_GraphTurned (g : G) (hg : g.wide) (p : Int) (_ : DK.fits .int p) (q : Int) (_ : DK.fits .int q) : Pure Try.prog 7 [g.av, .int .i64 p, .int .i64 q] (.bool true) := by
  have hf := hg.f
  intro h
  refine AC.body Θ_ok Try.func7 rfl rfl (Nat.le_of_ble_eq_true rfl) ?_
  refine AW.seq fun _ k1 => AW.region [] Θ_ok ?_
  simp
  refine k1 _ ?_
  refine AW.seq fun _ k1 => ?_
  by_cases hall : ¬ 0 < heavyE g ∧ mayE g = 0 ∧ ¬ (g.owner.length : Int) = 0
  · obtain ⟨h1, hm, h0⟩ := hall
    have hn := (may_ok hm).2.1
    have hn3 := (may_ok hm).1
    refine AW.seq fun _ k2 => AW.regionAt 2 [] Θ_ok fun B hB => ?_
    simp
    refine (l9_Heavy g hf).use (by simp [G.av]) ?_
    refine hB _ ?_
    clear hB B
    refine vcOps_split 4 fun B hB => ?_
    simp [h1, Int.not_lt.1 h1]
    refine (r9_May g hf).use (by simp [G.av]) ?_
    have h0' : ¬ g.owner = [] := fun e => h0 (by rw [e]; rfl)
    refine hB _ ?_
    clear hB B
    simp [hm, h0, h0']
    refine k2 _ ?_
    refine AW.cond false (by simp [Int.natCast_inj, h0']) (fun h => by cases h) (fun _ => ?_)
    refine AW.skip ?_
    simp
    refine k1 _ ?_
    refine AW.seq fun _ k1 => AW.region [] Θ_ok ?_
    simp
    refine k1 _ ?_
    have hu := wrap_u64_nat (show g.owner.length < 9223372036854775808 by omega)
    obtain ⟨u, hul, hu1⟩ := modN_nat p (show 0 < g.owner.length by omega) (by omega)
    obtain ⟨v, hvl, hv1⟩ := modN_nat q (show 0 < g.owner.length by omega) (by omega)
    unfold modN at hu1 hv1
    refine AW.seq fun _ k1 => AW.draw [] 14 [] Θ_ok mixed (by kernel_rfl) (by kernel_rfl) ?_
    simp [vcDraw, vcPre, vcTail, callA, isAlloc, isLoad, effOp, obl, obA, mkOK, valA, hu, hu1, hv1, h0, h0']
    refine k1 _ ?_
    have hmt := turned_may hm
    have hft : (turned g).fits := by
      refine ⟨hf.owner, by simp [turned, befL]; omega, fun l hl => ?_⟩
      obtain ⟨w, _, rfl⟩ := mem_tab.1 hl
      have := List.length_filter_le (fun v => (g.next.getD v []).contains (w : Int)) (List.range g.next.length)
      simp only [bef, List.length_map]
      simp only [List.length_range] at this
      omega
    have fB := graph_Before g hf
    have fBB := graph_Before (turned g) hft
    have fM := graph_May (turned g) hft
    have fX := graph_Reach g hf (oneL g.owner.length u)
    have fY := graph_Reach (turned g) hft (oneL g.owner.length v)
    rw [befA, if_pos hm] at fB
    rw [befA, if_pos hmt, turned_bef hm] at fBB
    rw [hmt] at fM
    rw [reachA, if_pos hm] at fX
    rw [reachA, if_pos hmt] at fY
    have hav : (turned g).av = .agg [.ro false (ints g.owner), .ro false (rows (befL g))] := rfl
    rw [hav] at fBB fM fY
    have eX : (reachL g (oneL g.owner.length u)).length = g.owner.length := reachL_len _ _
    have eY : (reachL (turned g) (oneL g.owner.length v)).length = g.owner.length := reachL_len _ _
    have xu : ∀ h, (reachL g (oneL g.owner.length u))[u]'h = true := by
      intro h; rw [reachL_get]; simpa using reaches_self hul
    have xy : ∀ h h', (reachL (turned g) (oneL g.owner.length v))[u]'h' = (reachL g (oneL g.owner.length u))[v]'h := by
      intro h h'
      rw [reachL_get, reachL_get]
      exact decide_eq_decide.2 (reaches_turned hm).symm
    generalize reachL g (oneL g.owner.length u) = X at fX eX xu xy
    generalize reachL (turned g) (oneL g.owner.length v) = Y at fY eY xy
    refine AW.seq fun _ k1 => AW.draw [8] 6 [] Θ_ok mixed (by kernel_rfl) (by kernel_rfl) ?_
    simp [vcDraw, vcPre, vcTail, callA, isAlloc, isLoad, effOp, obl, obA, mkOK, valA]
    refine ⟨_, fB.wk (by simp [G.av]), ?_⟩
    simp
    refine fun o ho => k1 _ ?_
    refine AW.box 8 rfl (upd_same _ _ _) ?_
    simp only [upd_upd_none ho]
    refine AW.seq fun _ k1 => ?_
    refine AW.seq fun _ k2 => AW.draw [] 11 [] Θ_ok mixed (by kernel_rfl) (by kernel_rfl) ?_
    simp [vcDraw, vcPre, vcTail, callA, isAlloc, isLoad, effOp, obl, obA, mkOK, valA]
    refine ⟨_, fM.wk (by simp), ?_⟩
    try simp
    refine ⟨_, fBB.wk (by simp), ?_⟩
    try simp
    refine ⟨_, (r9_SameNext g.next g.next (by omega) (fun l hl => by have := hf.row l hl; omega)).wk (by simp), ?_⟩
    try simp
    refine k2 _ ?_
    refine AW.cond false (by simp [Int.natCast_inj]) (fun h => by cases h) (fun _ => ?_)
    refine AW.skip ?_
    simp
    refine k1 _ ?_
    refine AW.seq fun _ k1 => AW.draw [60, 62] 6 [] Θ_ok mixed (by kernel_rfl) (by kernel_rfl) ?_
    simp [vcDraw, vcPre, vcTail, callA, isAlloc, isLoad, effOp, obl, obA, mkOK, valA]
    rw [replicate_tab, flat_tab (fun _ _ => rfl)]
    refine ⟨by omega, fun a ha => ⟨by omega, fun b hb => k1 _ ?_⟩⟩
    obtain ⟨hba, hb0⟩ := ne_of_none hb (by simp)
    refine AW.seq fun _ k1 => AW.region [] Θ_ok ?_
    simp [upd_at, hba, Ne.symm hba, hul, hvl]
    refine ⟨by omega, by omega, k1 _ ?_⟩
    rw [bools_one, bools_one]
    refine AW.freeze 9 (x := ⟨bools (oneL g.owner.length u), 4, 1, true⟩) true rfl (by simp [upd_at, Ne.symm hba]) (fun _ => rfl) rfl (by simp [oneL]) (by intro w hw; obtain ⟨_, _, rfl⟩ := List.mem_map.1 hw; rfl) ?_
    refine AW.freeze 10 (x := ⟨bools (oneL g.owner.length v), 4, 1, true⟩) true rfl (by simp [upd_at, hba]) (fun _ => rfl) rfl (by simp [oneL]) (by intro w hw; obtain ⟨_, _, rfl⟩ := List.mem_map.1 hw; rfl) ?_
    have hh : ∀ A B C D, upd (upd (upd (upd (upd (upd h a A) b B) a C) b D) a none) b none = h := by
      intro A B C D
      funext z
      simp only [upd_at]
      by_cases e1 : z = b
      · subst e1; simp [hb0]
      · by_cases e2 : z = a
        · subst e2; simp [ha]
        · simp [e1, e2]
    simp only [hh]
    refine AW.seq fun _ k1 => AW.draw [] 8 [] Θ_ok mixed (by kernel_rfl) (by kernel_rfl) ?_
    simp [vcDraw, vcPre, vcTail, callA, isAlloc, isLoad, effOp, obl, obA, mkOK, valA]
    refine ⟨_, fX.wk (by simp [G.av]), ?_⟩
    try simp
    refine ⟨_, fY.wk (by simp), ?_⟩
    try simp
    refine k1 _ ?_
    refine AW.seq fun _ kr => AW.draw [] 30 [] Θ_ok mixed (by kernel_rfl) (by kernel_rfl) ?_
    simp [vcDraw, vcPre, vcTail, callA, isAlloc, isLoad, effOp, obl, obA, mkOK, valA, eX, eY, xu, xy, hul, hvl]
    refine ⟨_, l9_awake, ?_⟩
    try simp
    refine kr _ (AW.ret ?_)
    simp [Try.f7]
    exact Fin.refl ⟨rfl, rfl⟩
  · have hb : 0 < heavyE g ∨ ¬ 0 < heavyE g ∧ ¬ mayE g = 0 ∨ ¬ 0 < heavyE g ∧ mayE g = 0 ∧ (g.owner.length : Int) = 0 := by
      by_cases a1 : 0 < heavyE g
      · exact .inl a1
      · by_cases a2 : mayE g = 0
        · by_cases a3 : (g.owner.length : Int) = 0
          · exact .inr (.inr ⟨a1, a2, a3⟩)
          · exact absurd ⟨a1, a2, a3⟩ hall
        · exact .inr (.inl ⟨a1, a2⟩)
    rcases hb with h1 | ⟨h1, h2⟩ | ⟨h1, h2, h3⟩
    · refine AW.seq fun _ k2 => AW.regionAt 2 [] Θ_ok fun B hB => ?_
      simp
      refine (l9_Heavy g hf).use (by simp [G.av]) ?_
      refine hB _ ?_
      clear hB B
      simp [h1]
      refine k2 _ ?_
      refine AW.cond true (by simp [Int.natCast_inj]) (fun _ => ?_) (fun h => by cases h)
      refine AW.seq fun _ kr => AW.region [] Θ_ok ?_
      simp
      refine (l9_awake).use (by simp [G.av]) ?_
      try simp
      refine kr _ (AW.ret ?_)
      simp [Try.f7]
      exact Fin.refl ⟨rfl, rfl⟩
    · refine AW.seq fun _ k2 => AW.regionAt 2 [] Θ_ok fun B hB => ?_
      simp
      refine (l9_Heavy g hf).use (by simp [G.av]) ?_
      refine hB _ ?_
      clear hB B
      refine vcOps_split 4 fun B hB => ?_
      simp [h1, Int.not_lt.1 h1]
      refine (r9_May g hf).use (by simp [G.av]) ?_
      refine hB _ ?_
      clear hB B
      simp [h2]
      refine k2 _ ?_
      refine AW.cond true (by simp [Int.natCast_inj]) (fun _ => ?_) (fun h => by cases h)
      refine AW.seq fun _ kr => AW.region [] Θ_ok ?_
      simp
      refine (l9_awake).use (by simp [G.av]) ?_
      try simp
      refine kr _ (AW.ret ?_)
      simp [Try.f7]
      exact Fin.refl ⟨rfl, rfl⟩
    · refine AW.seq fun _ k2 => AW.regionAt 2 [] Θ_ok fun B hB => ?_
      simp
      refine (l9_Heavy g hf).use (by simp [G.av]) ?_
      refine hB _ ?_
      clear hB B
      refine vcOps_split 4 fun B hB => ?_
      simp [h1, Int.not_lt.1 h1]
      refine (r9_May g hf).use (by simp [G.av]) ?_
      have h3' : g.owner = [] := by simpa using h3
      refine hB _ ?_
      clear hB B
      simp [h2, h3']
      refine k2 _ ?_
      refine AW.cond true (by simp [Int.natCast_inj]) (fun _ => ?_) (fun h => by cases h)
      refine AW.seq fun _ kr => AW.region [] Θ_ok ?_
      simp
      refine (l9_awake).use (by simp [G.av]) ?_
      try simp
      refine kr _ (AW.ret ?_)
      simp [Try.f7]
      exact Fin.refl ⟨rfl, rfl⟩
end Go.Par
