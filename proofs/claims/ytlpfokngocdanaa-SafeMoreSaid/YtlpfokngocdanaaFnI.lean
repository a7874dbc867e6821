import Derived.Test.YtlpfokngocdanaaFnE
set_option linter.unusedSimpArgs false
set_option maxRecDepth 8000
namespace Go.Par
open Go.Proofs

def deadP (g : G) (who : Int) (v : Nat) : Bool := g.owner.getD v 0 == who && (g.next.getD v []).length == 0
def deadA (g : G) (who : Int) : AV := if mayE g = 0 then .ro true (bools (tab g.owner.length (deadP g who))) else .nils

theorem graph_Dead (g : G) (hf : g.fits) (who : Int) : Pure Try.prog 26 [g.av, .int .i64 who] (deadA g who) := by
  intro h
  refine AC.body Θ_ok Try.func26 rfl rfl (Nat.le_of_ble_eq_true rfl) ?_
  refine AW.seq fun _ k1 => AW.region [] Θ_ok ?_
  simp
  refine k1 _ ?_
  refine AW.seq fun _ k1 => ?_
  by_cases hm : mayE g = 0
  · have hn := (may_ok hm).2.1
    have h3 := (may_ok hm).1
    refine AW.seq fun _ k2 => AW.region [] Θ_ok ?_
    simp
    refine (graph_May g hf).use (by simp [G.av]) ?_
    try simp [hm]
    refine k2 _ ?_
    refine AW.cond false (by simp [Int.natCast_inj]) (fun h => by cases h) (fun _ => ?_)
    refine AW.skip ?_
    simp
    refine k1 _ ?_
    refine AW.seq fun _ k1 => AW.region [14] Θ_ok ?_
    simp
    refine ⟨by omega, fun o ho => k1 _ ?_⟩
    rw [replicate_tab, flat_tab (fun _ _ => rfl)]
    refine AW.seq fun _ k1 => ?_
    refine AW.seq fun _ k2 => AW.region [] Θ_ok ?_
    simp
    refine k2 _ ?_
    refine AW.block ?_
    refine AW.loopI (X := Nat) (fun x => x ≤ g.owner.length) (fun x => ⟨40, [(18, .int .i64 x), (17, .int .i64 g.owner.length), (16, .ro false (ints g.owner)), (5, .mu o g.owner.length), (1, .int .i64 who), (2, .rop [.ro false (ints g.owner), .ro false (rows g.next)])],
      upd h o (some ⟨tab g.owner.length fun i => .bool (decide (i < x) && deadP g who i), 4, 1, true⟩)⟩) (fun x => g.owner.length - x) 0 (Nat.zero_le _) (GStep.eq (by simp) ?_) fun x hx => ?_
    · simp; exact fun _ _ q => q
    refine AW.seq fun _ k2 => AW.region [] Θ_ok ?_
    simp
    refine k2 _ ?_
    by_cases hlt : x < g.owner.length
    · have hv' : x < g.next.length := by omega
      have inc := wrap_succ (show x < 9223372036854775807 by omega)
      have hD : deadP g who x = (g.owner[x] == who && g.next[x].length == 0) := by simp [deadP, hlt, hv']
      have hset : (tab g.owner.length fun i => AV.bool (decide (i < x) && deadP g who i)).set x (.bool (deadP g who x)) = tab g.owner.length fun i => .bool (decide (i < x + 1) && deadP g who i) := by
        rw [set_tab]
        refine tab_congr fun i hi => ?_
        by_cases e : i = x
        · simp [e]
        · by_cases h1 : i < x
          · simp [e, h1, show i < x + 1 by omega]
          · simp [e, h1, show ¬ i < x + 1 by omega]
      refine AW.seq fun _ k2 => AW.cond true (by simp [Int.natCast_inj, hlt]) (fun _ => ?_) (fun h => by cases h)
      refine AW.skip ?_
      simp
      refine k2 _ ?_
      refine AW.seq fun _ k2 => ?_
      refine AW.block ?_
      refine AW.seq fun _ k3 => AW.region [] Θ_ok ?_
      simp [hlt]
      refine k3 _ ?_
      by_cases how : g.owner[x] = who
      · have hD2 : deadP g who x = ((g.next[x].length : Int) == 0) := by
          rw [hD]; simp only [how, beq_self_eq_true, Bool.true_and]
          rw [Bool.eq_iff_iff]; simp
        rw [hD2] at hset
        refine AW.region [] Θ_ok ?_
        simp [hlt, hv', how]
        refine ⟨by omega, k2 _ ?_⟩
        refine AW.region [] Θ_ok ?_
        simp
        exact ⟨x + 1, by omega, by omega, GStep.eq (by simp [inc]) (subH_of_eq (congrArg (fun c => upd h o (some ⟨c, 4, 1, true⟩)) hset))⟩
      · have hD2 : deadP g who x = false := by rw [hD]; simp [how]
        rw [hD2] at hset
        refine AW.region [] Θ_ok ?_
        simp [hlt, hv', how]
        refine ⟨by omega, k2 _ ?_⟩
        refine AW.region [] Θ_ok ?_
        simp
        exact ⟨x + 1, by omega, by omega, GStep.eq (by simp [inc]) (subH_of_eq (congrArg (fun c => upd h o (some ⟨c, 4, 1, true⟩)) hset))⟩
    · obtain rfl : x = g.owner.length := by omega
      refine AW.seq fun _ k2 => AW.cond false (by simp [Int.natCast_inj]) (fun h => by cases h) (fun _ => ?_)
      refine AW.exit ?_
      simp
      refine k1 _ ?_
      refine AW.seq fun _ kr => AW.region [] Θ_ok ?_
      simp
      refine kr _ (AW.ret ?_)
      simp [Try.f26]
      refine Fin.freeze (k := true) (upd_same _ _ _) (fun _ => rfl) rfl (by simp) (fun u hu => ?_) h (by simp [upd_none_id ho]; exact fun _ _ q => q) ⟨?_, rfl⟩
      · simp only [mem_tab] at hu
        obtain ⟨i, _, rfl⟩ := hu
        rfl
      · simp only [deadA, if_pos hm, bools, map_tab]
        congr 1
        exact tab_congr fun i hi => by simp [hi]
  · refine AW.seq fun _ k2 => AW.region [] Θ_ok ?_
    simp
    refine (graph_May g hf).use (by simp [G.av]) ?_
    try simp [hm]
    refine k2 _ ?_
    refine AW.cond true (by simp [Int.natCast_inj, hm]) (fun _ => ?_) (fun h => by cases h)
    refine AW.seq fun _ kr => AW.region [] Θ_ok ?_
    simp
    refine kr _ (AW.ret ?_)
    simp [Try.f26]
    exact Fin.refl ⟨by simp [deadA, hm], rfl⟩
theorem r9_SameInts (a b : List Int) (hl : a.length ≤ 1152921504606846976) : Pure Try.prog 20 [.ro false (ints a), .ro false (ints b)] (.bool (decide (a = b))) := by
  intro h
  refine AC.body Θ_ok Try.func20 rfl rfl (Nat.le_of_ble_eq_true rfl) ?_
  refine AW.seq fun _ k1 => AW.region [] Θ_ok ?_
  simp
  refine k1 _ ?_
  refine AW.seq fun _ k1 => ?_
  refine AW.seq fun _ k2 => AW.region [] Θ_ok ?_
  simp
  refine k2 _ ?_
  by_cases he : a.length = b.length
  · refine AW.cond false (by simp [Int.natCast_inj, he]) (fun h => by cases h) (fun _ => ?_)
    refine AW.skip ?_
    simp
    refine k1 _ ?_
    refine AW.seq fun _ k1 => ?_
    refine AW.seq fun _ k2 => AW.region [] Θ_ok ?_
    simp
    refine k2 _ ?_
    refine AW.block ?_
    refine AW.loopI (X := Nat) (fun x => x ≤ a.length ∧ ∀ i, i < x → a[i]? = b[i]?) (fun x => ⟨26, [(13, .int .i64 x), (12, .int .i64 a.length), (0, .ro false (ints a)), (1, .ro false (ints b))], h⟩) (fun x => a.length - x) 0 ⟨Nat.zero_le _, fun i hi => by omega⟩ (GStep.eq (by simp) (subH.refl _)) ?_
    rintro x ⟨hx, hok⟩
    refine AW.seq fun _ k2 => AW.region [] Θ_ok ?_
    simp
    refine k2 _ ?_
    by_cases hlt : x < a.length
    · have hlt' : x < b.length := by omega
      refine AW.seq fun _ k2 => AW.cond true (by simp [Int.natCast_inj, hlt]) (fun _ => ?_) (fun h => by cases h)
      refine AW.skip ?_
      simp
      refine k2 _ ?_
      refine AW.seq fun _ k2 => ?_
      refine AW.block ?_
      refine AW.seq fun _ k3 => AW.region [] Θ_ok ?_
      simp
      refine k3 _ ?_
      refine AW.seq fun _ k3 => AW.draw [] 9 [] Θ_ok mixed (by kernel_rfl) (by kernel_rfl) ?_
      simp [vcDraw, vcPre, vcTail, callA, isAlloc, isLoad, effOp, obl, obA, mkOK, valA, hlt, hlt']
      refine k3 _ ?_
      by_cases hab : a[x] = b[x]
      · refine AW.cond false (by simp [Int.natCast_inj, hab]) (fun h => by cases h) (fun _ => ?_)
        refine AW.skip ?_
        simp
        refine k2 _ ?_
        refine AW.region [] Θ_ok ?_
        simp
        refine ⟨x + 1, ⟨by omega, fun i hi => ?_⟩, by omega, GStep.eq ?_ (subH.refl _)⟩
        · by_cases e : i = x
          · subst e; simp [hlt, hlt', hab]
          · exact hok i (by omega)
        · simp [wrap_succ (show x < 9223372036854775807 by omega)]
      · refine AW.cond true (by simp [Int.natCast_inj, hab]) (fun _ => ?_) (fun h => by cases h)
        refine AW.seq fun _ kr => AW.region [] Θ_ok ?_
        simp
        refine kr _ (AW.ret ?_)
        simp [Try.f20]
        refine Fin.refl ⟨?_, rfl⟩
        have : ¬ a = b := by rintro rfl; exact hab rfl
        simp [this]
    · obtain rfl : x = a.length := by omega
      refine AW.seq fun _ k2 => AW.cond false (by simp [Int.natCast_inj]) (fun h => by cases h) (fun _ => ?_)
      refine AW.exit ?_
      simp
      refine k1 _ ?_
      refine AW.seq fun _ kr => AW.region [] Θ_ok ?_
      simp
      refine kr _ (AW.ret ?_)
      simp [Try.f20]
      refine Fin.refl ⟨?_, rfl⟩
      have : a = b := List.ext_getElem? fun i => by
        by_cases hi : i < a.length
        · exact hok i hi
        · rw [List.getElem?_eq_none (by omega), List.getElem?_eq_none (by omega)]
      simp [this]
  · refine AW.cond true (by simp [Int.natCast_inj, he]) (fun _ => ?_) (fun h => by cases h)
    refine AW.seq fun _ kr => AW.region [] Θ_ok ?_
    simp
    refine kr _ (AW.ret ?_)
    simp [Try.f20]
    refine Fin.refl ⟨?_, rfl⟩
    have : ¬ a = b := by rintro rfl; exact he rfl
    simp [this]

end Go.Par
