import Derived.Test.YtdicfaplohdopaaFnI
import Derived.Test.YtdicfaplohdopaaFnJ
import Derived.Test.YtdicfaplohdopaaMaX
set_option linter.unusedSimpArgs false
set_option maxRecDepth 8000
namespace Go.Par
open Go.Proofs

theorem slices_Equal (a b : List Int) (hl : a.length ≤ 1152921504606846976) : Pure Try.prog 47 [.ro false (ints a), .ro false (ints b)] (.bool (decide (a = b))) := by
  intro h
  refine AC.body Θ_ok Try.func47 rfl rfl (Nat.le_of_ble_eq_true rfl) ?_
  refine AW.seq fun _ k1 => AW.region [] Θ_ok ?_
  simp
  refine k1 _ ?_
  refine AW.seq fun _ k1 => ?_
  refine AW.seq fun _ k2 => AW.region [] Θ_ok ?_
  simp
  refine k2 _ ?_
  by_cases he : a.length = b.length
  · refine AW.cond false (by simp [Int.natCast_inj, he]) (fun h => by cases h) (fun _ => ?_)
    refine AW.skip ?_
    simp
    refine k1 _ ?_
    refine AW.seq fun _ k1 => ?_
    refine AW.seq fun _ k2 => AW.region [] Θ_ok ?_
    simp
    refine k2 _ ?_
    refine AW.block ?_
    refine AW.loopI (X := Nat) (fun x => x ≤ a.length ∧ ∀ i, i < x → a[i]? = b[i]?) (fun x => ⟨26, [(13, .int .i64 x), (12, .int .i64 a.length), (0, .ro false (ints a)), (1, .ro false (ints b))], h⟩) (fun x => a.length - x) 0 ⟨Nat.zero_le _, fun i hi => by omega⟩ (GStep.eq (by simp) (subH.refl _)) ?_
    rintro x ⟨hx, hok⟩
    refine AW.seq fun _ k2 => AW.region [] Θ_ok ?_
    simp
    refine k2 _ ?_
    by_cases hlt : x < a.length
    · have hlt' : x < b.length := by omega
      refine AW.seq fun _ k2 => AW.cond true (by simp [Int.natCast_inj, hlt]) (fun _ => ?_) (fun h => by cases h)
      refine AW.skip ?_
      simp
      refine k2 _ ?_
      refine AW.seq fun _ k2 => ?_
      refine AW.block ?_
      refine AW.seq fun _ k3 => AW.region [] Θ_ok ?_
      simp
      refine k3 _ ?_
      refine AW.seq fun _ k3 => AW.draw [] 9 [] Θ_ok mixed (by kernel_rfl) (by kernel_rfl) ?_
      simp [vcDraw, vcPre, vcTail, callA, isAlloc, isLoad, effOp, obl, obA, mkOK, valA, hlt, hlt']
      refine k3 _ ?_
      by_cases hab : a[x] = b[x]
      · refine AW.cond false (by simp [Int.natCast_inj, hab]) (fun h => by cases h) (fun _ => ?_)
        refine AW.skip ?_
        simp
        refine k2 _ ?_
        refine AW.region [] Θ_ok ?_
        simp
        refine ⟨x + 1, ⟨by omega, fun i hi => ?_⟩, by omega, GStep.eq ?_ (subH.refl _)⟩
        · by_cases e : i = x
          · subst e; simp [hlt, hlt', hab]
          · exact hok i (by omega)
        · simp [wrap_succ (show x < 9223372036854775807 by omega)]
      · refine AW.cond true (by simp [Int.natCast_inj, hab]) (fun _ => ?_) (fun h => by cases h)
        refine AW.seq fun _ kr => AW.region [] Θ_ok ?_
        simp
        refine kr _ (AW.ret ?_)
        simp [Try.f47]
        refine Fin.refl ⟨?_, rfl⟩
        have : ¬ a = b := by rintro rfl; exact hab rfl
        simp [this]
    · obtain rfl : x = a.length := by omega
      refine AW.seq fun _ k2 => AW.cond false (by simp [Int.natCast_inj]) (fun h => by cases h) (fun _ => ?_)
      refine AW.exit ?_
      simp
      refine k1 _ ?_
      refine AW.seq fun _ kr => AW.region [] Θ_ok ?_
      simp
      refine kr _ (AW.ret ?_)
      simp [Try.f47]
      refine Fin.refl ⟨?_, rfl⟩
      have : a = b := List.ext_getElem? fun i => by
        by_cases hi : i < a.length
        · exact hok i hi
        · rw [List.getElem?_eq_none (by omega), List.getElem?_eq_none (by omega)]
      simp [this]
  · refine AW.cond true (by simp [Int.natCast_inj, he]) (fun _ => ?_) (fun h => by cases h)
    refine AW.seq fun _ kr => AW.region [] Θ_ok ?_
    simp
    refine kr _ (AW.ret ?_)
    simp [Try.f47]
    refine Fin.refl ⟨?_, rfl⟩
    have : ¬ a = b := by rintro rfl; exact he rfl
    simp [this]

theorem slices_EqualFunc (a b : List (List Int)) (hl : a.length ≤ 1152921504606846976) (hr : ∀ l ∈ a, l.length ≤ 1152921504606846976) : Pure Try.prog 48 [.ro false (rows a), .ro false (rows b), .clo 47 []] (.bool (decide (a = b))) := by
  intro h
  refine AC.body Θ_ok Try.func48 rfl rfl (Nat.le_of_ble_eq_true rfl) ?_
  refine AW.seq fun _ k1 => AW.region [] Θ_ok ?_
  simp
  refine k1 _ ?_
  refine AW.seq fun _ k1 => ?_
  refine AW.seq fun _ k2 => AW.region [] Θ_ok ?_
  simp
  refine k2 _ ?_
  by_cases he : a.length = b.length
  · refine AW.cond false (by simp [Int.natCast_inj, he]) (fun h => by cases h) (fun _ => ?_)
    refine AW.skip ?_
    simp
    refine k1 _ ?_
    refine AW.seq fun _ k1 => ?_
    refine AW.seq fun _ k2 => AW.region [] Θ_ok ?_
    simp
    refine k2 _ ?_
    refine AW.block ?_
    refine AW.loopI (X := Nat) (fun x => x ≤ a.length ∧ ∀ i, i < x → a[i]? = b[i]?) (fun x => ⟨32, [(17, .int .i64 x), (16, .int .i64 a.length), (15, .ro false (rows a)), (1, .ro false (rows b)), (2, .clo 47 [])], h⟩) (fun x => a.length - x) 0 ⟨Nat.zero_le _, fun i hi => by omega⟩ (GStep.eq (by simp) (subH.refl _)) ?_
    rintro x ⟨hx, hok⟩
    refine AW.seq fun _ k2 => AW.region [] Θ_ok ?_
    simp
    refine k2 _ ?_
    by_cases hlt : x < a.length
    · have hlt' : x < b.length := by omega
      refine AW.seq fun _ k2 => AW.cond true (by simp [Int.natCast_inj, hlt]) (fun _ => ?_) (fun h => by cases h)
      refine AW.skip ?_
      simp
      refine k2 _ ?_
      refine AW.seq fun _ k2 => ?_
      refine AW.block ?_
      refine AW.seq fun _ k3 => AW.region [] Θ_ok ?_
      simp [hlt]
      refine k3 _ ?_
      refine AW.seq fun _ k3 => AW.region [] Θ_ok ?_
      simp [hlt']
      refine k3 _ ?_
      refine AW.seq fun _ k3 => AW.region [] Θ_ok ?_
      simp
      refine (slices_Equal a[x] b[x] (hr _ (List.getElem_mem _))).use (by simp) ?_
      try simp
      refine k3 _ ?_
      by_cases hab : a[x] = b[x]
      · refine AW.cond false (by simp [Int.natCast_inj, hab]) (fun h => by cases h) (fun _ => ?_)
        refine AW.skip ?_
        simp
        refine k2 _ ?_
        refine AW.region [] Θ_ok ?_
        simp
        refine ⟨x + 1, ⟨by omega, fun i hi => ?_⟩, by omega, GStep.eq ?_ (subH.refl _)⟩
        · by_cases e : i = x
          · subst e; simp [hlt, hlt', hab]
          · exact hok i (by omega)
        · simp [wrap_succ (show x < 9223372036854775807 by omega)]
      · refine AW.cond true (by simp [Int.natCast_inj, hab]) (fun _ => ?_) (fun h => by cases h)
        refine AW.seq fun _ kr => AW.region [] Θ_ok ?_
        simp
        refine kr _ (AW.ret ?_)
        simp [Try.f48]
        refine Fin.refl ⟨?_, rfl⟩
        have : ¬ a = b := by rintro rfl; exact hab rfl
        simp [this]
    · obtain rfl : x = a.length := by omega
      refine AW.seq fun _ k2 => AW.cond false (by simp [Int.natCast_inj]) (fun h => by cases h) (fun _ => ?_)
      refine AW.exit ?_
      simp
      refine k1 _ ?_
      refine AW.seq fun _ kr => AW.region [] Θ_ok ?_
      simp
      refine kr _ (AW.ret ?_)
      simp [Try.f48]
      refine Fin.refl ⟨?_, rfl⟩
      have : a = b := List.ext_getElem? fun i => by
        by_cases hi : i < a.length
        · exact hok i hi
        · rw [List.getElem?_eq_none (by omega), List.getElem?_eq_none (by omega)]
      simp [this]
  · refine AW.cond true (by simp [Int.natCast_inj, he]) (fun _ => ?_) (fun h => by cases h)
    refine AW.seq fun _ kr => AW.region [] Θ_ok ?_
    simp
    refine kr _ (AW.ret ?_)
    simp [Try.f48]
    refine Fin.refl ⟨?_, rfl⟩
    have : ¬ a = b := by rintro rfl; exact he rfl
    simp [this]



theorem graph_Same (a b : G) (ha : a.fits) : Pure Try.prog 29 [a.av, b.av] (.bool (decide (a.owner = b.owner) && decide (a.next = b.next))) := by
  have h1 := ha.owner
  have h2 := ha.next
  intro h
  refine AC.body Θ_ok Try.func29 rfl rfl (Nat.le_of_ble_eq_true rfl) ?_
  refine AW.seq fun _ k1 => AW.region [] Θ_ok ?_
  simp
  refine k1 _ ?_
  refine AW.seq fun _ kr => AW.regionAt 5 [] Θ_ok fun B hB => ?_
  simp [G.av]
  refine (slices_Equal a.owner b.owner (by omega)).use (by simp) ?_
  by_cases e : a.owner = b.owner
  · refine hB _ ?_
    clear hB B
    refine vcOps_split 6 fun B hB => ?_
    simp [e]
    refine (slices_EqualFunc a.next b.next (by omega) (fun l hl => by have := ha.row l hl; omega)).use (by simp) ?_
    refine hB _ ?_
    clear hB B
    simp
    refine kr _ (AW.ret ?_)
    simp [Try.f29]
    exact Fin.refl ⟨by simp [e], rfl⟩
  · refine hB _ ?_
    clear hB B
    simp [e]
    refine kr _ (AW.ret ?_)
    simp [Try.f29]
    exact Fin.refl ⟨by simp [e], rfl⟩

theorem slices_Clone (l : List Int) (hl : l.length ≤ 17592186044416) : Pure Try.prog 50 [.ro false (ints l)] (.ro false (ints l)) := by
  intro h
  refine AC.nilCases (us1 := []) (us2 := []) (fun e => ?_) ?_
  · have el : l = [] := by simpa using e
    subst el
    refine AC.body Θ_ok Try.func50 rfl rfl (Nat.le_of_ble_eq_true rfl) ?_
    refine AW.seq fun _ k1 => AW.region [] Θ_ok ?_
    simp
    refine k1 _ ?_
    refine AW.seq fun _ k1 => ?_
    refine AW.seq fun _ k2 => AW.region [] Θ_ok ?_
    simp
    refine k2 _ ?_
    refine AW.cond true (by simp [Int.natCast_inj]) (fun _ => ?_) (fun h => by cases h)
    refine AW.seq fun _ kr => AW.region [] Θ_ok ?_
    simp
    refine kr _ (AW.ret ?_)
    simp [Try.f50]
    refine ⟨_, h, fun φ w x H V => ⟨φ, Ext.refl φ, H, V.wk (u' := .ro false []) (by simp), fun _ q => q⟩, rfl, rfl⟩
  · refine AC.body Θ_ok Try.func50 rfl rfl (Nat.le_of_ble_eq_true rfl) ?_
    refine AW.seq fun _ k1 => AW.region [] Θ_ok ?_
    simp
    refine k1 _ ?_
    refine AW.seq fun _ k1 => ?_
    refine AW.seq fun _ k2 => AW.region [] Θ_ok ?_
    simp
    refine k2 _ ?_
    refine AW.cond false (by simp [Int.natCast_inj]) (fun h => by cases h) (fun _ => ?_)
    refine AW.skip ?_
    simp
    refine k1 _ ?_
    refine AW.seq fun _ kr => AW.region [5] Θ_ok ?_
    simp [upd_same, appendA]
    refine fun b hb => ⟨rfl, ⟨by omega, by omega⟩, fun n' hn' => kr _ (AW.ret ?_)⟩
    obtain ⟨hnb, hn0⟩ := ne_of_none hn' (by simp)
    simp [Try.f50]
    have hfl := flat_ints l
    refine Fin.freeze (k := false) (upd_same _ _ _) (fun e => by cases e) rfl (by rw [hfl]; simp) (fun u hu => ?_) h (fun o x hx => ?_) ⟨by rw [hfl], rfl⟩
    · simp only at hu
      rw [hfl] at hu
      obtain ⟨_, _, rfl⟩ := List.mem_map.1 hu
      rfl
    · have h1 : o ≠ b := by rintro rfl; rw [hb] at hx; cases hx
      have h2 : o ≠ n' := by rintro rfl; rw [hn0] at hx; cases hx
      simp [upd_at, h1, h2, hx]
end Go.Par
