import Derived.Test.YtlpfokngocdanaaFnB
set_option linter.unusedSimpArgs false
set_option maxRecDepth 8000
namespace Go.Par
open Go.Proofs

theorem r9_Has (in_ : List Bool) (v : Int) : Pure Try.prog 18 [.ro false (bools in_), .int .i64 v] (.bool (decide (0 ≤ v) && hasI in_ v)) := by
  intro h
  refine AC.body Θ_ok Try.func18 rfl rfl (Nat.le_of_ble_eq_true rfl) ?_
  refine AW.seq fun _ k => AW.region [] Θ_ok ?_
  simp
  refine k _ ?_
  refine AW.seq fun _ k => AW.region [] Θ_ok ?_
  simp
  by_cases h0 : 0 ≤ v
  · by_cases hv : v < in_.length
    · have hn : v.toNat < in_.length := by omega
      simp [hv, h0, hn, Int.not_le.2 hv, Int.not_lt.2 h0]
      refine k _ (AW.ret ?_)
      simp [Try.f18]
      exact Fin.refl ⟨by simp [hasI, hn, h0], rfl⟩
    · have hn : in_.length ≤ v.toNat := by omega
      simp [hv, h0, Int.not_lt.1 hv, Int.not_lt.2 h0]
      refine k _ (AW.ret ?_)
      simp [Try.f18]
      have e : hasI in_ v = false := by simp [hasI, hn]
      exact Fin.refl ⟨by simp [e], rfl⟩
  · simp [h0, Int.not_le.1 h0]
    refine k _ (AW.ret ?_)
    simp [Try.f18]
    exact Fin.refl ⟨by simp [h0], rfl⟩

theorem r9_Player (v : Int) : Pure Try.prog 47 [.int .i64 v] (.bool (v == 0 || v == 1)) := by
  intro h
  refine AC.body Θ_ok Try.func47 rfl rfl (Nat.le_of_ble_eq_true rfl) ?_
  refine AW.seq fun _ k => AW.region [] Θ_ok ?_
  simp
  refine k _ ?_
  refine AW.seq fun _ k => AW.region [] Θ_ok ?_
  simp
  by_cases h0 : v = 0
  · subst h0
    simp
    refine k _ (AW.ret ?_)
    simp [Try.f47]
    exact Fin.refl ⟨by simp, rfl⟩
  · simp [h0]
    refine k _ (AW.ret ?_)
    simp [Try.f47]
    exact Fin.refl ⟨by simp [h0], rfl⟩

theorem r9_SameRow (a b : List Bool) (hl : a.length ≤ 1152921504606846976) : Pure Try.prog 22 [.ro false (bools a), .ro false (bools b)] (.bool (decide (a = b))) := by
  intro h
  refine AC.body Θ_ok Try.func22 rfl rfl (Nat.le_of_ble_eq_true rfl) ?_
  refine AW.seq fun _ k1 => AW.region [] Θ_ok ?_
  simp
  refine k1 _ ?_
  refine AW.seq fun _ k1 => ?_
  refine AW.seq fun _ k2 => AW.region [] Θ_ok ?_
  simp
  refine k2 _ ?_
  by_cases he : a.length = b.length
  · refine AW.cond false (by simp [Int.natCast_inj, he]) (fun h => by cases h) (fun _ => ?_)
    refine AW.skip ?_
    simp
    refine k1 _ ?_
    refine AW.seq fun _ k1 => ?_
    refine AW.seq fun _ k2 => AW.region [] Θ_ok ?_
    simp
    refine k2 _ ?_
    refine AW.block ?_
    refine AW.loopI (X := Nat) (fun x => x ≤ a.length ∧ ∀ i, i < x → a[i]? = b[i]?) (fun x => ⟨26, [(13, .int .i64 x), (12, .int .i64 a.length), (0, .ro false (bools a)), (1, .ro false (bools b))], h⟩) (fun x => a.length - x) 0 ⟨Nat.zero_le _, fun i hi => by omega⟩ (GStep.eq (by simp) (subH.refl _)) ?_
    rintro x ⟨hx, hok⟩
    refine AW.seq fun _ k2 => AW.region [] Θ_ok ?_
    simp
    refine k2 _ ?_
    by_cases hlt : x < a.length
    · have hlt' : x < b.length := by omega
      refine AW.seq fun _ k2 => AW.cond true (by simp [Int.natCast_inj, hlt]) (fun _ => ?_) (fun h => by cases h)
      refine AW.skip ?_
      simp
      refine k2 _ ?_
      refine AW.seq fun _ k2 => ?_
      refine AW.block ?_
      refine AW.seq fun _ k3 => AW.region [] Θ_ok ?_
      simp
      refine k3 _ ?_
      refine AW.seq fun _ k3 => AW.draw [] 9 [] Θ_ok mixed (by kernel_rfl) (by kernel_rfl) ?_
      simp [vcDraw, vcPre, vcTail, callA, isAlloc, isLoad, effOp, obl, obA, mkOK, valA, hlt, hlt']
      refine k3 _ ?_
      by_cases hab : a[x] = b[x]
      · refine AW.cond false (by simp [Int.natCast_inj, hab]) (fun h => by cases h) (fun _ => ?_)
        refine AW.skip ?_
        simp
        refine k2 _ ?_
        refine AW.region [] Θ_ok ?_
        simp
        refine ⟨x + 1, ⟨by omega, fun i hi => ?_⟩, by omega, GStep.eq ?_ (subH.refl _)⟩
        · by_cases e : i = x
          · subst e; simp [hlt, hlt', hab]
          · exact hok i (by omega)
        · simp [wrap_succ (show x < 9223372036854775807 by omega)]
      · refine AW.cond true (by simp [Int.natCast_inj, hab]) (fun _ => ?_) (fun h => by cases h)
        refine AW.seq fun _ kr => AW.region [] Θ_ok ?_
        simp
        refine kr _ (AW.ret ?_)
        simp [Try.f22]
        refine Fin.refl ⟨?_, rfl⟩
        have : ¬ a = b := by rintro rfl; exact hab rfl
        simp [this]
    · obtain rfl : x = a.length := by omega
      refine AW.seq fun _ k2 => AW.cond false (by simp [Int.natCast_inj]) (fun h => by cases h) (fun _ => ?_)
      refine AW.exit ?_
      simp
      refine k1 _ ?_
      refine AW.seq fun _ kr => AW.region [] Θ_ok ?_
      simp
      refine kr _ (AW.ret ?_)
      simp [Try.f22]
      refine Fin.refl ⟨?_, rfl⟩
      have : a = b := List.ext_getElem? fun i => by
        by_cases hi : i < a.length
        · exact hok i hi
        · rw [List.getElem?_eq_none (by omega), List.getElem?_eq_none (by omega)]
      simp [this]
  · refine AW.cond true (by simp [Int.natCast_inj, he]) (fun _ => ?_) (fun h => by cases h)
    refine AW.seq fun _ kr => AW.region [] Θ_ok ?_
    simp
    refine kr _ (AW.ret ?_)
    simp [Try.f22]
    refine Fin.refl ⟨?_, rfl⟩
    have : ¬ a = b := by rintro rfl; exact he rfl
    simp [this]

theorem pre_Count (g : G) (in_ : List Bool) (hn : g.owner.length ≤ 17592186044416) : Pure Try.prog 34 [g.av, .ro false (bools in_)] (.int .i64 ((List.range g.owner.length).countP (hasN in_) : Nat)) := by
  intro h
  refine AC.body Θ_ok Try.func34 rfl rfl (Nat.le_of_ble_eq_true rfl) ?_
  refine AW.seq fun _ k1 => AW.region [] Θ_ok ?_
  simp
  refine k1 _ ?_
  refine AW.seq fun _ k1 => AW.region [] Θ_ok ?_
  simp
  refine k1 _ ?_
  refine AW.seq fun _ k1 => ?_
  refine AW.seq fun _ k2 => AW.region [] Θ_ok ?_
  simp
  refine k2 _ ?_
  refine AW.block ?_
  refine AW.loopI (X := Nat) (fun x => x ≤ g.owner.length) (fun x => ⟨20, [(10, .int .i64 x), (9, .int .i64 g.owner.length), (5, .int .i64 ((List.range x).countP (hasN in_) : Nat)), (1, .ro false (bools in_))], h⟩) (fun x => g.owner.length - x) 0 (Nat.zero_le _) (GStep.eq (by simp) (subH.refl _)) fun x hx => ?_
  refine AW.seq fun _ k2 => AW.region [] Θ_ok ?_
  simp
  refine k2 _ ?_
  by_cases hlt : x < g.owner.length
  · refine AW.seq fun _ k2 => AW.cond true (by simp [Int.natCast_inj, hlt]) (fun _ => ?_) (fun h => by cases h)
    refine AW.skip ?_
    simp
    refine k2 _ ?_
    refine AW.seq fun _ k2 => ?_
    refine AW.block ?_
    refine AW.seq fun _ k3 => AW.region [] Θ_ok ?_
    simp
    refine k3 _ ?_
    refine AW.seq fun _ k3 => AW.region [] Θ_ok ?_
    simp
    refine (pre_has in_ x (by omega)).use (by simp [G.av]) ?_
    try simp
    refine k3 _ ?_
    have hstep : (List.range (x + 1)).countP (hasN in_) = (List.range x).countP (hasN in_) + if hasN in_ x then 1 else 0 := by
      rw [List.range_succ, List.countP_append]
      simp [List.countP_cons]
    have hle : (List.range x).countP (hasN in_) ≤ x := Nat.le_trans List.countP_le_length (by simp)
    cases hb : hasN in_ x
    · refine AW.cond false (by simp [Int.natCast_inj, hb]) (fun h => by cases h) (fun _ => ?_)
      refine AW.skip ?_
      simp
      refine k2 _ ?_
      refine AW.region [] Θ_ok ?_
      simp
      refine ⟨x + 1, by omega, by omega, GStep.eq ?_ (subH.refl _)⟩
      simp [wrap_succ (show x < 9223372036854775807 by omega), hstep, hb]
    · refine AW.cond true (by simp [Int.natCast_inj, hb]) (fun _ => ?_) (fun h => by cases h)
      refine AW.region [] Θ_ok ?_
      simp
      refine k2 _ ?_
      refine AW.region [] Θ_ok ?_
      simp
      refine ⟨x + 1, by omega, by omega, GStep.eq ?_ (subH.refl _)⟩
      have := wrap_succ (show (List.range x).countP (hasN in_) < 9223372036854775807 by omega)
      simp [wrap_succ (show x < 9223372036854775807 by omega), hstep, hb, this]
  · obtain rfl : x = g.owner.length := by omega
    refine AW.seq fun _ k2 => AW.cond false (by simp [Int.natCast_inj]) (fun h => by cases h) (fun _ => ?_)
    refine AW.exit ?_
    simp
    refine k1 _ ?_
    refine AW.seq fun _ kr => AW.region [] Θ_ok ?_
    simp
    refine kr _ (AW.ret ?_)
    simp [Try.f34]
    exact Fin.refl ⟨rfl, rfl⟩

theorem r9_May (g : G) (hf : g.fits) : Pure Try.prog 14 [g.av] (.int .i64 (mayE g)) := by
  intro h
  refine AC.body Θ_ok Try.func14 rfl rfl (Nat.le_of_ble_eq_true rfl) ?_
  refine AW.seq fun _ k1 => AW.region [] Θ_ok ?_
  simp
  refine k1 _ ?_
  refine AW.seq fun _ k1 => AW.region [] Θ_ok ?_
  simp
  refine k1 _ ?_
  refine AW.seq fun _ k1 => ?_
  refine AW.seq fun _ k2 => AW.region [] Θ_ok ?_
  simp
  refine k2 _ ?_
  by_cases h3 : 3000 < g.owner.length
  · refine AW.cond true (by simp; omega) (fun _ => ?_) (fun h => by cases h)
    refine AW.seq fun _ kr => AW.region [] Θ_ok ?_
    simp
    refine kr _ (AW.ret ?_)
    simp [Try.f14]
    exact Fin.refl ⟨by simp [mayE, h3], rfl⟩
  · refine AW.cond false (by simp; omega) (fun h => by cases h) (fun _ => ?_)
    refine AW.skip ?_
    simp
    refine k1 _ ?_
    refine AW.seq fun _ k1 => ?_
    refine AW.seq fun _ k2 => AW.region [] Θ_ok ?_
    simp
    refine k2 _ ?_
    by_cases hl : g.next.length = g.owner.length
    · refine AW.cond false (by simp [Int.natCast_inj, hl]) (fun h => by cases h) (fun _ => ?_)
      refine AW.skip ?_
      simp
      refine k1 _ ?_
      refine AW.seq fun _ k1 => ?_
      refine AW.seq fun _ k2 => AW.region [] Θ_ok ?_
      simp
      refine k2 _ ?_
      refine AW.block ?_
      refine AW.loopI (X := Nat) (fun x => x ≤ g.owner.length ∧ ∀ i, i < x → okV g i = true) (fun x => ⟨44, [(16, .int .i64 x), (15, .int .i64 g.owner.length), (3, .int .i64 g.owner.length), (1, .rop [.ro false (ints g.owner), .ro false (rows g.next)])], h⟩) (fun x => g.owner.length - x) 0 ⟨Nat.zero_le _, fun i hi => by omega⟩ (GStep.eq (by simp) (subH.refl _)) ?_
      rintro x ⟨hx, hok⟩
      refine AW.seq fun _ k2 => AW.region [] Θ_ok ?_
      simp
      refine k2 _ ?_
      by_cases hlt : x < g.owner.length
      · have hlt' : x < g.next.length := by omega
        refine AW.seq fun _ k2 => AW.cond true (by simp [Int.natCast_inj, hlt]) (fun _ => ?_) (fun h => by cases h)
        refine AW.skip ?_
        simp
        refine k2 _ ?_
        refine AW.seq fun _ k2 => ?_
        refine AW.block ?_
        refine AW.seq fun _ k3 => AW.region [] Θ_ok ?_
        simp
        refine k3 _ ?_
        have hrow := r9_rising g.next[x] g.owner.length (hf.row _ (List.getElem_mem _))
        by_cases hw : g.owner[x] = 0 ∨ g.owner[x] = 1
        · have hdr : okV g x = rise (-1) g.next[x] g.owner.length := by
            rcases hw with hw | hw <;> simp [okV, hlt, hlt', hw]
          refine AW.seq fun K3 k3 => AW.region [] Θ_ok ?_
          rcases hw with hw | hw
          all_goals
            simp [hlt, hlt', hw]
            refine (hrow).use (by simp [G.av]) ?_
            try simp
            refine k3 _ ?_
            cases hr : rise (-1) g.next[x] g.owner.length
            · refine AW.cond true (by simp [Int.natCast_inj, hr]) (fun _ => ?_) (fun h => by cases h)
              refine AW.seq fun _ kr => AW.region [] Θ_ok ?_
              simp
              refine kr _ (AW.ret ?_)
              simp [Try.f14]
              refine Fin.refl ⟨?_, rfl⟩
              have := not_all_range hlt (hdr.trans hr)
              simp only [mayE, if_neg h3, if_pos hl, this]
              rfl
            · refine AW.cond false (by simp [Int.natCast_inj, hr]) (fun h => by cases h) (fun _ => ?_)
              refine AW.skip ?_
              simp
              refine k2 _ ?_
              refine AW.region [] Θ_ok ?_
              simp
              refine ⟨x + 1, ⟨by omega, fun i hi => ?_⟩, by omega, GStep.eq ?_ (subH.refl _)⟩
              · by_cases e : i = x
                · subst e; exact hdr.trans hr
                · exact hok i (by omega)
              · simp [wrap_succ (show x < 9223372036854775807 by omega)]
        · have hw1 : ¬ g.owner[x] = 0 := fun h => hw (.inl h)
          have hw2 : ¬ g.owner[x] = 1 := fun h => hw (.inr h)
          refine AW.seq fun _ k3 => AW.region [] Θ_ok ?_
          simp [hlt, hw1, hw2]
          refine k3 _ ?_
          refine AW.cond true (by simp [Int.natCast_inj]) (fun _ => ?_) (fun h => by cases h)
          refine AW.seq fun _ kr => AW.region [] Θ_ok ?_
          simp
          refine kr _ (AW.ret ?_)
          simp [Try.f14]
          refine Fin.refl ⟨?_, rfl⟩
          have : okV g x = false := by simp [okV, hlt, hw1, hw2]
          have := not_all_range hlt this
          simp only [mayE, if_neg h3, if_pos hl, this]
          rfl
      · obtain rfl : x = g.owner.length := by omega
        refine AW.seq fun _ k2 => AW.cond false (by simp [Int.natCast_inj]) (fun h => by cases h) (fun _ => ?_)
        refine AW.exit ?_
        simp
        refine k1 _ ?_
        refine AW.seq fun _ kr => AW.region [] Θ_ok ?_
        simp
        refine kr _ (AW.ret ?_)
        simp [Try.f14]
        refine Fin.refl ⟨?_, rfl⟩
        simp only [mayE, if_neg h3, if_pos hl, all_of_range hok]
        rfl
    · refine AW.cond true (by simp [Int.natCast_inj, hl]) (fun _ => ?_) (fun h => by cases h)
      refine AW.seq fun _ kr => AW.region [] Θ_ok ?_
      simp
      refine kr _ (AW.ret ?_)
      simp [Try.f14]
      exact Fin.refl ⟨by simp [mayE, h3, hl], rfl⟩

end Go.Par
