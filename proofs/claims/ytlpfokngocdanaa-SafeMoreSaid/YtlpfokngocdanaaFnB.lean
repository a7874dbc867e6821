import Derived.Test.YtlpfokngocdanaaFnA
set_option linter.unusedSimpArgs false
namespace Go.Par
open Go.Proofs

/-- A row of numbers that rise, each below 'n'. -/
def rise (was : Int) : List Int → Int → Bool
  | [], _ => true
  | v :: r, n => if v ≤ was ∨ n ≤ v then false else rise v r n

theorem graph_row (l : List Int) (n : Int) (hl : l.length ≤ 17592186044416) : Pure Try.prog 56 [.ro false (ints l), .int .i64 n] (.bool (rise (-1) l n)) := by
  intro h
  refine AC.body Θ_ok Try.func56 rfl rfl (Nat.le_of_ble_eq_true rfl) ?_
  refine AW.seq fun K1 k1 => AW.region [] Θ_ok ?_
  simp
  refine k1 _ ?_
  refine AW.seq fun K1 k1 => AW.region [] Θ_ok ?_
  simp
  refine k1 _ ?_
  refine AW.seq fun K1 k1 => ?_
  refine AW.seq fun K2 k2 => AW.region [] Θ_ok ?_
  simp
  refine k2 _ ?_
  refine AW.block ?_
  refine AW.loopI (X := Nat × Int) (fun x => x.1 ≤ l.length ∧ rise x.2 (l.drop x.1) n = rise (-1) l n) (fun x => ⟨24, [(10, .int .i64 x.1), (9, .int .i64 l.length), (8, .ro false (ints l)), (5, .int .i64 x.2), (1, .int .i64 n)], h⟩) (fun x => l.length - x.1) (0, -1) ⟨Nat.zero_le _, rfl⟩ (GStep.eq (by simp) (subH.refl _)) ?_
  rintro ⟨x, was⟩ ⟨hx, hrise⟩
  simp only at hx hrise
  refine AW.seq fun K2 k2 => AW.region [] Θ_ok ?_
  simp
  refine k2 _ ?_
  by_cases hlt : x < l.length
  · rw [List.drop_eq_getElem_cons hlt] at hrise
    refine AW.seq fun K2 k2 => AW.cond true (by simp [hlt]) (fun _ => ?_) (fun h => by cases h)
    refine AW.skip ?_
    simp
    refine k2 _ ?_
    refine AW.seq fun K2 k2 => ?_
    refine AW.block ?_
    refine AW.seq fun K3 k3 => AW.region [] Θ_ok ?_
    simp [hlt]
    refine k3 _ ?_
    refine AW.seq fun K3 k3 => ?_
    by_cases hb : l[x] ≤ was ∨ n ≤ l[x]
    · refine AW.seq fun K4 k4 => AW.region [] Θ_ok ?_
      have hout : rise (-1) l n = false := by rw [← hrise]; simp [rise, hb]
      rcases Decidable.em (l[x] ≤ was) with h1 | h1
      all_goals
        have h2 : l[x] ≤ was ∨ n ≤ l[x] := hb
        simp [h1] at h2 ⊢
        try simp [h2]
        refine k4 _ ?_
        refine AW.cond true (by simp [h2]) (fun _ => ?_) (fun h => by cases h)
        refine AW.seq fun K4 k4 => AW.region [] Θ_ok ?_
        simp
        refine k4 _ (AW.ret ?_)
        simp [Try.f56]
        exact Fin.refl ⟨by rw [hout], rfl⟩
    · have h1 : ¬ l[x] ≤ was := fun h => hb (.inl h)
      have h2 : ¬ n ≤ l[x] := fun h => hb (.inr h)
      refine AW.seq fun K4 k4 => AW.region [] Θ_ok ?_
      simp [h1, h2]
      refine k4 _ ?_
      refine AW.cond false (by simp) (fun h => by cases h) (fun _ => ?_)
      refine AW.skip ?_
      simp
      refine k3 _ ?_
      refine AW.region [] Θ_ok ?_
      simp
      refine k2 _ ?_
      refine AW.region [] Θ_ok ?_
      simp
      refine ⟨x + 1, l[x], ⟨by omega, ?_⟩, by omega, GStep.eq ?_ (subH.refl _)⟩
      · rw [← hrise]; simp [rise, hb]
      · simp [wrap_succ (show x < 9223372036854775807 by omega)]
  · obtain rfl : x = l.length := by omega
    refine AW.seq fun K2 k2 => AW.cond false (by simp) (fun h => by cases h) (fun _ => ?_)
    refine AW.exit ?_
    simp
    refine k1 _ ?_
    refine AW.seq fun K1 k1 => AW.region [] Θ_ok ?_
    simp
    refine k1 _ (AW.ret ?_)
    simp [Try.f56]
    refine Fin.refl ⟨?_, rfl⟩
    rw [← hrise]; simp [rise]

theorem r9_rising (l : List Int) (n : Int) (hl : l.length ≤ 17592186044416) : Pure Try.prog 38 [.ro false (ints l), .int .i64 n] (.bool (rise (-1) l n)) := by
  intro h
  refine AC.body Θ_ok Try.func38 rfl rfl (Nat.le_of_ble_eq_true rfl) ?_
  refine AW.seq fun K1 k1 => AW.region [] Θ_ok ?_
  simp
  refine k1 _ ?_
  refine AW.seq fun K1 k1 => AW.region [] Θ_ok ?_
  simp
  refine k1 _ ?_
  refine AW.seq fun K1 k1 => ?_
  refine AW.seq fun K2 k2 => AW.region [] Θ_ok ?_
  simp
  refine k2 _ ?_
  refine AW.block ?_
  refine AW.loopI (X := Nat × Int) (fun x => x.1 ≤ l.length ∧ rise x.2 (l.drop x.1) n = rise (-1) l n) (fun x => ⟨24, [(10, .int .i64 x.1), (9, .int .i64 l.length), (8, .ro false (ints l)), (5, .int .i64 x.2), (1, .int .i64 n)], h⟩) (fun x => l.length - x.1) (0, -1) ⟨Nat.zero_le _, rfl⟩ (GStep.eq (by simp) (subH.refl _)) ?_
  rintro ⟨x, was⟩ ⟨hx, hrise⟩
  simp only at hx hrise
  refine AW.seq fun K2 k2 => AW.region [] Θ_ok ?_
  simp
  refine k2 _ ?_
  by_cases hlt : x < l.length
  · rw [List.drop_eq_getElem_cons hlt] at hrise
    refine AW.seq fun K2 k2 => AW.cond true (by simp [hlt]) (fun _ => ?_) (fun h => by cases h)
    refine AW.skip ?_
    simp
    refine k2 _ ?_
    refine AW.seq fun K2 k2 => ?_
    refine AW.block ?_
    refine AW.seq fun K3 k3 => AW.region [] Θ_ok ?_
    simp [hlt]
    refine k3 _ ?_
    refine AW.seq fun K3 k3 => ?_
    by_cases hb : l[x] ≤ was ∨ n ≤ l[x]
    · refine AW.seq fun K4 k4 => AW.region [] Θ_ok ?_
      have hout : rise (-1) l n = false := by rw [← hrise]; simp [rise, hb]
      rcases Decidable.em (l[x] ≤ was) with h1 | h1
      all_goals
        have h2 : l[x] ≤ was ∨ n ≤ l[x] := hb
        simp [h1] at h2 ⊢
        try simp [h2]
        refine k4 _ ?_
        refine AW.cond true (by simp [h2]) (fun _ => ?_) (fun h => by cases h)
        refine AW.seq fun K4 k4 => AW.region [] Θ_ok ?_
        simp
        refine k4 _ (AW.ret ?_)
        simp [Try.f38]
        exact Fin.refl ⟨by rw [hout], rfl⟩
    · have h1 : ¬ l[x] ≤ was := fun h => hb (.inl h)
      have h2 : ¬ n ≤ l[x] := fun h => hb (.inr h)
      refine AW.seq fun K4 k4 => AW.region [] Θ_ok ?_
      simp [h1, h2]
      refine k4 _ ?_
      refine AW.cond false (by simp) (fun h => by cases h) (fun _ => ?_)
      refine AW.skip ?_
      simp
      refine k3 _ ?_
      refine AW.region [] Θ_ok ?_
      simp
      refine k2 _ ?_
      refine AW.region [] Θ_ok ?_
      simp
      refine ⟨x + 1, l[x], ⟨by omega, ?_⟩, by omega, GStep.eq ?_ (subH.refl _)⟩
      · rw [← hrise]; simp [rise, hb]
      · simp [wrap_succ (show x < 9223372036854775807 by omega)]
  · obtain rfl : x = l.length := by omega
    refine AW.seq fun K2 k2 => AW.cond false (by simp) (fun h => by cases h) (fun _ => ?_)
    refine AW.exit ?_
    simp
    refine k1 _ ?_
    refine AW.seq fun K1 k1 => AW.region [] Θ_ok ?_
    simp
    refine k1 _ (AW.ret ?_)
    simp [Try.f38]
    refine Fin.refl ⟨?_, rfl⟩
    rw [← hrise]; simp [rise]

/-- May a vertex be? -/
def okV (g : G) (v : Nat) : Bool := (g.owner.getD v 0 == 0 || g.owner.getD v 0 == 1) && rise (-1) (g.next.getD v []) g.owner.length
def mayE (g : G) : Int := if 3000 < g.owner.length then 7 else if g.next.length = g.owner.length then (if (List.range g.owner.length).all (okV g) then 0 else 1) else 1

/-- Of bounds that each thing of memory has. -/
structure G.fits (g : G) : Prop where
  owner : g.owner.length ≤ 17592186044416
  next : g.next.length ≤ 17592186044416
  row : ∀ l ∈ g.next, l.length ≤ 17592186044416

theorem all_of_range {n : Nat} {p : Nat → Bool} (h : ∀ i, i < n → p i = true) : (List.range n).all p = true := by
  rw [List.all_eq_true]; intro i hi; exact h i (by simpa using hi)
theorem not_all_range {n x : Nat} {p : Nat → Bool} (hx : x < n) (h : p x = false) : (List.range n).all p = false := by
  rw [← Bool.not_eq_true, List.all_eq_true]
  intro q; rw [q x (by simpa using hx)] at h; cases h

theorem graph_May (g : G) (hf : g.fits) : Pure Try.prog 39 [g.av] (.int .i64 (mayE g)) := by
  intro h
  refine AC.body Θ_ok Try.func39 rfl rfl (Nat.le_of_ble_eq_true rfl) ?_
  refine AW.seq fun K1 k1 => AW.region [] Θ_ok ?_
  simp
  refine k1 _ ?_
  refine AW.seq fun K1 k1 => ?_
  refine AW.block ?_
  refine AW.seq fun K2 k2 => AW.region [] Θ_ok ?_
  simp
  refine k2 _ ?_
  by_cases h3 : 3000 < g.owner.length
  · refine AW.cond true (by simp; omega) (fun _ => ?_) (fun h => by cases h)
    refine AW.seq fun K2 k2 => AW.region [] Θ_ok ?_
    simp
    refine k2 _ (AW.ret ?_)
    simp [Try.f39]
    exact Fin.refl ⟨by simp [mayE, h3], rfl⟩
  · refine AW.cond false (by simp; omega) (fun h => by cases h) (fun _ => ?_)
    refine AW.seq fun K2 k2 => AW.region [] Θ_ok ?_
    simp
    refine k2 _ ?_
    by_cases hl : g.next.length = g.owner.length
    · refine AW.cond false (by simp [hl]) (fun h => by cases h) (fun _ => ?_)
      refine AW.skip ?_
      simp
      refine k1 _ ?_
      refine AW.seq fun K1 k1 => ?_
      refine AW.seq fun K2 k2 => AW.region [] Θ_ok ?_
      simp
      refine k2 _ ?_
      refine AW.block ?_
      refine AW.loopI (X := Nat) (fun x => x ≤ g.owner.length ∧ ∀ i, i < x → okV g i = true) (fun x => ⟨45, [(21, .int .i64 x), (20, .int .i64 g.owner.length), (19, .ro false (ints g.owner)), (1, .rop [.ro false (ints g.owner), .ro false (rows g.next)])], h⟩) (fun x => g.owner.length - x) 0 ⟨Nat.zero_le _, fun i hi => by omega⟩ (GStep.eq (by simp) (subH.refl _)) ?_
      rintro x ⟨hx, hok⟩
      refine AW.seq fun K2 k2 => AW.region [] Θ_ok ?_
      simp
      refine k2 _ ?_
      by_cases hlt : x < g.owner.length
      · have hlt' : x < g.next.length := by omega
        refine AW.seq fun K2 k2 => AW.cond true (by simp [hlt]) (fun _ => ?_) (fun h => by cases h)
        refine AW.skip ?_
        simp
        refine k2 _ ?_
        refine AW.seq fun K2 k2 => ?_
        refine AW.block ?_
        refine AW.seq fun K3 k3 => AW.region [] Θ_ok ?_
        simp [hlt]
        refine k3 _ ?_
        refine AW.seq fun K3 k3 => ?_
        have hrow := graph_row g.next[x] g.owner.length (hf.row _ (List.getElem_mem _))
        by_cases hw : g.owner[x] = 0 ∨ g.owner[x] = 1
        · have hdr : okV g x = rise (-1) g.next[x] g.owner.length := by
            rcases hw with hw | hw <;> simp [okV, hlt, hlt', hw]
          refine AW.draw [] 18 [] Θ_ok mixed (by kernel_rfl) (by kernel_rfl) ?_
          rcases hw with hw | hw
          all_goals
            simp [vcDraw, vcPre, vcTail, callA, isAlloc, isLoad, effOp, obl, obA, hw, hlt, hlt']
            refine ⟨_, hrow, ?_⟩
            simp
            refine k3 _ ?_
            cases hr : rise (-1) g.next[x] g.owner.length
            · refine AW.cond true (by simp [hr]) (fun _ => ?_) (fun h => by cases h)
              refine AW.seq fun K4 k4 => AW.region [] Θ_ok ?_
              simp
              refine k4 _ (AW.ret ?_)
              simp [Try.f39]
              refine Fin.refl ⟨?_, rfl⟩
              have := not_all_range hlt (hdr.trans hr)
              simp only [mayE, if_neg h3, if_pos hl, this]
              rfl
            · refine AW.cond false (by simp [hr]) (fun h => by cases h) (fun _ => ?_)
              refine AW.skip ?_
              simp
              refine k2 _ ?_
              refine AW.region [] Θ_ok ?_
              simp
              refine ⟨x + 1, ⟨by omega, fun i hi => ?_⟩, by omega, GStep.eq ?_ (subH.refl _)⟩
              · by_cases e : i = x
                · subst e; exact hdr.trans hr
                · exact hok i (by omega)
              · simp [wrap_succ (show x < 9223372036854775807 by omega)]
        · have hw1 : ¬ g.owner[x] = 0 := fun h => hw (.inl h)
          have hw2 : ¬ g.owner[x] = 1 := fun h => hw (.inr h)
          refine AW.draw [] 18 [] Θ_ok mixed (by kernel_rfl) (by kernel_rfl) ?_
          simp [vcDraw, vcPre, vcTail, callA, isAlloc, isLoad, effOp, obl, obA, hw1, hw2, hlt, hlt']
          refine k3 _ ?_
          refine AW.cond true (by simp) (fun _ => ?_) (fun h => by cases h)
          refine AW.seq fun K4 k4 => AW.region [] Θ_ok ?_
          simp
          refine k4 _ (AW.ret ?_)
          simp [Try.f39]
          refine Fin.refl ⟨?_, rfl⟩
          have : okV g x = false := by simp [okV, hlt, hw1, hw2]
          have := not_all_range hlt this
          simp only [mayE, if_neg h3, if_pos hl, this]
          rfl
      · obtain rfl : x = g.owner.length := by omega
        refine AW.seq fun K2 k2 => AW.cond false (by simp) (fun h => by cases h) (fun _ => ?_)
        refine AW.exit ?_
        simp
        refine k1 _ ?_
        refine AW.seq fun K1 k1 => AW.region [] Θ_ok ?_
        simp
        refine k1 _ (AW.ret ?_)
        simp [Try.f39]
        refine Fin.refl ⟨?_, rfl⟩
        simp only [mayE, if_neg h3, if_pos hl, all_of_range hok]
        rfl
    · refine AW.cond true (by simp; omega) (fun _ => ?_) (fun h => by cases h)
      refine AW.seq fun K2 k2 => AW.region [] Θ_ok ?_
      simp
      refine k2 _ (AW.ret ?_)
      simp [Try.f39]
      exact Fin.refl ⟨by simp [mayE, h3, hl], rfl⟩

end Go.Par
