import Derived.Test.YtigipgahgkngcaaWpI
import Derived.Test.YtigipgahgkngcaaLwProofRows
import Derived.Test.YtigipgahgkngcaaPrG
set_option linter.unusedSimpArgs false
set_option linter.unusedVariables false
set_option maxRecDepth 8000
set_option maxHeartbeats 1000000
namespace Go.Par
open Go.Proofs

theorem both_win {g : G} {P : List Int} {to_ : List Int} {from_ : List Bool} {who : Int} (h : winsB g P who to_ from_ = true) {v : Nat} (hv : v < g.owner.length) (hf : hasN from_ v = true) : fI (winL g P) v = who := by
  obtain ⟨⟨h1, h2⟩, W⟩ := wn_of h
  have ok := mayP_ok h1
  obtain ⟨l1, _⟩ := fol_len (who := who) (to_ := to_) ok.m
  exact win_uniq ok h2 (fun v h => h.1) W ⟨hv, .start v (by rw [l1]; exact hv) hf⟩
theorem both_none {g : G} {P : List Int} {to_ : List Int} {from_ : List Bool} {who : Int} (h : mayP g P = true) (hw : who = 0 ∨ who = 1) (hf : ∀ v, v < g.owner.length → hasN from_ v = false) : winsB g P who to_ from_ = true :=
  wins_of (D := fun _ => False) h hw ⟨fun v h => h.elim, fun v h => h.elim, fun v h => h.elim⟩ fun v hv q => by rw [hf v hv] at q; cases q

def anF (from_ : List Bool) (x : Nat) : Bool := (List.range x).any (hasN from_)
theorem anF_step (from_ : List Bool) (x : Nat) : anF from_ (x + 1) = (anF from_ x || hasN from_ x) := by
  unfold anF; rw [List.range_succ, List.any_append]; simp

theorem law_ProofBoth (g : G) (hg : g.wide) (P : List Int) (hP : (DK.sl .int).fits P) (ta : List Int) (hta : (DK.sl .int).fits ta) (tb : List Int) (htb : (DK.sl .int).fits tb) (from_ : List Bool) (hfr : (DK.sl .bool).fits from_) :
    Pure Try.prog 9 [g.av, .ro false (ints P), .ro false (ints ta), .ro false (ints tb), .ro false (bools from_)] (.bool true) := by
  have hf := hg.f
  have hPl : P.length ≤ 1152921504606846976 := by
    have : P.length * 8 ≤ reachBytes := hP.1
    unfold reachBytes at this
    omega
  have sH := l15_Heavy g hf P
  have sM := r9_MayPrio g hf P hPl
  have sS := parity_Solve g hf P hPl
  have sA := l17_awake
  intro h
  refine AC.body Θ_ok Try.func9 rfl rfl (Nat.le_of_ble_eq_true rfl) ?_
  refine AW.seq fun _ k1 => AW.region [] Θ_ok ?_
  simp
  refine k1 _ ?_
  refine AW.seq fun _ k1 => ?_
  by_cases h1 : 0 < heavy15 g P
  · refine AW.seq fun _ k2 => AW.regionAt 3 [] Θ_ok fun B hB => ?_
    simp
    refine sH.use (by simp [G.av]) ?_
    refine hB _ ?_
    clear hB B
    simp [h1]
    refine k2 _ ?_
    refine AW.cond true (by simp [Int.natCast_inj]) (fun _ => ?_) (fun h => by cases h)
    refine AW.seq fun _ kr => AW.region [] Θ_ok ?_
    simp
    refine sA.use (by simp) ?_
    refine kr _ (AW.ret ?_)
    simp [Try.f9]
    exact Fin.refl ⟨rfl, rfl⟩
  have h1' := Int.not_lt.1 h1
  by_cases hall : mayP g P = true ∧ ta.length ≤ 300 ∧ tb.length ≤ 300 ∧ from_.length ≤ 300
  · obtain ⟨hm, c1, c2, c3⟩ := hall
    have c1' : ¬ (300 : Int) < (ta.length : Int) := by omega
    have c2' : ¬ (300 : Int) < (tb.length : Int) := by omega
    have c3' : ¬ (300 : Int) < (from_.length : Int) := by omega
    rw [hm] at sM
    rw [solA, if_pos hm] at sS
    have ok := mayP_ok hm
    have hn := (may_ok ok.m).1
    have hlP := ok.len
    have lW : (winL g P).length = g.owner.length := (zfin_spec ok).2.2.1
    have wx := proof_Wins g hf P hPl 0 ta from_
    have wy := proof_Wins g hf P hPl 1 tb from_
    have hX : winsB g P 0 ta from_ = true → ∀ v (h : v < (winL g P).length), hasN from_ v = true → (winL g P)[v] = 0 := fun q v hv hfv => by
      have := both_win q (show v < g.owner.length by omega) hfv
      simpa [fI, hv] using this
    have hY : winsB g P 1 tb from_ = true → ∀ v (h : v < (winL g P).length), hasN from_ v = true → (winL g P)[v] = 1 := fun q v hv hfv => by
      have := both_win q (show v < g.owner.length by omega) hfv
      simpa [fI, hv] using this
    have hNo : anF from_ (winL g P).length = false → winsB g P 0 ta from_ = true ∧ winsB g P 1 tb from_ = true := fun q => by
      have hz : ∀ v, v < g.owner.length → hasN from_ v = false := fun v hv => by
        cases e : hasN from_ v with
        | false => rfl
        | true =>
          have : anF from_ (winL g P).length = true := List.any_eq_true.2 ⟨v, by simp; omega, e⟩
          rw [q] at this; cases this
      exact ⟨both_none hm (.inl rfl) hz, both_none hm (.inr rfl) hz⟩
    generalize winsB g P 0 ta from_ = x at *
    generalize winsB g P 1 tb from_ = y at *
    generalize winL g P = W at *
    generalize toL g P = T at *
    have hAny : anF from_ W.length = true → ¬ (x = true ∧ y = true) := fun q ⟨q1, q2⟩ => by
      obtain ⟨v, hv, e⟩ := List.any_eq_true.1 q
      have hv : v < W.length := by simpa using hv
      have a1 := hX q1 v hv e
      have a2 := hY q2 v hv e
      omega
    refine AW.seq fun _ k2 => AW.regionAt 3 [] Θ_ok fun B hB => ?_
    simp
    refine sH.use (by simp [G.av]) ?_
    refine hB _ ?_
    clear hB B
    refine vcOps_split 5 fun B hB => ?_
    simp [h1, h1']
    refine sM.use (by simp [G.av]) ?_
    refine hB _ ?_
    clear hB B
    simp [c1, c2, c3, c1', c2', c3', Nat.not_lt.2 c1, Nat.not_lt.2 c2, Nat.not_lt.2 c3]
    refine k2 _ ?_
    refine AW.cond false (by simp [Int.natCast_inj]) (fun h => by cases h) (fun _ => ?_)
    refine AW.skip ?_
    simp
    refine k1 _ ?_
    refine AW.seq fun _ k1 => AW.regionAt 3 [] Θ_ok fun B hB => ?_
    simp
    refine sS.use (by simp [G.av]) ?_
    refine hB _ ?_
    clear hB B
    simp
    refine k1 _ ?_
    refine AW.seq fun _ k1 => ?_
    refine AW.seq fun _ k2 => AW.region [] Θ_ok ?_
    simp [lW, hlP]
    refine k2 _ ?_
    refine AW.cond false (by simp [Int.natCast_inj]) (fun h => by cases h) (fun _ => ?_)
    refine AW.skip ?_
    simp
    refine k1 _ ?_
    refine AW.seq fun _ k1 => AW.draw [] 12 [] Θ_ok mixed (by kernel_rfl) (by kernel_rfl) ?_
    refine vcDraw_split 5 fun B hB => ?_
    simp [vcPre, vcTail, callA, isAlloc, isLoad, effOp, obl, obA, mkOK, valA]
    refine ⟨_, wx.wk (by simp [G.av]), ?_⟩
    refine hB _ _ _ ?_
    clear hB B
    refine vcPre_split 5 fun B hB => ?_
    simp [vcPre, vcTail, callA, isAlloc, isLoad, effOp, obl, obA, mkOK, valA]
    refine ⟨_, wy.wk (by simp [G.av]), ?_⟩
    refine hB _ _ _ ?_
    clear hB B
    simp [vcPre, vcTail, callA, isAlloc, isLoad, effOp, obl, obA, mkOK, valA]
    refine k1 _ ?_
    refine AW.seq fun _ k1 => AW.region [] Θ_ok ?_
    simp
    refine k1 _ ?_
    refine AW.seq fun _ k1 => ?_
    refine AW.seq fun _ k2 => AW.region [] Θ_ok ?_
    simp
    refine k2 _ ?_
    refine AW.block ?_
    refine AW.loopI (X := Nat) (fun i => i ≤ W.length) (fun i => ⟨112, [(4, .ro false (bools from_)), (11, .ro true (ints W)), (13, .bool x), (14, .bool y), (15, .bool (anF from_ i)), (65, .int .i64 W.length), (66, .int .i64 i)], h⟩) (fun i => W.length - i) 0 (Nat.zero_le _) (GStep.eq (by simp [anF]) (subH.refl _)) fun i hi => ?_
    refine AW.seq fun _ k2 => AW.region [] Θ_ok ?_
    simp
    refine k2 _ ?_
    by_cases hlt : i < W.length
    · have inc := wrap_succ (show i < 9223372036854775807 by omega)
      have st := anF_step from_ i
      have sI := has_r9 from_ i
      have hXi := fun q => hX q i hlt
      have hYi := fun q => hY q i hlt
      refine AW.seq fun _ k2 => AW.cond true (by simp [Int.natCast_inj, hlt]) (fun _ => ?_) (fun h => by cases h)
      refine AW.skip ?_
      simp
      refine k2 _ ?_
      refine AW.seq fun _ k2 => ?_
      refine AW.block ?_
      refine AW.seq fun _ k3 => AW.region [] Θ_ok ?_
      simp
      refine k3 _ ?_
      refine AW.seq fun _ k3 => ?_
      refine AW.seq fun _ k4 => AW.regionAt 3 [] Θ_ok fun B hB => ?_
      simp
      refine sI.use (by simp) ?_
      refine hB _ ?_
      clear hB B
      simp
      refine k4 _ ?_
      cases hb : hasN from_ i with
      | false =>
        rw [hb, Bool.or_false] at st
        refine AW.cond true (by simp [Int.natCast_inj]) (fun _ => ?_) (fun h => by cases h)
        refine AW.exit ?_
        simp
        refine k2 _ ?_
        refine AW.region [] Θ_ok ?_
        simp
        exact ⟨i + 1, by omega, by omega, GStep.eq (by simp [inc, st]) (subH.refl _)⟩
      | true =>
        rw [hb, Bool.or_true] at st
        rw [hb] at hXi hYi
        refine AW.cond false (by simp [Int.natCast_inj]) (fun h => by cases h) (fun _ => ?_)
        refine AW.skip ?_
        simp
        refine k3 _ ?_
        refine AW.seq fun _ k3 => AW.region [] Θ_ok ?_
        simp
        refine k3 _ ?_
        cases x with
        | true =>
          have q1 := hXi rfl rfl
          cases y with
          | true =>
            have q2 := hYi rfl rfl
            omega
          | false =>
            refine AW.seq fun _ k3 => AW.region [] Θ_ok ?_
            simp [hlt, q1]
            refine k3 _ ?_
            refine AW.cond false (by simp [Int.natCast_inj]) (fun h => by cases h) (fun _ => ?_)
            refine AW.skip ?_
            simp
            refine k2 _ ?_
            refine AW.region [] Θ_ok ?_
            simp
            exact ⟨i + 1, by omega, by omega, GStep.eq (by simp [inc, st]) (subH.refl _)⟩
        | false =>
          cases y with
          | true =>
            have q2 := hYi rfl rfl
            refine AW.seq fun _ k3 => AW.region [] Θ_ok ?_
            simp [hlt, q2]
            refine k3 _ ?_
            refine AW.cond false (by simp [Int.natCast_inj]) (fun h => by cases h) (fun _ => ?_)
            refine AW.skip ?_
            simp
            refine k2 _ ?_
            refine AW.region [] Θ_ok ?_
            simp
            exact ⟨i + 1, by omega, by omega, GStep.eq (by simp [inc, st]) (subH.refl _)⟩
          | false =>
            refine AW.seq fun _ k3 => AW.region [] Θ_ok ?_
            simp [hlt]
            refine k3 _ ?_
            refine AW.cond false (by simp [Int.natCast_inj]) (fun h => by cases h) (fun _ => ?_)
            refine AW.skip ?_
            simp
            refine k2 _ ?_
            refine AW.region [] Θ_ok ?_
            simp
            exact ⟨i + 1, by omega, by omega, GStep.eq (by simp [inc, st]) (subH.refl _)⟩
    · obtain rfl : i = W.length := by omega
      generalize anF from_ W.length = an at *
      refine AW.seq fun _ k2 => AW.cond false (by simp [Int.natCast_inj]) (fun h => by cases h) (fun _ => ?_)
      refine AW.exit ?_
      simp
      refine k1 _ ?_
      cases an with
      | true =>
        have q := hAny rfl
        cases x with
        | true =>
          cases y with
          | true => exact absurd ⟨rfl, rfl⟩ q
          | false =>
            refine AW.seq fun _ kr => AW.regionAt 19 [] Θ_ok fun B hB => ?_
            simp
            refine sA.use (by simp) ?_
            refine hB _ ?_
            clear hB B
            simp
            refine kr _ (AW.ret ?_)
            simp [Try.f9]
            exact Fin.refl ⟨rfl, rfl⟩
        | false =>
          cases y with
          | true =>
            refine AW.seq fun _ kr => AW.regionAt 19 [] Θ_ok fun B hB => ?_
            simp
            refine sA.use (by simp) ?_
            refine hB _ ?_
            clear hB B
            simp
            refine kr _ (AW.ret ?_)
            simp [Try.f9]
            exact Fin.refl ⟨rfl, rfl⟩
          | false =>
            refine AW.seq fun _ kr => AW.regionAt 19 [] Θ_ok fun B hB => ?_
            simp
            refine sA.use (by simp) ?_
            refine hB _ ?_
            clear hB B
            simp
            refine kr _ (AW.ret ?_)
            simp [Try.f9]
            exact Fin.refl ⟨rfl, rfl⟩
      | false =>
        obtain ⟨rfl, rfl⟩ := hNo rfl
        refine AW.seq fun _ kr => AW.regionAt 19 [] Θ_ok fun B hB => ?_
        simp
        refine sA.use (by simp) ?_
        refine hB _ ?_
        clear hB B
        simp
        refine kr _ (AW.ret ?_)
        simp [Try.f9]
        exact Fin.refl ⟨rfl, rfl⟩
  · by_cases hm : mayP g P = true
    · rw [hm] at sM
      have hno : ¬ (ta.length ≤ 300 ∧ tb.length ≤ 300 ∧ from_.length ≤ 300) := fun q => hall ⟨hm, q⟩
      by_cases c1 : ta.length ≤ 300
      · have c1' : ¬ (300 : Int) < (ta.length : Int) := by omega
        by_cases c2 : tb.length ≤ 300
        · have c2' : ¬ (300 : Int) < (tb.length : Int) := by omega
          have c3 : 300 < from_.length := by
            have : ¬ from_.length ≤ 300 := fun q => hno ⟨c1, c2, q⟩
            omega
          have c3' : (300 : Int) < (from_.length : Int) := by omega
          refine AW.seq fun _ k2 => AW.regionAt 3 [] Θ_ok fun B hB => ?_
          simp
          refine sH.use (by simp [G.av]) ?_
          refine hB _ ?_
          clear hB B
          refine vcOps_split 5 fun B hB => ?_
          simp [h1, h1']
          refine sM.use (by simp [G.av]) ?_
          refine hB _ ?_
          clear hB B
          simp [c1, c2, c3, c1', c2', c3', Nat.not_lt.2 c1, Nat.not_lt.2 c2]
          refine k2 _ ?_
          refine AW.cond true (by simp [Int.natCast_inj]) (fun _ => ?_) (fun h => by cases h)
          refine AW.seq fun _ kr => AW.region [] Θ_ok ?_
          simp
          refine sA.use (by simp) ?_
          refine kr _ (AW.ret ?_)
          simp [Try.f9]
          exact Fin.refl ⟨rfl, rfl⟩
        · have c2'' : 300 < tb.length := by omega
          have c2' : (300 : Int) < (tb.length : Int) := by omega
          refine AW.seq fun _ k2 => AW.regionAt 3 [] Θ_ok fun B hB => ?_
          simp
          refine sH.use (by simp [G.av]) ?_
          refine hB _ ?_
          clear hB B
          refine vcOps_split 5 fun B hB => ?_
          simp [h1, h1']
          refine sM.use (by simp [G.av]) ?_
          refine hB _ ?_
          clear hB B
          simp [c1, c2'', c1', c2', Nat.not_lt.2 c1]
          refine k2 _ ?_
          refine AW.cond true (by simp [Int.natCast_inj]) (fun _ => ?_) (fun h => by cases h)
          refine AW.seq fun _ kr => AW.region [] Θ_ok ?_
          simp
          refine sA.use (by simp) ?_
          refine kr _ (AW.ret ?_)
          simp [Try.f9]
          exact Fin.refl ⟨rfl, rfl⟩
      · have c1'' : 300 < ta.length := by omega
        have c1' : (300 : Int) < (ta.length : Int) := by omega
        refine AW.seq fun _ k2 => AW.regionAt 3 [] Θ_ok fun B hB => ?_
        simp
        refine sH.use (by simp [G.av]) ?_
        refine hB _ ?_
        clear hB B
        refine vcOps_split 5 fun B hB => ?_
        simp [h1, h1']
        refine sM.use (by simp [G.av]) ?_
        refine hB _ ?_
        clear hB B
        simp [c1'', c1']
        refine k2 _ ?_
        refine AW.cond true (by simp [Int.natCast_inj]) (fun _ => ?_) (fun h => by cases h)
        refine AW.seq fun _ kr => AW.region [] Θ_ok ?_
        simp
        refine sA.use (by simp) ?_
        refine kr _ (AW.ret ?_)
        simp [Try.f9]
        exact Fin.refl ⟨rfl, rfl⟩
    · rw [show mayP g P = false by simpa using hm] at sM
      refine AW.seq fun _ k2 => AW.regionAt 3 [] Θ_ok fun B hB => ?_
      simp
      refine sH.use (by simp [G.av]) ?_
      refine hB _ ?_
      clear hB B
      refine vcOps_split 5 fun B hB => ?_
      simp [h1, h1']
      refine sM.use (by simp [G.av]) ?_
      refine hB _ ?_
      clear hB B
      simp
      refine k2 _ ?_
      refine AW.cond true (by simp [Int.natCast_inj]) (fun _ => ?_) (fun h => by cases h)
      refine AW.seq fun _ kr => AW.region [] Θ_ok ?_
      simp
      refine sA.use (by simp) ?_
      refine kr _ (AW.ret ?_)
      simp [Try.f9]
      exact Fin.refl ⟨rfl, rfl⟩
end Go.Par
