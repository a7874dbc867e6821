import Derived.Test.YtlpfokngocdanaaAtF
import Derived.Test.YtlpfokngocdanaaAtH
set_option linter.unusedSimpArgs false
set_option linter.unusedVariables false
set_option maxRecDepth 8000
set_option maxHeartbeats 1000000
namespace Go.Par
open Go.Proofs

def rv (R : List Int) (v : Nat) : Int := R.getD v 0
structure WS where
  v : Nat
  i : Nat

theorem law_AttractWalk (g : G) (hg : g.wide) (p : Int) (_ : DK.fits .int p) (a : List Bool) (_ : (DK.sl .bool).fits a) (q : Int) (_ : DK.fits .int q) (wk : List Int) (_ : (DK.sl .int).fits wk) : Pure Try.prog 3 [g.av, .int .i64 p, .ro false (bools a), .int .i64 q, .ro false (ints wk)] (.bool true) := by
  have hf := hg.f
  have sl := l12_light g hf a
  have hlb : light12 g a = true → a.length ≤ 300 := fun h => by
    simp only [light12, Bool.and_eq_true, decide_eq_true_eq] at h; exact h.2
  generalize light12 g a = lb at *
  intro h
  refine AC.body Θ_ok Try.func3 rfl rfl (Nat.le_of_ble_eq_true rfl) ?_
  refine AW.seq fun _ k1 => AW.region [] Θ_ok ?_
  simp
  refine k1 _ ?_
  by_cases hall : lb = true ∧ mayE g = 0 ∧ 0 < g.owner.length ∧ wk.length ≤ 200
  · obtain ⟨rfl, hm, hn0, hwk⟩ := hall
    have ha3 := hlb rfl
    have hn3 := (may_ok hm).1
    have hn2 := (may_ok hm).2.1
    have z1 : ¬ g.owner = [] := by intro e; rw [e] at hn0; simp at hn0
    have z2 : ¬ (g.owner.length : Int) = 0 := by omega
    have z3 : ¬ (200 : Int) < (wk.length : Int) := by omega
    have z4 : (wk.length : Int) ≤ 200 := by omega
    refine AW.seq fun _ k1 => ?_
    refine AW.seq fun _ k2 => AW.regionAt 3 [] Θ_ok fun B hB => ?_
    simp
    refine sl.use (by simp [G.av]) ?_
    refine hB _ ?_
    clear hB B
    refine vcOps_split 4 fun B hB => ?_
    simp
    refine (r9_May g hf).use (by simp [G.av]) ?_
    refine hB _ ?_
    clear hB B
    simp [hm, z1, z2, z3, z4, hwk]
    refine k2 _ ?_
    refine AW.cond false (by simp [Int.natCast_inj, z1, z2]) (fun h => by cases h) (fun _ => ?_)
    refine AW.skip ?_
    simp
    refine k1 _ ?_
    refine AW.seq fun _ k1 => AW.region [] Θ_ok ?_
    simp
    refine k1 _ ?_
    have hw := who2_cases p
    change AW _ _ _ ⟨_, (1, .int .i64 (who2 p)) :: _, _⟩
    generalize who2 p = W at hw
    have hok : okP g W := ⟨hm, hw⟩
    obtain ⟨v0, hv0, hu1⟩ := mod_nat q hn0 (by omega)
    have hu2 := wrap_u64_nat' (show g.owner.length < 9223372036854775808 by omega)
    refine AW.seq fun _ k1 => AW.region [] Θ_ok ?_
    simp [hu2, hu1, z1, z2]
    refine k1 _ ?_
    have sR := attract_Ranks g hf W a (by omega)
    have sW := attract_Ways g hf W a (by omega)
    rw [ranksA_eq, if_pos hok] at sR
    rw [awayA, if_pos hok, awayL] at sW
    have IR := isRk (g := g) (who := W) (a := a) hm
    generalize ranksL g W a = R at *
    have lR := IR.len
    have lW : (awaysR g W R).length = g.owner.length := length_tab _ _
    have hway := fun v (hv : v < g.owner.length) (h1 : 1 ≤ R.getD v 0) (ho : ow g v = W) => way_some hm IR hv h1 ho
    generalize awaysR g W R = Y at *
    refine AW.seq fun _ k1 => AW.draw [] 10 [] Θ_ok mixed (by kernel_rfl) (by kernel_rfl) ?_
    simp [vcDraw, vcPre, vcTail, callA, isAlloc, isLoad, effOp, obl, obA, mkOK, valA]
    refine ⟨_, sR.wk (by simp [G.av]), ?_⟩
    try simp
    refine ⟨_, sW.wk (by simp [G.av]), ?_⟩
    try simp
    refine k1 _ ?_
    refine AW.seq fun _ k1 => ?_
    refine AW.seq fun _ k2 => AW.region [] Θ_ok ?_
    simp [lR, lW]
    refine k2 _ ?_
    refine AW.cond false (by simp [Int.natCast_inj]) (fun h => by cases h) (fun _ => ?_)
    refine AW.skip ?_
    simp
    refine k1 _ ?_
    have hvR : v0 < R.length := by omega
    have er0 : R.getD v0 0 = R[v0] := by simp [hvR]
    refine AW.seq fun _ k1 => ?_
    refine AW.seq fun _ k2 => AW.region [] Θ_ok ?_
    simp [hvR]
    refine k2 _ ?_
    by_cases c0 : R[v0] < 0
    · refine AW.cond true (by simp [Int.natCast_inj, c0]) (fun _ => ?_) (fun h => by cases h)
      refine AW.seq fun _ kr => AW.region [] Θ_ok ?_
      simp
      refine (l12_awake).use (by simp [G.av]) ?_
      try simp
      refine kr _ (AW.ret ?_)
      simp [Try.f3]
      exact Fin.refl ⟨rfl, rfl⟩
    have hhi := IR.hi v0 hv0
    rw [er0] at hhi
    obtain ⟨r0, hr0⟩ : ∃ r0 : Nat, R[v0] = r0 := ⟨R[v0].toNat, by omega⟩
    have c0' : 0 ≤ R[v0] := by omega
    have winc : IntKind.i64.wrap (R[v0] + 1) = ((r0 + 1 : Nat) : Int) := by rw [hr0]; exact wrap_succ (by omega)
    refine AW.cond false (by simp [Int.natCast_inj, c0, c0']) (fun h => by cases h) (fun _ => ?_)
    refine AW.skip ?_
    simp
    refine k1 _ ?_
    refine AW.seq fun _ k1 => ?_
    obtain ⟨r1, hr1⟩ : ∃ r1, r1 = r0 + 1 := ⟨_, rfl⟩
    rw [← hr1] at winc
    refine AW.seq fun _ k2 => AW.region [] Θ_ok ?_
    simp [hvR, winc]
    refine k2 _ ?_
    refine AW.block ?_
    refine AW.loopI (X := WS) (fun z => z.v < g.owner.length ∧ 0 ≤ rv R z.v ∧ rv R z.v + z.i ≤ r0) (fun z => ⟨146, [(1, .int .i64 W), (2, .ro false (bools a)), (3, .int .i64 z.v), (4, .ro false (ints wk)), (5, .rop [.ro false (ints g.owner), .ro false (rows g.next)]), (11, .ro true (ints R)), (12, .ro true (ints Y)), (80, .int .i64 r1), (81, .int .i64 z.i)], h⟩) (fun z => r1 - z.i) ⟨v0, 0⟩ ⟨hv0, by simp only [rv]; rw [er0]; omega, by simp only [rv]; rw [er0]; omega⟩ (GStep.eq (by simp) (subH.refl _)) ?_
    rintro ⟨v, i⟩ ⟨hv, hr, hi⟩
    simp only at hv hr hi ⊢
    have hlt : i < r1 := by omega
    have inc := wrap_succ (show i < 9223372036854775807 by omega)
    have hvR : v < R.length := by omega
    have hvY : v < Y.length := by omega
    have hvn : v < g.next.length := by omega
    have er : R.getD v 0 = R[v] := by simp [hvR]
    have er' : rv R v = R[v] := er
    have eo : ow g v = g.owner[v] := by simp [ow, hv]
    have en : nx g v = g.next[v] := by simp [nx, hvn]
    have ey : Y.getD v 0 = Y[v] := by simp [hvY]
    have hz := IR.zero v hv
    have hopp := IR.opp v hv
    have hwv := hway v hv
    have hnx := (nx_ok hm hv).2
    rw [er] at hz hopp hwv
    rw [er'] at hr hi
    rw [eo, en] at hopp
    rw [eo, ey, en] at hwv
    have hopp : 1 ≤ R[v] → g.owner[v] ≠ W → ∀ w ∈ g.next[v], 0 ≤ rv R w.toNat ∧ rv R w.toNat < R[v] := hopp
    have hwv : 1 ≤ R[v] → g.owner[v] = W → ∃ u : Nat, Y[v] = u ∧ u < g.owner.length ∧ (u : Int) ∈ g.next[v] ∧ 0 ≤ rv R u ∧ rv R u + 1 = R[v] := hwv
    rw [en] at hnx
    clear hway sR sW IR
    refine AW.seq fun _ k2 => AW.region [] Θ_ok ?_
    simp
    refine k2 _ ?_
    refine AW.seq fun _ k2 => AW.cond true (by simp [Int.natCast_inj, hlt]) (fun _ => ?_) (fun h => by cases h)
    refine AW.skip ?_
    simp
    refine k2 _ ?_
    refine AW.seq fun _ k2 => ?_
    refine AW.block ?_
    refine AW.seq fun _ k3 => AW.region [] Θ_ok ?_
    simp
    refine k3 _ ?_
    have ea : (decide (0 ≤ (v : Int)) && hasI a (v : Int)) = hasN a v := by simp
    have sH := r9_Has a v
    rw [ea] at sH
    refine AW.seq fun _ k3 => ?_
    refine AW.seq fun _ k4 => AW.regionAt 3 [] Θ_ok fun B hB => ?_
    simp
    refine sH.use (by simp) ?_
    cases hb : hasN a v
    · have h1 : 1 ≤ R[v] := by
        have : R[v] ≠ 0 := fun e => by rw [hz.1 e] at hb; cases hb
        omega
      have hopp := hopp h1
      have hwv := hwv h1
      refine hB _ ?_
      clear hB B
      simp
      refine k4 _ ?_
      refine AW.cond false (by simp [Int.natCast_inj]) (fun h => by cases h) (fun _ => ?_)
      refine AW.skip ?_
      simp
      refine k3 _ ?_
      refine AW.seq fun _ k3 => AW.region [] Θ_ok ?_
      simp [hvn]
      refine k3 _ ?_
      refine AW.seq fun _ k3 => ?_
      refine AW.seq fun _ k4 => AW.region [] Θ_ok ?_
      simp [hv]
      refine k4 _ ?_
      by_cases ho : g.owner[v] = W
      · refine AW.cond false (by simp [Int.natCast_inj, ho]) (fun h => by cases h) (fun _ => ?_)
        refine AW.skip ?_
        simp
        refine k3 _ ?_
        obtain ⟨u, hu, hun, _, hu0, hu1⟩ := hwv ho
        have huY : (u : Int) < (R.length : Int) := by omega
        have hi3 : ¬ (g.owner.length : Int) < (i : Int) := by omega
        have hi4 : (i : Int) ≤ (g.owner.length : Int) := by omega
        have y1 : ¬ (u : Int) < 0 := by omega
        have y2 : ¬ (R.length : Int) ≤ (u : Int) := by omega
        have y3 : u < R.length := by omega
        have y4 : ¬ R.length ≤ u := by omega
        have y5 : i ≤ g.owner.length := by omega
        have y6 : ¬ g.owner.length < i := by omega
        refine AW.seq fun _ k3 => ?_
        refine AW.seq fun _ k4 => AW.region [] Θ_ok ?_
        simp [hvY, hu, y1, y2, y3, y4, huY]
        refine k4 _ ?_
        refine AW.cond false (by simp [Int.natCast_inj, y1, y2, y3, y4, huY]) (fun h => by cases h) (fun _ => ?_)
        refine AW.skip ?_
        simp
        refine k3 _ ?_
        refine AW.seq fun _ k3 => AW.region [] Θ_ok ?_
        simp [hvY, hu]
        refine k3 _ ?_
        refine AW.seq fun _ k3 => AW.region [] Θ_ok ?_
        simp [hi3, hi4, y5, y6]
        refine k3 _ ?_
        refine AW.cond false (by simp [Int.natCast_inj, hi3, hi4, y5, y6]) (fun h => by cases h) (fun _ => ?_)
        refine AW.skip ?_
        simp
        refine k2 _ ?_
        refine AW.region [] Θ_ok ?_
        simp
        exact ⟨⟨u, i + 1⟩, ⟨hun, hu0, by simp only; omega⟩, by simp only; omega, GStep.eq (by simp [inc]) (subH.refl _)⟩
      · have hopp := hopp ho
        refine AW.cond true (by simp [Int.natCast_inj, ho]) (fun _ => ?_) (fun h => by cases h)
        refine AW.seq fun _ k4 => ?_
        refine AW.seq fun _ k5 => AW.region [] Θ_ok ?_
        simp
        refine k5 _ ?_
        by_cases hl : g.next[v] = []
        · have hl2 : ((g.next[v].length : Nat) : Int) = 0 := by rw [hl]; rfl
          refine AW.cond true (by simp [Int.natCast_inj, hl, hl2]) (fun _ => ?_) (fun h => by cases h)
          refine AW.seq fun _ kr => AW.region [] Θ_ok ?_
          simp
          refine (l12_awake).use (by simp [G.av]) ?_
          try simp
          refine kr _ (AW.ret ?_)
          simp [Try.f3]
          exact Fin.refl ⟨rfl, rfl⟩
        · have hl2 : 0 < g.next[v].length := List.length_pos_iff.2 hl
          have hl3 : ¬ ((g.next[v].length : Nat) : Int) = 0 := by omega
          have hl4 : g.next[v].length ≤ 17592186044416 := hf.row _ (List.getElem_mem _)
          have hu4 := wrap_u64_nat' (show g.next[v].length < 9223372036854775808 by omega)
          have fin : ∀ pk : Int, ∃ y : Nat, y < g.next[v].length ∧ IntKind.i64.wrap ((IntKind.u64.wrap pk).tmod (g.next[v].length : Int)) = y := fun pk => mod_nat pk hl2 (by omega)
          have fin2 : ∀ y (h : y < g.next[v].length), ∃ u : Nat, g.next[v][y] = u ∧ u < g.owner.length ∧ 0 ≤ rv R u ∧ rv R u < R[v] := by
            intro y h
            obtain ⟨u0, u1⟩ := hnx _ (List.getElem_mem h)
            obtain ⟨q1, q2⟩ := hopp _ (List.getElem_mem h)
            exact ⟨(g.next[v][y]).toNat, by omega, by omega, q1, q2⟩
          refine AW.cond false (by simp [Int.natCast_inj, hl, hl3]) (fun h => by cases h) (fun _ => ?_)
          refine AW.skip ?_
          simp
          refine k4 _ ?_
          refine AW.seq fun _ k4 => AW.region [] Θ_ok ?_
          simp
          refine k4 _ ?_
          refine AW.seq fun _ k4 => ?_
          refine AW.seq fun _ k5 => AW.region [] Θ_ok ?_
          simp
          refine k5 _ ?_
          by_cases hiw : i < wk.length
          · obtain ⟨y, hy, hy2⟩ := fin wk[i]
            obtain ⟨u, hu, hun, q1, q2⟩ := fin2 y hy
            refine AW.cond true (by simp [Int.natCast_inj, hiw]) (fun _ => ?_) (fun h => by cases h)
            refine AW.region [] Θ_ok ?_
            simp [hiw]
            refine k4 _ ?_
            refine AW.seq fun _ k4 => AW.region [] Θ_ok ?_
            simp [hu4, hy2, hl, hl3, hy, hu]
            refine k4 _ ?_
            refine AW.exit ?_
            simp
            refine k2 _ ?_
            refine AW.region [] Θ_ok ?_
            simp
            exact ⟨⟨u, i + 1⟩, ⟨hun, q1, by simp only; omega⟩, by simp only; omega, GStep.eq (by simp [inc]) (subH.refl _)⟩
          · obtain ⟨y, hy, hy2⟩ := fin 0
            obtain ⟨u, hu, hun, q1, q2⟩ := fin2 y hy
            refine AW.cond false (by simp [Int.natCast_inj, hiw]) (fun h => by cases h) (fun _ => ?_)
            refine AW.skip ?_
            simp
            refine k4 _ ?_
            refine AW.seq fun _ k4 => AW.region [] Θ_ok ?_
            simp [hu4, hy2, hl, hl3, hy, hu]
            refine k4 _ ?_
            refine AW.exit ?_
            simp
            refine k2 _ ?_
            refine AW.region [] Θ_ok ?_
            simp
            exact ⟨⟨u, i + 1⟩, ⟨hun, q1, by simp only; omega⟩, by simp only; omega, GStep.eq (by simp [inc]) (subH.refl _)⟩
    · refine hB _ ?_
      clear hB B
      simp
      refine k4 _ ?_
      refine AW.cond true (by simp [Int.natCast_inj]) (fun _ => ?_) (fun h => by cases h)
      refine AW.seq fun _ kr => AW.region [] Θ_ok ?_
      simp
      refine (l12_awake).use (by simp [G.av]) ?_
      try simp
      refine kr _ (AW.ret ?_)
      simp [Try.f3]
      exact Fin.refl ⟨rfl, rfl⟩
  · have hbad : lb = false ∨ (lb = true ∧ ¬ mayE g = 0) ∨ (lb = true ∧ mayE g = 0 ∧ g.owner = []) ∨ (lb = true ∧ mayE g = 0 ∧ g.owner ≠ [] ∧ 200 < wk.length) := by
      cases lb with
      | false => exact .inl rfl
      | true =>
        by_cases b2 : mayE g = 0
        · by_cases b3 : g.owner = []
          · exact .inr (.inr (.inl ⟨rfl, b2, b3⟩))
          · refine .inr (.inr (.inr ⟨rfl, b2, b3, ?_⟩))
            have := List.length_pos_iff.2 b3
            by_cases b4 : wk.length ≤ 200
            · exact absurd ⟨rfl, b2, this, b4⟩ hall
            · omega
        · exact .inr (.inl ⟨rfl, b2⟩)
    rcases hbad with rfl | ⟨rfl, b2⟩ | ⟨rfl, b2, b3⟩ | ⟨rfl, b2, b3, b4⟩
    · refine AW.seq fun _ k1 => ?_
      refine AW.seq fun _ k2 => AW.regionAt 3 [] Θ_ok fun B hB => ?_
      simp
      refine sl.use (by simp [G.av]) ?_
      refine hB _ ?_
      clear hB B
      simp
      refine k2 _ ?_
      refine AW.cond true (by simp [Int.natCast_inj]) (fun _ => ?_) (fun h => by cases h)
      refine AW.seq fun _ kr => AW.region [] Θ_ok ?_
      simp
      refine (l12_awake).use (by simp [G.av]) ?_
      try simp
      refine kr _ (AW.ret ?_)
      simp [Try.f3]
      exact Fin.refl ⟨rfl, rfl⟩
    · refine AW.seq fun _ k1 => ?_
      refine AW.seq fun _ k2 => AW.regionAt 3 [] Θ_ok fun B hB => ?_
      simp
      refine sl.use (by simp [G.av]) ?_
      refine hB _ ?_
      clear hB B
      refine vcOps_split 4 fun B hB => ?_
      simp
      refine (r9_May g hf).use (by simp [G.av]) ?_
      refine hB _ ?_
      clear hB B
      simp [b2]
      refine k2 _ ?_
      refine AW.cond true (by simp [Int.natCast_inj, b2]) (fun _ => ?_) (fun h => by cases h)
      refine AW.seq fun _ kr => AW.region [] Θ_ok ?_
      simp
      refine (l12_awake).use (by simp [G.av]) ?_
      try simp
      refine kr _ (AW.ret ?_)
      simp [Try.f3]
      exact Fin.refl ⟨rfl, rfl⟩
    · have b4 : ((g.owner.length : Nat) : Int) = 0 := by rw [b3]; rfl
      refine AW.seq fun _ k1 => ?_
      refine AW.seq fun _ k2 => AW.regionAt 3 [] Θ_ok fun B hB => ?_
      simp
      refine sl.use (by simp [G.av]) ?_
      refine hB _ ?_
      clear hB B
      refine vcOps_split 4 fun B hB => ?_
      simp
      refine (r9_May g hf).use (by simp [G.av]) ?_
      refine hB _ ?_
      clear hB B
      simp [b2, b3, b4]
      refine k2 _ ?_
      refine AW.cond true (by simp [Int.natCast_inj, b3, b4]) (fun _ => ?_) (fun h => by cases h)
      refine AW.seq fun _ kr => AW.region [] Θ_ok ?_
      simp
      refine (l12_awake).use (by simp [G.av]) ?_
      try simp
      refine kr _ (AW.ret ?_)
      simp [Try.f3]
      exact Fin.refl ⟨rfl, rfl⟩
    · have b5 : (200 : Int) < (wk.length : Int) := by omega
      have b6 : ¬ ((g.owner.length : Nat) : Int) = 0 := by have := List.length_pos_iff.2 b3; omega
      refine AW.seq fun _ k1 => ?_
      refine AW.seq fun _ k2 => AW.regionAt 3 [] Θ_ok fun B hB => ?_
      simp
      refine sl.use (by simp [G.av]) ?_
      refine hB _ ?_
      clear hB B
      refine vcOps_split 4 fun B hB => ?_
      simp
      refine (r9_May g hf).use (by simp [G.av]) ?_
      refine hB _ ?_
      clear hB B
      simp [b2, b3, b4, b5, b6]
      refine k2 _ ?_
      refine AW.cond true (by simp [Int.natCast_inj, b4, b5]) (fun _ => ?_) (fun h => by cases h)
      refine AW.seq fun _ kr => AW.region [] Θ_ok ?_
      simp
      refine (l12_awake).use (by simp [G.av]) ?_
      try simp
      refine kr _ (AW.ret ?_)
      simp [Try.f3]
      exact Fin.refl ⟨rfl, rfl⟩
end Go.Par
