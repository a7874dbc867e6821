import Derived.Test.YtmmfdmhjkcbobaaPhA
import Derived.Test.YtmmfdmhjkcbobaaPhB
import Derived.Test.YtmmfdmhjkcbobaaPyD
import Derived.Test.YtmmfdmhjkcbobaaRkD
set_option linter.unusedSimpArgs false
set_option linter.unusedVariables false
set_option maxRecDepth 8000
set_option maxHeartbeats 1000000
namespace Go.Par
open Go.Proofs

def RQ (a b c : Nat) (X Y : List Int) (Z : List Bool) : List (Nat × Ob) := [(c, obB Z), (b, obI Y), (a, obI X)]
def RQH (h : Heap) (a b c : Nat) (X Y : List Int) (Z : List Bool) : Heap := HL h (RQ a b c X Y Z)
abbrev RQN (h : Heap) (a b c : Nat) : Prop := HN h [c, b, a]
section
variable {h : Heap} {a b c : Nat} (N : RQN h a b c) (X Y : List Int) (Z : List Bool)
include N
theorem RQH.gc : RQH h a b c X Y Z c = some (obB Z) := HL.at (k := 0) N.nd rfl
theorem RQH.gb : RQH h a b c X Y Z b = some (obI Y) := HL.at (k := 1) N.nd rfl
theorem RQH.ga : RQH h a b c X Y Z a = some (obI X) := HL.at (k := 2) N.nd rfl
theorem RQH.putC (Z' : List Bool) : upd (RQH h a b c X Y Z) c (some (obB Z')) = RQH h a b c X Y Z' := HL.put (k := 0) N.nd rfl
theorem RQH.putB (Y' : List Int) : upd (RQH h a b c X Y Z) b (some (obI Y')) = RQH h a b c X Y' Z := HL.put (k := 1) N.nd rfl
theorem RQH.putA (X' : List Int) : upd (RQH h a b c X Y Z) a (some (obI X')) = RQH h a b c X' Y Z := HL.put (k := 2) N.nd rfl
end
theorem pY_skip {n x : Nat} {f : Nat → Int} (h : f x = 0) : pY n x f = pY n (x + 1) f := tab_congr fun v _ => by
  by_cases e : v = x
  · subst e; simp [h]
  · by_cases k : v < x
    · simp [k, show v < x + 1 by omega]
    · simp [k, show ¬ v < x + 1 by omega]
def zB (n : Nat) (s : List Bool) (x : Nat) : List Bool := tab n fun v => decide (v < x) && !hasN s v
theorem zB_len (n : Nat) (s : List Bool) (x : Nat) : (zB n s x).length = n := length_tab _ _
theorem zB_set (n : Nat) (s : List Bool) (x : Nat) : (zB n s x).set x (!hasN s x) = zB n s (x + 1) := by
  rw [zB, set_tab]
  refine tab_congr fun v _ => ?_
  by_cases e : v = x
  · subst e; simp
  · by_cases h : v < x
    · simp [e, h, show v < x + 1 by omega]
    · simp [e, h, show ¬ v < x + 1 by omega]
theorem zB_full (g : G) (s : List Bool) : zB g.owner.length s g.owner.length = notL g s := tab_congr fun v hv => by simp [hv]

theorem law_ParityRecur (g : G) (hg : g.wide) (s : List Bool) (hs : (DK.sl .bool).fits s) : Pure Try.prog 7 [g.av, .ro false (bools s)] (.bool true) := by
  have hf := hg.f
  have sH := l15_Heavy g hf []
  intro h
  refine AC.body Θ_ok Try.func7 rfl rfl (Nat.le_of_ble_eq_true rfl) ?_
  refine AW.seq fun _ k1 => AW.region [] Θ_ok ?_
  simp
  refine k1 _ ?_
  refine AW.seq fun _ k1 => ?_
  by_cases h1 : 0 < heavy15 g []
  · refine AW.seq fun _ k2 => AW.regionAt 2 [] Θ_ok fun B hB => ?_
    simp
    refine sH.use (by simp [G.av]) ?_
    refine hB _ ?_
    clear hB B
    simp [h1]
    refine k2 _ ?_
    refine AW.cond true (by simp [Int.natCast_inj]) (fun _ => ?_) (fun h => by cases h)
    refine AW.seq fun _ kr => AW.region [] Θ_ok ?_
    simp
    refine (l15_awake).use (by simp [G.av]) ?_
    try simp
    refine kr _ (AW.ret ?_)
    simp [Try.f7]
    exact Fin.refl ⟨rfl, rfl⟩
  have h1' := Int.not_lt.1 h1
  by_cases hm : ¬ mayE g = 0
  · refine AW.seq fun _ k2 => AW.regionAt 2 [] Θ_ok fun B hB => ?_
    simp
    refine sH.use (by simp [G.av]) ?_
    refine hB _ ?_
    clear hB B
    refine vcOps_split 4 fun B hB => ?_
    simp [h1, h1']
    refine (r9_May g hf).use (by simp [G.av]) ?_
    refine hB _ ?_
    clear hB B
    simp [hm]
    refine k2 _ ?_
    refine AW.cond true (by simp [Int.natCast_inj, hm]) (fun _ => ?_) (fun h => by cases h)
    refine AW.seq fun _ kr => AW.region [] Θ_ok ?_
    simp
    refine (l15_awake).use (by simp [G.av]) ?_
    try simp
    refine kr _ (AW.ret ?_)
    simp [Try.f7]
    exact Fin.refl ⟨rfl, rfl⟩
  have hm := Decidable.not_not.1 hm
  by_cases hl : 300 < s.length
  · have hl' : (300 : Int) < (s.length : Int) := by omega
    refine AW.seq fun _ k2 => AW.regionAt 2 [] Θ_ok fun B hB => ?_
    simp
    refine sH.use (by simp [G.av]) ?_
    refine hB _ ?_
    clear hB B
    refine vcOps_split 4 fun B hB => ?_
    simp [h1, h1']
    refine (r9_May g hf).use (by simp [G.av]) ?_
    refine hB _ ?_
    clear hB B
    simp [hm, hl, hl']
    refine k2 _ ?_
    refine AW.cond true (by simp [Int.natCast_inj, hl, hl']) (fun _ => ?_) (fun h => by cases h)
    refine AW.seq fun _ kr => AW.region [] Θ_ok ?_
    simp
    refine (l15_awake).use (by simp [G.av]) ?_
    try simp
    refine kr _ (AW.ret ?_)
    simp [Try.f7]
    exact Fin.refl ⟨rfl, rfl⟩
  have hn := (may_ok hm).1
  have hl' : ¬ (300 : Int) < (s.length : Int) := by omega
  have hl2 : (s.length : Int) ≤ 300 := by omega
  have hl3 : s.length ≤ 300 := by omega
  refine AW.seq fun _ k2 => AW.regionAt 2 [] Θ_ok fun B hB => ?_
  simp
  refine sH.use (by simp [G.av]) ?_
  refine hB _ ?_
  clear hB B
  refine vcOps_split 4 fun B hB => ?_
  simp [h1, h1']
  refine (r9_May g hf).use (by simp [G.av]) ?_
  refine hB _ ?_
  clear hB B
  simp [hm, hl, hl', hl2, hl3]
  refine k2 _ ?_
  refine AW.cond false (by simp [Int.natCast_inj]) (fun h => by cases h) (fun _ => ?_)
  refine AW.skip ?_
  simp
  refine k1 _ ?_
  clear sH hl hl' hl2 h1 h1'
  have e0 : ∀ f, ((List.replicate g.owner.length (AV.int IntKind.i64 0)).flatMap AV.flat) = (pY g.owner.length 0 f).map (AV.int .i64) := fun f => by
    rw [replicate_tab, flat_tab (fun _ _ => rfl), pY_zero]; simp
  refine AW.seq fun _ k1 => AW.draw [33, 37] 10 [] Θ_ok mixed (by kernel_rfl) (by kernel_rfl) ?_
  simp [vcDraw, vcPre, vcTail, callA, isAlloc, isLoad, effOp, obl, obA, mkOK, valA, newA]
  refine ⟨by omega, fun a ha => ⟨by omega, fun b hb => k1 _ ?_⟩⟩
  rw [e0 (twoP 1 s), obI_mk] at hb
  rw [e0 (twoP 1 s), obI_mk]
  have N1 : HN h (nms [(a, obI (pY g.owner.length 0 (twoP 1 s)))]) := HL.new (l := []) ⟨List.nodup_nil, fun o ho => by cases ho⟩ ha
  have N2 : HN h (nms [(b, obI (pY g.owner.length 0 (twoP 0 s))), (a, obI (pY g.owner.length 0 (twoP 1 s)))]) := HL.new (l := [(a, obI (pY g.owner.length 0 (twoP 1 s)))]) N1 hb
  have e10 : pY g.owner.length 0 (twoP 1 s) = pY g.owner.length 0 (twoP 0 s) := by rw [pY_zero, pY_zero]
  have eb : (upd (upd h a (some (obI (pY g.owner.length 0 (twoP 1 s))))) b (some (obI (pY g.owner.length 0 (twoP 1 s))))) = HL h [(b, obI (pY g.owner.length 0 (twoP 0 s))), (a, obI (pY g.owner.length 0 (twoP 1 s)))] := by
    rw [show HL h [(b, obI (pY g.owner.length 0 (twoP 0 s))), (a, obI (pY g.owner.length 0 (twoP 1 s)))] = upd (upd h a (some (obI (pY g.owner.length 0 (twoP 1 s))))) b (some (obI (pY g.owner.length 0 (twoP 0 s)))) from rfl, ← e10]
  rw [eb]
  refine AW.seq fun _ k1 => AW.region [41] Θ_ok ?_
  simp
  refine ⟨by omega, fun c hc => k1 _ ?_⟩
  have N : RQN h a b c := HL.new (l := [(b, obI (pY g.owner.length 0 (twoP 0 s))), (a, obI (pY g.owner.length 0 (twoP 1 s)))]) N2 hc
  have e3 : ((List.replicate g.owner.length (AV.bool false)).flatMap AV.flat) = (zB g.owner.length s 0).map AV.bool := by
    rw [replicate_tab, flat_tab (fun _ _ => rfl), zB]; simp
  rw [e3, obB_mk, show upd (HL h [(b, obI (pY g.owner.length 0 (twoP 0 s))), (a, obI (pY g.owner.length 0 (twoP 1 s)))]) c (some (obB (zB g.owner.length s 0))) = RQH h a b c (pY g.owner.length 0 (twoP 1 s)) (pY g.owner.length 0 (twoP 0 s)) (zB g.owner.length s 0) from rfl]
  clear e3 eb e10 e0 N1 N2 hc ha hb
  refine AW.seq fun _ k1 => ?_
  refine AW.seq fun _ k2 => AW.region [] Θ_ok ?_
  simp
  refine k2 _ ?_
  refine AW.block ?_
  refine AW.loopI (X := Nat) (fun x => x ≤ g.owner.length) (fun x => ⟨126, [(1, .ro false (bools s)), (2, .rop [.ro false (ints g.owner), .ro false (rows g.next)]), (5, .mu a g.owner.length), (6, .mu b g.owner.length), (7, .mu c g.owner.length), (43, .int .i64 g.owner.length), (44, .int .i64 x)], RQH h a b c (pY g.owner.length x (twoP 1 s)) (pY g.owner.length x (twoP 0 s)) (zB g.owner.length s x)⟩) (fun x => g.owner.length - x) 0 (Nat.zero_le _) (GStep.eq (by simp) (subH.refl _)) fun x hx => ?_
  refine AW.seq fun _ k2 => AW.region [] Θ_ok ?_
  simp
  refine k2 _ ?_
  by_cases hlt : x < g.owner.length
  · have inc := wrap_succ (show x < 9223372036854775807 by omega)
    have lX := pY_len g.owner.length x (twoP 1 s)
    have lY := pY_len g.owner.length x (twoP 0 s)
    have lZ := zB_len g.owner.length s x
    have mZ := map_set_bool (zB g.owner.length s x) x (!hasN s x)
    rw [zB_set] at mZ
    have mX := map_set_int (pY g.owner.length x (twoP 1 s)) x 1
    have lX1 : ((pY g.owner.length x (twoP 1 s)).set x 1).length = g.owner.length := by rw [List.length_set]; exact lX
    have mX2 := map_set_int ((pY g.owner.length x (twoP 1 s)).set x 1) x 2
    rw [List.set_set] at mX2
    have mY := map_set_int (pY g.owner.length x (twoP 0 s)) x 1
    have sX := pY_set g.owner.length x (twoP 1 s)
    have sY := pY_set g.owner.length x (twoP 0 s)
    have kY := pY_skip (n := g.owner.length) (x := x) (f := twoP 0 s)
    have fT : hasN s x = true → twoP 1 s x = 2 ∧ twoP 0 s x = 1 := fun q => by simp [twoP, q]
    have fF : hasN s x = false → twoP 1 s x = 1 ∧ twoP 0 s x = 0 := fun q => by simp [twoP, q]
    have ea : (decide (0 ≤ (x : Int)) && hasI s (x : Int)) = hasN s x := by simp
    have sHas := r9_Has s x
    rw [ea] at sHas
    generalize hX2 : pY g.owner.length (x + 1) (twoP 1 s) = X2 at *
    generalize pY g.owner.length x (twoP 1 s) = X1 at *
    generalize hY2 : pY g.owner.length (x + 1) (twoP 0 s) = Y2 at *
    generalize pY g.owner.length x (twoP 0 s) = Y1 at *
    generalize hZ2 : zB g.owner.length s (x + 1) = Z2 at *
    generalize zB g.owner.length s x = Z1 at *
    have gc := RQH.gc N X1 Y1 Z1
    have pC := RQH.putC N X1 Y1 Z1 Z2
    have ga := RQH.ga N X1 Y1 Z2
    obtain ⟨Xa, eXa⟩ : ∃ Xa, Xa = X1.set x 1 := ⟨_, rfl⟩
    obtain ⟨Xb, eXb⟩ : ∃ Xb, Xb = X1.set x 2 := ⟨_, rfl⟩
    obtain ⟨Yb, eYb⟩ : ∃ Yb, Yb = Y1.set x 1 := ⟨_, rfl⟩
    rw [← eXb] at mX2
    rw [← eXa] at mX mX2 lX1
    rw [← eYb] at mY
    have pA := RQH.putA N X1 Y1 Z2 Xa
    have ga2 := RQH.ga N Xa Y1 Z2
    have pA2 := RQH.putA N Xa Y1 Z2 Xb
    have gb := RQH.gb N Xb Y1 Z2
    have pB := RQH.putB N Xb Y1 Z2 Yb
    refine AW.seq fun _ k2 => AW.cond true (by simp [Int.natCast_inj, hlt]) (fun _ => ?_) (fun h => by cases h)
    refine AW.skip ?_
    simp
    refine k2 _ ?_
    refine AW.seq fun _ k2 => ?_
    refine AW.block ?_
    refine AW.seq fun _ k3 => AW.region [] Θ_ok ?_
    simp
    refine k3 _ ?_
    refine AW.seq fun _ k3 => AW.regionAt 5 [] Θ_ok fun B hB => ?_
    simp
    refine sHas.use (by simp) ?_
    refine hB _ ?_
    clear hB B
    simp [hlt, lZ, gc, mZ, obB_mk, pC]
    refine ⟨by omega, k3 _ ?_⟩
    refine AW.seq fun _ k3 => AW.region [] Θ_ok ?_
    simp [hlt, lX, ga, mX, obI_mk, pA]
    refine ⟨by omega, k3 _ ?_⟩
    refine AW.seq fun _ k3 => AW.regionAt 3 [] Θ_ok fun B hB => ?_
    simp
    refine sHas.use (by simp) ?_
    refine hB _ ?_
    clear hB B
    simp
    refine k3 _ ?_
    cases hb : hasN s x with
    | true =>
      obtain ⟨f1, f2⟩ := fT hb
      rw [f1] at sX
      rw [f2] at sY
      refine AW.cond true (by simp [Int.natCast_inj, hb]) (fun _ => ?_) (fun h => by cases h)
      refine AW.region [] Θ_ok ?_
      simp [hlt, lX1, lY, ga2, mX2, obI_mk, pA2, gb, mY, pB]
      refine ⟨by omega, k2 _ ?_⟩
      refine AW.region [] Θ_ok ?_
      simp
      exact ⟨x + 1, by omega, by omega, GStep.eq (by simp [inc]) (subH_of_eq (by rw [eXb, eYb, sX, sY, ← hX2, ← hY2, ← hZ2]))⟩
    | false =>
      obtain ⟨f1, f2⟩ := fF hb
      rw [f1] at sX
      refine AW.cond false (by simp [Int.natCast_inj, hb]) (fun h => by cases h) (fun _ => ?_)
      refine AW.skip ?_
      simp
      refine k2 _ ?_
      refine AW.region [] Θ_ok ?_
      simp
      exact ⟨x + 1, by omega, by omega, GStep.eq (by simp [inc]) (subH_of_eq (by rw [eXa, sX, kY f2, ← hX2, ← hY2, ← hZ2]))⟩
  obtain rfl : x = g.owner.length := by omega
  refine AW.seq fun _ k2 => AW.cond false (by simp [Int.natCast_inj]) (fun h => by cases h) (fun _ => ?_)
  refine AW.exit ?_
  simp
  refine k1 _ ?_
  rw [pY_full, pY_full, zB_full]
  have sol1 := fun v (hv : v < g.owner.length) => two_sol (s := s) hm (.inr rfl) hv
  have sol0 := fun v (hv : v < g.owner.length) => two_sol (s := s) hm (.inl rfl) hv
  have m1 := tab_mayP hm (f := twoP 1 s) fun v _ => by unfold twoP; split <;> omega
  have m0 := tab_mayP hm (f := twoP 0 s) fun v _ => by unfold twoP; split <;> omega
  have ok1 := mayP_ok m1
  have ok0 := mayP_ok m0
  have lW : (winL g (tab g.owner.length (twoP 1 s))).length = g.owner.length := (zfin_spec ok1).2.2.1
  have lU : (winL g (tab g.owner.length (twoP 0 s))).length = g.owner.length := (zfin_spec ok0).2.2.1
  have sW := parity_Solve g hf (tab g.owner.length (twoP 1 s)) (by rw [length_tab]; omega)
  rw [solA, if_pos m1] at sW
  have sU := parity_Solve g hf (tab g.owner.length (twoP 0 s)) (by rw [length_tab]; omega)
  rw [solA, if_pos m0] at sU
  have okA : okP g 1 := ⟨hm, .inr rfl⟩
  have sA := r9_Again g hf 1 s
  rw [agR, if_pos okA] at sA
  have sS := r9_StayOk g hf 1 (notL g s) okA
  have lA : (agL g 1 s).length = g.owner.length := ag_len hm s
  have lS : (stL g 1 (notL g s)).length = g.owner.length := st_len g 1 _
  have eS : ∀ v, v < g.owner.length → hasN (stL g 1 (notL g s)) v = !hasN (agL g 0 s) v := fun v hv => by
    rw [has_st hv, show (1 : Int) - 1 = 0 from rfl, ag_same (a := notL g (notL g s)) (b := s) fun v hv => by rw [has_not hv, has_not hv, Bool.not_not]]
  have hW : ∀ v (h1 : v < (winL g (tab g.owner.length (twoP 1 s))).length) (h2 : v < (agL g 1 s).length), ((winL g (tab g.owner.length (twoP 1 s)))[v] = 1 ↔ (agL g 1 s)[v] = true) := by
    intro v h1 h2
    have := sol1 v (by omega)
    simpa [fI, hasN, h1, h2] using this
  have hU : ∀ v (h1 : v < (winL g (tab g.owner.length (twoP 0 s))).length) (h2 : v < (stL g 1 (notL g s)).length), ((winL g (tab g.owner.length (twoP 0 s)))[v] = 1 ↔ (stL g 1 (notL g s))[v] = true) := by
    intro v h1 h2
    have q := sol0 v (by omega)
    have e := eS v (by omega)
    have w := solve_win ok0 (v := v) (by omega)
    rw [show hasN (stL g 1 (notL g s)) v = (stL g 1 (notL g s))[v] by simp [hasN, h2]] at e
    rw [show fI (winL g (tab g.owner.length (twoP 0 s))) v = (winL g (tab g.owner.length (twoP 0 s)))[v] by simp [fI, h1]] at q w
    rw [e]
    cases c : hasN (agL g 0 s) v with
    | true => rw [c] at q; have := q.2 rfl; rw [this]; decide
    | false =>
      rw [c] at q
      have : ¬ (winL g (tab g.owner.length (twoP 0 s)))[v] = 0 := fun z => by have := q.1 z; cases this
      rcases w with w | w
      · exact absurd w this
      · rw [w]; decide
  clear sol1 sol0 ok1 ok0 m1 m0 eS
  have lP1 : (tab g.owner.length (twoP 1 s)).length = g.owner.length := length_tab _ _
  have lP0 : (tab g.owner.length (twoP 0 s)).length = g.owner.length := length_tab _ _
  have lN : (notL g s).length = g.owner.length := len_not _ _
  generalize winL g (tab g.owner.length (twoP 1 s)) = W at *
  generalize toL g (tab g.owner.length (twoP 1 s)) = W' at *
  generalize winL g (tab g.owner.length (twoP 0 s)) = U at *
  generalize toL g (tab g.owner.length (twoP 0 s)) = U' at *
  generalize stL g 1 (notL g s) = S at *
  generalize agL g 1 s = A at *
  generalize tab g.owner.length (twoP 1 s) = P1 at *
  generalize tab g.owner.length (twoP 0 s) = P0 at *
  generalize notL g s = O at *
  have gc := RQH.gc N P1 P0 O
  have gb := RQH.gb N P1 P0 O
  have ga := RQH.ga N P1 P0 O
  have nd := N.nd
  simp only [List.nodup_cons, List.mem_cons, not_or, List.not_mem_nil, not_false_iff, List.nodup_nil, and_true] at nd
  obtain ⟨⟨n1, n2⟩, n3⟩ := nd
  have fa : h a = none := N.free _ (by simp)
  have fb : h b = none := N.free _ (by simp)
  have fc : h c = none := N.free _ (by simp)
  have hsub : subH h (RQH h a b c P1 P0 O) := HL.sub N
  generalize RQH h a b c P1 P0 O = H at *
  refine AW.freeze 7 true rfl gc (fun _ => rfl) rfl (by simp [lN]) (fun u hu => by obtain ⟨z, _, rfl⟩ := List.mem_map.1 hu; rfl) ?_
  refine AW.freeze 6 true rfl (x := obI P0) (by simp only; rw [upd_ne _ _ (Ne.symm n1)]; exact gb) (fun _ => rfl) rfl (by simp [lP0]) (fun u hu => by obtain ⟨z, _, rfl⟩ := List.mem_map.1 hu; rfl) ?_
  refine AW.freeze 5 true rfl (x := obI P1) (by simp only; rw [upd_ne _ _ (Ne.symm n3), upd_ne _ _ (Ne.symm n2)]; exact ga) (fun _ => rfl) rfl (by simp [lP1]) (fun u hu => by obtain ⟨z, _, rfl⟩ := List.mem_map.1 hu; rfl) ?_
  simp only
  refine AW.ghost (GStep.eq (S := ⟨126, _, _⟩) (tm := [(1, .ro false (bools s)), (2, .rop [.ro false (ints g.owner), .ro false (rows g.next)]), (5, .ro true (ints P1)), (6, .ro true (ints P0)), (7, .ro true (bools O))]) (h := h) (by simp [EqAll]) fun o' x' hx' => ?_) ?_
  · have q1 : o' ≠ a := fun e => by rw [e, fa] at hx'; cases hx'
    have q2 : o' ≠ b := fun e => by rw [e, fb] at hx'; cases hx'
    have q3 : o' ≠ c := fun e => by rw [e, fc] at hx'; cases hx'
    simp only
    rw [upd_ne _ _ q1, upd_ne _ _ q2, upd_ne _ _ q3]
    exact hsub o' x' hx'
  simp only
  clear hsub fa fb fc ga gb gc N n1 n2 n3 H
  refine AW.seq fun _ k1 => AW.regionAt 3 [] Θ_ok fun B hB => ?_
  simp
  refine sW.use (by simp [G.av]) ?_
  refine hB _ ?_
  clear hB B
  simp
  refine k1 _ ?_
  refine AW.seq fun _ k1 => AW.regionAt 3 [] Θ_ok fun B hB => ?_
  simp
  refine sU.use (by simp [G.av]) ?_
  refine hB _ ?_
  clear hB B
  simp
  refine k1 _ ?_
  refine AW.seq fun _ k1 => AW.draw [] 8 [] Θ_ok mixed (by kernel_rfl) (by kernel_rfl) ?_
  refine vcDraw_split 3 fun B hB => ?_
  simp [vcPre, vcTail, callA, isAlloc, isLoad, effOp, obl, obA, mkOK, valA]
  refine ⟨_, sA.wk (by simp [G.av]), ?_⟩
  refine hB _ _ _ ?_
  clear hB B
  refine vcPre_split 3 fun B hB => ?_
  simp [vcPre, vcTail, callA, isAlloc, isLoad, effOp, obl, obA, mkOK, valA]
  refine ⟨_, sS.wk (by simp [G.av]), ?_⟩
  refine hB _ _ _ ?_
  clear hB B
  simp [vcPre, vcTail, callA, isAlloc, isLoad, effOp, obl, obA, mkOK, valA]
  refine k1 _ ?_
  refine AW.seq fun _ k1 => ?_
  refine AW.seq fun _ k2 => AW.region [] Θ_ok ?_
  simp [lW, lA, lU, lS]
  refine k2 _ ?_
  refine AW.cond false (by simp [Int.natCast_inj]) (fun h => by cases h) (fun _ => ?_)
  refine AW.skip ?_
  simp
  refine k1 _ ?_
  refine AW.seq fun _ k1 => ?_
  refine AW.seq fun _ k2 => AW.region [] Θ_ok ?_
  simp
  refine k2 _ ?_
  refine AW.block ?_
  refine AW.loopI (X := Nat) (fun x => x ≤ W.length) (fun x => ⟨126, [(9, .ro true (ints W)), (11, .ro true (ints U)), (13, .ro true (bools A)), (14, .ro true (bools S)), (98, .int .i64 W.length), (99, .int .i64 x)], h⟩) (fun x => W.length - x) 0 (Nat.zero_le _) (GStep.eq (by simp) (subH.refl _)) fun x hx => ?_
  refine AW.seq fun _ k2 => AW.region [] Θ_ok ?_
  simp
  refine k2 _ ?_
  by_cases hlt : x < W.length
  · have inc := wrap_succ (show x < 9223372036854775807 by omega)
    have hltU : x < U.length := by omega
    have hltA : x < A.length := by omega
    have hltS : x < S.length := by omega
    have q1 := hW x hlt hltA
    have q2 := hU x hltU hltS
    have e1 : (W[x] == 1) = A[x] := by
      cases c : A[x] with
      | true => rw [c] at q1; simp [q1.2 rfl]
      | false => rw [c] at q1; simp; exact fun z => by have := q1.1 z; cases this
    have e2 : (U[x] == 1) = S[x] := by
      cases c : S[x] with
      | true => rw [c] at q2; simp [q2.2 rfl]
      | false => rw [c] at q2; simp; exact fun z => by have := q2.1 z; cases this
    clear hW hU
    refine AW.seq fun _ k2 => AW.cond true (by simp [Int.natCast_inj, hlt]) (fun _ => ?_) (fun h => by cases h)
    refine AW.skip ?_
    simp
    refine k2 _ ?_
    refine AW.seq fun _ k2 => ?_
    refine AW.block ?_
    refine AW.seq fun _ k3 => AW.region [] Θ_ok ?_
    simp
    refine k3 _ ?_
    refine AW.seq fun _ k3 => AW.draw [] 22 [] Θ_ok mixed (by kernel_rfl) (by kernel_rfl) ?_
    refine vcDraw_split 10 fun B hB => ?_
    simp [vcPre, vcTail, callA, isAlloc, isLoad, effOp, obl, obA, mkOK, valA, hlt, hltU, hltA, hltS, e1, e2]
    refine hB _ _ _ ?_
    clear hB B
    simp [vcPre, vcTail, callA, isAlloc, isLoad, effOp, obl, obA, mkOK, valA, hlt, hltU, hltA, hltS, e1, e2]
    refine k3 _ ?_
    refine AW.cond false (by simp [Int.natCast_inj]) (fun h => by cases h) (fun _ => ?_)
    refine AW.skip ?_
    simp
    refine k2 _ ?_
    refine AW.region [] Θ_ok ?_
    simp
    exact ⟨x + 1, by omega, by omega, GStep.eq (by simp [inc]) (subH.refl _)⟩
  obtain rfl : x = W.length := by omega
  refine AW.seq fun _ k2 => AW.cond false (by simp [Int.natCast_inj]) (fun h => by cases h) (fun _ => ?_)
  refine AW.exit ?_
  simp
  refine k1 _ ?_
  refine AW.seq fun _ kr => AW.region [] Θ_ok ?_
  simp
  refine (l15_awake).use (by simp [G.av]) ?_
  try simp
  refine kr _ (AW.ret ?_)
  simp [Try.f7]
  exact Fin.refl ⟨rfl, rfl⟩
end Go.Par
