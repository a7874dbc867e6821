import Derived.Test.YtmmfdmhjkcbobaaPhA
import Derived.Test.YtmmfdmhjkcbobaaPhB
set_option linter.unusedSimpArgs false
set_option linter.unusedVariables false
set_option maxRecDepth 8000
set_option maxHeartbeats 1000000
namespace Go.Par
open Go.Proofs

def gmO (g : G) (o : Nat) : Ob := ⟨[.mu o g.owner.length, .ro false (rows g.next)], 25, 2, true⟩
@[simp] theorem gmO_cells (g : G) (o : Nat) : (gmO g o).cells = [.mu o g.owner.length, .ro false (rows g.next)] := rfl
@[simp] theorem gmO_ty (g : G) (o : Nat) : (gmO g o).ty = 25 := rfl
@[simp] theorem gmO_sz (g : G) (o : Nat) : (gmO g o).sz = 2 := rfl
@[simp] theorem gmO_nn (g : G) (o : Nat) : (gmO g o).nn = true := rfl
def TQ (g : G) (o p a b : Nat) (X Y Z : List Int) : List (Nat × Ob) := [(b, obI Z), (a, obI Y), (p, gmO g o), (o, obI X)]
def TQH (h : Heap) (g : G) (o p a b : Nat) (X Y Z : List Int) : Heap := HL h (TQ g o p a b X Y Z)
abbrev TQN (h : Heap) (o p a b : Nat) : Prop := HN h [b, a, p, o]
section
variable {h : Heap} {o p a b : Nat} (N : TQN h o p a b) (g : G) (X Y Z : List Int)
include N
theorem TQH.gb : TQH h g o p a b X Y Z b = some (obI Z) := HL.at (k := 0) N.nd rfl
theorem TQH.ga : TQH h g o p a b X Y Z a = some (obI Y) := HL.at (k := 1) N.nd rfl
theorem TQH.gp : TQH h g o p a b X Y Z p = some (gmO g o) := HL.at (k := 2) N.nd rfl
theorem TQH.go : TQH h g o p a b X Y Z o = some (obI X) := HL.at (k := 3) N.nd rfl
theorem TQH.putB (Z' : List Int) : upd (TQH h g o p a b X Y Z) b (some (obI Z')) = TQH h g o p a b X Y Z' := HL.put (k := 0) N.nd rfl
theorem TQH.putA (Y' : List Int) : upd (TQH h g o p a b X Y Z) a (some (obI Y')) = TQH h g o p a b X Y' Z := HL.put (k := 1) N.nd rfl
theorem TQH.putO (X' : List Int) : upd (TQH h g o p a b X Y Z) o (some (obI X')) = TQH h g o p a b X' Y Z := HL.put (k := 3) N.nd rfl
end

def tnF (g : G) (v : Nat) : Int := 1 - fI g.owner v
def upF (P : List Int) (d : Int) (v : Nat) : Int := fI P v + d

theorem law_ParityTurned (g : G) (hg : g.wide) (P : List Int) (hP : (DK.sl .int).fits P) : Pure Try.prog 5 [g.av, .ro false (ints P)] (.bool true) := by
  have hf := hg.f
  have hPl : P.length ≤ 1152921504606846976 := by
    have : P.length * 8 ≤ reachBytes := hP.1
    unfold reachBytes at this
    omega
  have sH := l15_Heavy g hf P
  have sM := r9_MayPrio g hf P hPl
  intro h
  refine AC.body Θ_ok Try.func5 rfl rfl (Nat.le_of_ble_eq_true rfl) ?_
  refine AW.seq fun _ k1 => AW.region [] Θ_ok ?_
  simp
  refine k1 _ ?_
  refine AW.seq fun _ k1 => ?_
  by_cases h1 : 0 < heavy15 g P
  · refine AW.seq fun _ k2 => AW.regionAt 3 [] Θ_ok fun B hB => ?_
    simp
    refine sH.use (by simp [G.av]) ?_
    refine hB _ ?_
    clear hB B
    simp [h1]
    refine k2 _ ?_
    refine AW.cond true (by simp [Int.natCast_inj]) (fun _ => ?_) (fun h => by cases h)
    refine AW.seq fun _ kr => AW.region [] Θ_ok ?_
    simp
    refine (l15_awake).use (by simp [G.av]) ?_
    try simp
    refine kr _ (AW.ret ?_)
    simp [Try.f5]
    exact Fin.refl ⟨rfl, rfl⟩
  have h1' := Int.not_lt.1 h1
  by_cases hm : mayP g P = true
  · rw [hm] at sM
    have ok := mayP_ok hm
    have hn := (may_ok ok.m).1
    have hlP := ok.len
    refine AW.seq fun _ k2 => AW.regionAt 3 [] Θ_ok fun B hB => ?_
    simp
    refine sH.use (by simp [G.av]) ?_
    refine hB _ ?_
    clear hB B
    refine vcOps_split 5 fun B hB => ?_
    simp [h1, h1']
    refine sM.use (by simp [G.av]) ?_
    refine hB _ ?_
    clear hB B
    simp
    refine k2 _ ?_
    refine AW.cond false (by simp [Int.natCast_inj]) (fun h => by cases h) (fun _ => ?_)
    refine AW.skip ?_
    simp
    refine k1 _ ?_
    refine AW.seq fun _ k1 => AW.draw [31, 5] 8 [] Θ_ok mixed (by kernel_rfl) (by kernel_rfl) ?_
    simp [vcDraw, vcPre, vcTail, callA, isAlloc, isLoad, effOp, obl, obA, mkOK, valA, newA]
    refine ⟨by omega, fun o ho p hp => k1 _ ?_⟩
    have e0 : ((List.replicate g.owner.length (AV.int IntKind.i64 0)).flatMap AV.flat) = (tab g.owner.length fun _ => (0 : Int)).map (AV.int .i64) := by
      rw [replicate_tab, flat_tab (fun _ _ => rfl)]; simp
    rw [e0, obI_mk, show (⟨[.mu o g.owner.length, .ro false (rows g.next)], 25, 2, true⟩ : Ob) = gmO g o from rfl]
    refine AW.seq fun _ k1 => AW.draw [37, 40] 8 [] Θ_ok mixed (by kernel_rfl) (by kernel_rfl) ?_
    simp [vcDraw, vcPre, vcTail, callA, isAlloc, isLoad, effOp, obl, obA, mkOK, valA, newA]
    have b1 : 8 * (P.length : Int) ≤ 140737488355328 := by omega
    have b2 : (P.length : Int) ≤ 140737488355328 := by omega
    rw [hlP, e0, obI_mk]
    refine ⟨⟨by omega, by omega⟩, fun a ha => ⟨⟨by omega, by omega⟩, fun b hb => k1 _ ?_⟩⟩
    clear b1 b2
    obtain ⟨n, hnn⟩ : ∃ n, n = g.owner.length := ⟨_, rfl⟩
    have z0 : ∀ f, (tab g.owner.length fun _ => (0 : Int)) = pY g.owner.length 0 f := fun f => (pY_zero _ f).symm
    rw [e0, obI_mk] at hp
    have N1 : HN h (nms [(o, obI (tab g.owner.length fun _ => (0 : Int)))]) := HL.new (l := []) ⟨List.nodup_nil, fun o ho => by cases ho⟩ ho
    have N2 : HN h (nms [(p, gmO g o), (o, obI (tab g.owner.length fun _ => (0 : Int)))]) := HL.new (l := [(o, obI (tab g.owner.length fun _ => (0 : Int)))]) N1 hp
    have N3 : HN h (nms [(a, obI (tab g.owner.length fun _ => (0 : Int))), (p, gmO g o), (o, obI (tab g.owner.length fun _ => (0 : Int)))]) := HL.new (l := [(p, gmO g o), (o, obI (tab g.owner.length fun _ => (0 : Int)))]) N2 ha
    have N : TQN h o p a b := HL.new (l := [(a, obI (tab g.owner.length fun _ => (0 : Int))), (p, gmO g o), (o, obI (tab g.owner.length fun _ => (0 : Int)))]) N3 hb
    have eH : upd (upd (upd (upd h o (some (obI (tab g.owner.length fun _ => (0 : Int))))) p (some (gmO g o))) a (some (obI (tab g.owner.length fun _ => (0 : Int))))) b (some (obI (tab g.owner.length fun _ => (0 : Int)))) = TQH h g o p a b (pY g.owner.length 0 (tnF g)) (pY g.owner.length 0 (upF P 1)) (pY g.owner.length 0 (upF P 2)) := by
      rw [← z0, ← z0, ← z0]; rfl
    rw [eH]
    clear eH N1 N2 N3 ho hp ha hb z0 e0
    refine AW.seq fun _ k1 => ?_
    refine AW.seq fun _ k2 => AW.region [] Θ_ok ?_
    simp
    refine k2 _ ?_
    refine AW.block ?_
    refine AW.loopI (X := Nat) (fun x => x ≤ P.length ∧ ∀ v, v < x → fI P v < 4) (fun x => ⟨137, [(1, .ro false (ints P)), (2, .rop [.ro false (ints g.owner), .ro false (rows g.next)]), (5, .ptr p 0), (6, .mu a g.owner.length), (7, .mu b g.owner.length), (41, .ro false (ints P)), (42, .int .i64 P.length), (43, .int .i64 x)], TQH h g o p a b (pY g.owner.length x (tnF g)) (pY g.owner.length x (upF P 1)) (pY g.owner.length x (upF P 2))⟩) (fun x => P.length - x) 0 ⟨Nat.zero_le _, fun v hv => by omega⟩ (GStep.eq (by simp) (subH.refl _)) fun x hx => ?_
    obtain ⟨hx, hlow⟩ := hx
    refine AW.seq fun _ k2 => AW.region [] Θ_ok ?_
    simp
    refine k2 _ ?_
    by_cases hlt : x < P.length
    · have inc := wrap_succ (show x < 9223372036854775807 by omega)
      have hlt' : x < g.owner.length := by omega
      have hv : fI P x = P[x] := by simp [fI, hlt]
      have hw : fI g.owner x = g.owner[x] := by simp [fI, hlt']
      have oo := ow_ok ok.m hlt'
      rw [show ow g x = g.owner[x] by simp [ow, hlt']] at oo
      have p0 := ok.lo x
      rw [hv] at p0
      have s1 := pY_set g.owner.length x (tnF g)
      have s2 := pY_set g.owner.length x (upF P 1)
      have s3 := pY_set g.owner.length x (upF P 2)
      rw [show tnF g x = 1 - g.owner[x] by rw [tnF, hw]] at s1
      rw [show upF P 1 x = P[x] + 1 by rw [upF, hv]] at s2
      rw [show upF P 2 x = P[x] + 2 by rw [upF, hv]] at s3
      have l1 := pY_len g.owner.length x (tnF g)
      have l2 := pY_len g.owner.length x (upF P 1)
      have l3 := pY_len g.owner.length x (upF P 2)
      generalize hX2 : (pY g.owner.length (x + 1) (tnF g)) = X2 at *
      generalize (pY g.owner.length x (tnF g)) = X1 at *
      generalize hY2 : (pY g.owner.length (x + 1) (upF P 1)) = Y2 at *
      generalize (pY g.owner.length x (upF P 1)) = Y1 at *
      generalize hZ2 : (pY g.owner.length (x + 1) (upF P 2)) = Z2 at *
      generalize (pY g.owner.length x (upF P 2)) = Z1 at *
      have gp := TQH.gp N g X1 Y1 Z1
      have go := TQH.go N g X1 Y1 Z1
      have pO := TQH.putO N g X1 Y1 Z1 X2
      have ga := TQH.ga N g X2 Y1 Z1
      have pA := TQH.putA N g X2 Y1 Z1 Y2
      have gb := TQH.gb N g X2 Y2 Z1
      have pB := TQH.putB N g X2 Y2 Z1 Z2
      have m1 := map_set_int X1 x (1 - g.owner[x])
      have m2 := map_set_int Y1 x (P[x] + 1)
      have m3 := map_set_int Z1 x (P[x] + 2)
      rw [s1] at m1
      rw [s2] at m2
      rw [s3] at m3
      have w1 : IntKind.i64.wrap (1 - g.owner[x]) = 1 - g.owner[x] := wrap_id (by omega) (by omega)
      refine AW.seq fun _ k2 => AW.cond true (by simp [Int.natCast_inj, hlt]) (fun _ => ?_) (fun h => by cases h)
      refine AW.skip ?_
      simp
      refine k2 _ ?_
      refine AW.seq fun _ k2 => ?_
      refine AW.block ?_
      refine AW.seq fun _ k3 => AW.region [] Θ_ok ?_
      simp [hlt]
      refine k3 _ ?_
      refine AW.seq fun _ k3 => ?_
      refine AW.seq fun _ k4 => AW.region [] Θ_ok ?_
      simp
      refine k4 _ ?_
      by_cases c : 4 ≤ P[x]
      · refine AW.cond true (by simp [Int.natCast_inj, c]) (fun _ => ?_) (fun h => by cases h)
        refine AW.seq fun _ kr => AW.region [] Θ_ok ?_
        simp
        refine (l15_awake).use (by simp [G.av]) ?_
        try simp
        refine kr _ (AW.ret ?_)
        simp [Try.f5]
        exact Fin.gv (GV.sub (HL.sub N)) (Fin.refl ⟨rfl, rfl⟩)
      · have c' : P[x] < 4 := by omega
        have w2 : IntKind.i64.wrap (P[x] + 1) = P[x] + 1 := wrap_id (by omega) (by omega)
        have w3 : IntKind.i64.wrap (P[x] + 2) = P[x] + 2 := wrap_id (by omega) (by omega)
        refine AW.cond false (by simp [Int.natCast_inj, c, c']) (fun h => by cases h) (fun _ => ?_)
        refine AW.skip ?_
        simp
        refine k3 _ ?_
        refine AW.seq fun _ k3 => AW.draw [] 10 [] Θ_ok mixed (by kernel_rfl) (by kernel_rfl) ?_
        simp [vcDraw, vcPre, vcTail, callA, isAlloc, isLoad, effOp, obl, obA, mkOK, valA, gp, go, hlt', w1, l1, m1, obI_mk, pO]
        refine ⟨by omega, k3 _ ?_⟩
        refine AW.region [] Θ_ok ?_
        simp [hlt', w2, w3, ga, l2, m2, obI_mk, pA, gb, l3, m3, pB]
        refine ⟨by omega, k2 _ ?_⟩
        refine AW.region [] Θ_ok ?_
        simp
        exact ⟨x + 1, ⟨by omega, fun v hv' => by
          by_cases e : v = x
          · subst e; simpa [hlt] using c'
          · exact hlow v (by omega)⟩, by omega, GStep.eq (by simp [inc]) (subH_of_eq (by rw [hX2, hY2, hZ2]))⟩
    obtain rfl : x = P.length := by omega
    refine AW.seq fun _ k2 => AW.cond false (by simp [Int.natCast_inj]) (fun h => by cases h) (fun _ => ?_)
    refine AW.exit ?_
    simp
    refine k1 _ ?_
    have hd : ∀ v, v < g.owner.length → fI P v < 4 := fun v hv => hlow v (by omega)
    have nd := N.nd
    simp only [List.nodup_cons, List.mem_cons, not_or, List.not_mem_nil, not_false_iff, List.nodup_nil, and_true] at nd
    obtain ⟨⟨n1, n2, n3⟩, ⟨n4, n5⟩, n6⟩ := nd
    rw [hlP]
    have e1 : pY g.owner.length g.owner.length (tnF g) = (turnG g).owner := pY_full _ _
    have e2 : pY g.owner.length g.owner.length (upF P 1) = upL' P 1 g.owner.length := pY_full _ _
    have e3 : pY g.owner.length g.owner.length (upF P 2) = upL' P 2 g.owner.length := pY_full _ _
    rw [e1, e2, e3]
    have lX : (turnG g).owner.length = g.owner.length := length_tab _ _
    have lY : (upL' P 1 g.owner.length).length = g.owner.length := length_tab _ _
    have lZ : (upL' P 2 g.owner.length).length = g.owner.length := length_tab _ _
    have mY := up_mayP hm (d := 1) (by decide) (fun v hv => by have := hd v hv; omega) (turn_may ok.m) lX
    have mZ := up_mayP hm (d := 2) (by decide) (fun v hv => by have := hd v hv; omega) ok.m rfl
    have sA := parity_Solve g hf P hPl
    rw [solA, if_pos hm] at sA
    have sB := parity_Solve (turnG g) (turn_fits hf) (upL' P 1 g.owner.length) (by omega)
    rw [solA, if_pos mY] at sB
    have sC := parity_Solve g hf (upL' P 2 g.owner.length) (by omega)
    rw [solA, if_pos mZ] at sC
    have lw : (winL g P).length = g.owner.length := (zfin_spec ok).2.2.1
    have lu : (winL (turnG g) (upL' P 1 g.owner.length)).length = g.owner.length := (zfin_spec (mayP_ok mY)).2.2.1.trans lX
    have lx : (winL g (upL' P 2 g.owner.length)).length = g.owner.length := (zfin_spec (mayP_ok mZ)).2.2.1
    have hu : ∀ v (h1 : v < (winL g P).length) (h2 : v < (winL (turnG g) (upL' P 1 g.owner.length)).length), (winL (turnG g) (upL' P 1 g.owner.length))[v] = 1 - (winL g P)[v] := by
      intro v h1 h2
      have := turn_one hm hd (v := v) (by omega)
      simpa [fI, h1, h2] using this
    have hxx : ∀ v (h1 : v < (winL g P).length) (h2 : v < (winL g (upL' P 2 g.owner.length)).length), (winL g (upL' P 2 g.owner.length))[v] = (winL g P)[v] := by
      intro v h1 h2
      have := turn_two hm hd (v := v) (by omega)
      simpa [fI, h1, h2] using this
    have hwin : ∀ v (h1 : v < (winL g P).length), (winL g P)[v] = 0 ∨ (winL g P)[v] = 1 := by
      intro v h1
      have := solve_win ok (v := v) (by omega)
      simpa [fI, h1] using this
    have eG : (turnG g).av = .agg [.ro false (ints (turnG g).owner), .ro false (rows g.next)] := rfl
    rw [eG] at sB
    generalize winL (turnG g) (upL' P 1 g.owner.length) = U at *
    generalize winL g (upL' P 2 g.owner.length) = V at *
    generalize winL g P = W at *
    generalize toL (turnG g) (upL' P 1 g.owner.length) = U' at *
    generalize toL g (upL' P 2 g.owner.length) = V' at *
    generalize toL g P = W' at *
    generalize upL' P 1 g.owner.length = Y at *
    generalize upL' P 2 g.owner.length = Z at *
    generalize (turnG g).owner = X at *
    have gp := TQH.gp N g X Y Z
    have go := TQH.go N g X Y Z
    have ga := TQH.ga N g X Y Z
    have gb := TQH.gb N g X Y Z
    have hsub : subH h (TQH h g o p a b X Y Z) := HL.sub N
    have fb : h b = none := N.free _ (by simp)
    have fa : h a = none := N.free _ (by simp)
    have fp : h p = none := N.free _ (by simp)
    have fo' : h o = none := N.free _ (by simp)
    generalize TQH h g o p a b X Y Z = H at *
    refine AW.freeze 7 true rfl gb (fun _ => rfl) rfl (by simp [lZ]) (fun u hu => by obtain ⟨z, _, rfl⟩ := List.mem_map.1 hu; rfl) ?_
    refine AW.freeze 6 true rfl (x := obI Y) (by simp only; rw [upd_ne _ _ (Ne.symm n1)]; exact ga) (fun _ => rfl) rfl (by simp [lY]) (fun u hu => by obtain ⟨z, _, rfl⟩ := List.mem_map.1 hu; rfl) ?_
    simp only
    have gp2 : upd (upd H b none) a none p = some (gmO g o) := by rw [upd_ne _ _ (Ne.symm n4), upd_ne _ _ (Ne.symm n2)]; exact gp
    have go2 : upd (upd H b none) a none o = some (obI X) := by rw [upd_ne _ _ (Ne.symm n5), upd_ne _ _ (Ne.symm n3)]; exact go
    have gv : GV (.mu o g.owner.length) (upd (upd H b none) a none) (.ro true (ints X)) (upd (upd (upd H b none) a none) o none) :=
      GV.freeze go2 (fun _ => rfl) (by simp [lX]) (fun y hy => by obtain ⟨z, _, rfl⟩ := List.mem_map.1 hy; rfl) (by
        rw [flat_ints]; simp only [obI_cells, obI_sz, Nat.mul_one]
        rw [List.take_of_length_le (by simp [lX])])
    refine AW.ghost (GStep.cell (S := ⟨137, _, _⟩) (p := p) (j := 0) gp2 rfl gv (by rw [upd_ne _ _ n6]; exact gp2) (by simp)) ?_
    refine AW.box 5 (o := p) rfl (upd_same _ _ _) ?_
    refine AW.ghost (GStep.eq (S := ⟨137, _, _⟩) (tm := [(1, .ro false (ints P)), (2, .rop [.ro false (ints g.owner), .ro false (rows g.next)]), (5, .rop [.ro true (ints X), .ro false (rows g.next)]), (6, .ro true (ints Y)), (7, .ro true (ints Z))]) (h := h) (by simp [EqAll]) fun o' x' hx' => ?_) ?_
    · have q1 : o' ≠ p := fun e => by rw [e, fp] at hx'; cases hx'
      have q2 : o' ≠ o := fun e => by rw [e, fo'] at hx'; cases hx'
      have q3 : o' ≠ a := fun e => by rw [e, fa] at hx'; cases hx'
      have q4 : o' ≠ b := fun e => by rw [e, fb] at hx'; cases hx'
      simp only
      rw [upd_ne _ _ q1, upd_ne _ _ q1, upd_ne _ _ q2, upd_ne _ _ q3, upd_ne _ _ q4]
      exact hsub o' x' hx'
    simp only
    clear gv gp2 go2 hsub fb fa fp fo' gp go ga gb N n1 n2 n3 n4 n5 n6 H
    refine AW.seq fun _ k1 => AW.regionAt 3 [] Θ_ok fun B hB => ?_
    simp
    refine sA.use (by simp [G.av]) ?_
    refine hB _ ?_
    clear hB B
    simp
    refine k1 _ ?_
    refine AW.seq fun _ k1 => AW.regionAt 3 [] Θ_ok fun B hB => ?_
    simp
    refine sB.use (by simp) ?_
    refine hB _ ?_
    clear hB B
    simp
    refine k1 _ ?_
    refine AW.seq fun _ k1 => AW.regionAt 3 [] Θ_ok fun B hB => ?_
    simp
    refine sC.use (by simp [G.av]) ?_
    refine hB _ ?_
    clear hB B
    simp
    refine k1 _ ?_
    refine AW.seq fun _ k1 => ?_
    refine AW.seq fun _ k2 => AW.region [] Θ_ok ?_
    simp [lw, lu, lx, hlP]
    refine k2 _ ?_
    refine AW.cond false (by simp [Int.natCast_inj]) (fun h => by cases h) (fun _ => ?_)
    refine AW.skip ?_
    simp
    refine k1 _ ?_
    refine AW.seq fun _ k1 => ?_
    refine AW.seq fun _ k2 => AW.region [] Θ_ok ?_
    simp
    refine k2 _ ?_
    refine AW.block ?_
    refine AW.loopI (X := Nat) (fun x => x ≤ W.length) (fun x => ⟨137, [(10, .ro true (ints W)), (12, .ro true (ints U)), (14, .ro true (ints V)), (110, .int .i64 W.length), (111, .int .i64 x)], h⟩) (fun x => W.length - x) 0 (Nat.zero_le _) (GStep.eq (by simp) (subH.refl _)) fun x hx => ?_
    refine AW.seq fun _ k2 => AW.region [] Θ_ok ?_
    simp
    refine k2 _ ?_
    by_cases hlt : x < W.length
    · have inc := wrap_succ (show x < 9223372036854775807 by omega)
      have hltU : x < U.length := by omega
      have hltV : x < V.length := by omega
      have q1 := hu x hlt hltU
      have q2 := hxx x hlt hltV
      have q3 := hwin x hlt
      have w1 : IntKind.i64.wrap (1 - W[x]) = 1 - W[x] := wrap_id (by omega) (by omega)
      clear hu hxx hwin
      refine AW.seq fun _ k2 => AW.cond true (by simp [Int.natCast_inj, hlt]) (fun _ => ?_) (fun h => by cases h)
      refine AW.skip ?_
      simp
      refine k2 _ ?_
      refine AW.seq fun _ k2 => ?_
      refine AW.block ?_
      refine AW.seq fun _ k3 => AW.region [] Θ_ok ?_
      simp
      refine k3 _ ?_
      refine AW.seq fun _ k3 => AW.draw [] 21 [] Θ_ok mixed (by kernel_rfl) (by kernel_rfl) ?_
      simp [vcDraw, vcPre, vcTail, callA, isAlloc, isLoad, effOp, obl, obA, mkOK, valA, hlt, hltU, hltV, q1, q2, w1]
      refine k3 _ ?_
      refine AW.cond false (by simp [Int.natCast_inj]) (fun h => by cases h) (fun _ => ?_)
      refine AW.skip ?_
      simp
      refine k2 _ ?_
      refine AW.region [] Θ_ok ?_
      simp
      exact ⟨x + 1, by omega, by omega, GStep.eq (by simp [inc]) (subH.refl _)⟩
    obtain rfl : x = W.length := by omega
    refine AW.seq fun _ k2 => AW.cond false (by simp [Int.natCast_inj]) (fun h => by cases h) (fun _ => ?_)
    refine AW.exit ?_
    simp
    refine k1 _ ?_
    refine AW.seq fun _ kr => AW.region [] Θ_ok ?_
    simp
    refine (l15_awake).use (by simp [G.av]) ?_
    try simp
    refine kr _ (AW.ret ?_)
    simp [Try.f5]
    exact Fin.refl ⟨rfl, rfl⟩
  · rw [show mayP g P = false by simpa using hm] at sM
    refine AW.seq fun _ k2 => AW.regionAt 3 [] Θ_ok fun B hB => ?_
    simp
    refine sH.use (by simp [G.av]) ?_
    refine hB _ ?_
    clear hB B
    refine vcOps_split 5 fun B hB => ?_
    simp [h1, h1']
    refine sM.use (by simp [G.av]) ?_
    refine hB _ ?_
    clear hB B
    simp
    refine k2 _ ?_
    refine AW.cond true (by simp [Int.natCast_inj]) (fun _ => ?_) (fun h => by cases h)
    refine AW.seq fun _ kr => AW.region [] Θ_ok ?_
    simp
    refine (l15_awake).use (by simp [G.av]) ?_
    try simp
    refine kr _ (AW.ret ?_)
    simp [Try.f5]
    exact Fin.refl ⟨rfl, rfl⟩
end Go.Par
