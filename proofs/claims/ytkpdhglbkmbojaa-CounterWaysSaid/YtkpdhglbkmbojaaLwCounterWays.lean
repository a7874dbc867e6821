import Derived.Test.YtkpdhglbkmbojaaPlI
import Derived.Test.YtkpdhglbkmbojaaCnG
set_option linter.unusedSimpArgs false
set_option maxRecDepth 8000
namespace Go.Par
open Go.Proofs

theorem law_CounterWays (g : G) (hg : g.wide) (la : List (List Bool)) (hA : (DK.sl (.sl .bool)).fits la) (lb : List (List Bool)) (hB : (DK.sl (.sl .bool)).fits lb) : Pure Try.prog 4 [g.av, .ro false (bools2 la), .ro false (bools2 lb)] (.bool true) := by
  have hf := hg.f
  have sH := l18_Heavy g hf la lb (G.wide.rows2 hA) (G.wide.rows2 hB)
  have sG := counter_Game g hf la lb
  intro h
  refine AC.body Θ_ok Try.func4 rfl rfl (Nat.le_of_ble_eq_true rfl) ?_
  refine AW.seq fun _ k1 => AW.region [] Θ_ok ?_
  simp
  refine k1 _ ?_
  refine AW.seq fun _ k1 => ?_
  refine AW.seq fun _ k2 => AW.regionAt 4 [] Θ_ok fun B hB => ?_
  simp
  refine sH.use (by simp [G.av]) ?_
  by_cases c0 : 0 < heavy18 g la lb
  · refine hB _ ?_
    clear hB B
    simp [c0]
    refine k2 _ ?_
    refine AW.cond true (by simp [Int.natCast_inj]) (fun _ => ?_) (fun h => by cases h)
    refine AW.seq fun _ kr => AW.region [] Θ_ok ?_
    simp
    refine (l20_awake).use (by simp [G.av]) ?_
    try simp
    refine kr _ (AW.ret ?_)
    simp [Try.f4]
    exact Fin.refl ⟨rfl, rfl⟩
  refine hB _ ?_
  clear hB B
  simp [c0]
  refine k2 _ ?_
  refine AW.cond false (by simp [Int.natCast_inj]) (fun h => by cases h) (fun _ => ?_)
  refine AW.skip ?_
  simp
  refine k1 _ ?_
  by_cases hE : cgErr g la lb = 0
  · obtain ⟨hm, hk, k0, a4, e4, ke, hn⟩ := cg_ok hE
    have hmc := cg_may hE
    have hn2 := (may_ok hm).2.1
    have hn3 := (may_ok hm).1
    rw [cgA, if_pos hE] at sG
    have eG : cgG g la lb = ⟨tab (g.owner.length * memsN la.length lb.length) (cgOwn g (memsN la.length lb.length)), tab (g.owner.length * memsN la.length lb.length) (cgRow g la lb (memsN la.length lb.length))⟩ := rfl
    have eP : cgP g la lb = tab (g.owner.length * memsN la.length lb.length) (cgPrio la lb (memsN la.length lb.length)) := rfl
    have sM := counter_Mems la lb
    generalize memsN la.length lb.length = K at *
    generalize cgG g la lb = C at *
    generalize cgP g la lb = P at *
    have fC : C.fits := by
      rw [eG]
      refine ⟨by simp; omega, by simp; omega, fun l hl => ?_⟩
      obtain ⟨i, hi, rfl⟩ := mem_tab.1 hl
      have hv := cg_div hi
      have hv' : i / K < g.next.length := by omega
      have := hf.row _ (List.getElem_mem hv')
      simpa [cgRow, hv'] using this
    have lO : C.owner.length = g.owner.length * K := by rw [eG]; exact length_tab _ _
    have lN : C.next.length = g.owner.length * K := by rw [eG]; exact length_tab _ _
    have lP : P.length = g.owner.length * K := by rw [eP]; exact length_tab _ _
    have vO : ∀ x v (h : x < C.owner.length) (hv : v < g.owner.length), x / K = v → C.owner[x] = g.owner[v] := by
      subst eG; intro x v h hv e; simp [cgOwn, e, hv]
    have vN : ∀ x v (h : x < C.next.length) (hv : v < g.next.length), x / K = v → ∃ T : Nat, T < K ∧ C.next[x].length = g.next[v].length ∧ ∀ y (h1 : y < C.next[x].length) (h2 : y < g.next[v].length), C.next[x][y] = g.next[v][y] * (K : Int) + (T : Int) := by
      subst eG; intro x v h hv e
      refine ⟨onThen la lb (x / K) (x % K), ?_, by simp [cgRow, e, hv], fun y h1 h2 => by simp [cgRow, e, hv]⟩
      rw [ke]; exact onThen_lt la lb _ _ (by rw [← ke]; exact Nat.mod_lt _ k0)
    have vP : ∀ x (h : x < P.length), 0 ≤ P[x] ∧ P[x] ≤ 2 := by
      subst eP; intro x h; simp only [getElem_tab]; exact cgPrio_le _ _ _ _
    have sMC := graph_May C fC
    rw [hmc] at sMC
    have hCav : C.av = .agg [.ro false (ints C.owner), .ro false (rows C.next)] := rfl
    rw [hCav] at sMC
    generalize C.owner = O at *
    generalize C.next = X at *
    have hk0 : ¬ K = 0 := by omega
    refine AW.seq fun _ k1 => AW.regionAt 4 [7] Θ_ok fun B hB => ?_
    simp
    refine sG.use (by simp [G.av]) ?_
    refine hB _ ?_
    clear hB B
    simp [newA, upd_same]
    refine fun o ho => k1 _ ?_
    refine AW.box 7 rfl (upd_same _ _ _) ?_
    simp only [upd_upd_none ho]
    refine AW.seq fun _ k1 => ?_
    refine AW.seq fun _ k2 => AW.region [] Θ_ok ?_
    simp
    refine k2 _ ?_
    refine AW.cond false (by simp [Int.natCast_inj]) (fun h => by cases h) (fun _ => ?_)
    refine AW.skip ?_
    simp
    refine k1 _ ?_
    refine AW.seq fun _ k1 => AW.region [] Θ_ok ?_
    simp
    refine sM.use (by simp) ?_
    refine k1 _ ?_
    refine AW.seq fun _ k1 => ?_
    have wK : IntKind.i64.wrap ((K : Int) * (g.owner.length : Int)) = ((g.owner.length * K : Nat) : Int) := by
      rw [← Int.natCast_mul, Nat.mul_comm]; exact wrap_nat (by omega)
    have hK1 : ¬ (K : Int) < 1 := by omega
    have hK2 : ¬ (K : Int) ≤ 0 := by omega
    have hK3 : (1 : Int) ≤ (K : Int) := by omega
    refine AW.seq fun _ k2 => AW.regionAt 5 [] Θ_ok fun B hB => ?_
    simp [hK1, hK2, hK3, hk0]
    refine (r9_May g hf).use (by simp [G.av]) ?_
    refine hB _ ?_
    clear hB B
    refine vcOps_split 33 fun B hB => ?_
    simp [hm, lO, lN, lP, wK]
    refine sMC.use (by simp) ?_
    refine hB _ ?_
    clear hB B
    simp
    refine k2 _ ?_
    refine AW.cond false (by simp [Int.natCast_inj]) (fun h => by cases h) (fun _ => ?_)
    refine AW.skip ?_
    simp
    refine k1 _ ?_
    refine AW.seq fun _ k1 => ?_
    refine AW.seq fun _ k2 => AW.region [] Θ_ok ?_
    simp
    refine k2 _ ?_
    refine AW.block ?_
    refine AW.loopI (X := Nat) (fun x => x ≤ X.length) (fun x => ⟨162, [(78, .int .i64 x), (77, .int .i64 X.length), (76, .ro false (rows X)), (3, .rop [.ro false (ints g.owner), .ro false (rows g.next)]), (7, .rop [.ro false (ints O), .ro false (rows X)]), (8, .ro false (ints P)), (10, .int .i64 K)], h⟩) (fun x => X.length - x) 0 (Nat.zero_le _) (GStep.eq (by simp) (subH.refl _)) fun x hx => ?_
    refine AW.seq fun _ k2 => AW.region [] Θ_ok ?_
    simp
    refine k2 _ ?_
    by_cases hlt : x < X.length
    · have inc := wrap_succ (show x < 9223372036854775807 by omega)
      have xO : x < O.length := by omega
      have xP : x < P.length := by omega
      obtain ⟨v, hv⟩ : ∃ v, x / K = v := ⟨_, rfl⟩
      have hvl : v < g.owner.length := by rw [← hv]; exact cg_div (by omega)
      have hvn : v < g.next.length := by omega
      have o1 := vO x v xO hvl hv
      obtain ⟨T, hT, n1, n2⟩ := vN x v hlt hvn hv
      obtain ⟨p1, p2⟩ := vP x xP
      have p1' : ¬ P[x] < 0 := by omega
      have p2' : ¬ 2 < P[x] := by omega
      have dx : (x : Int).tdiv (K : Int) = (v : Int) := by rw [Int.tdiv_eq_ediv_of_nonneg (by omega), ← Int.natCast_ediv, hv]
      have dx2 : (x : Int) / (K : Int) = (v : Int) := by rw [← Int.natCast_ediv, hv]
      have wv := wrap_nat (show v < 9223372036854775808 by omega)
      have hlr := hf.row _ (List.getElem_mem hvn)
      obtain ⟨_, hr⟩ := may_row hm hvl hvn
      clear hv
      refine AW.seq fun _ k2 => AW.cond true (by simp [Int.natCast_inj, hlt]) (fun _ => ?_) (fun h => by cases h)
      refine AW.skip ?_
      simp
      refine k2 _ ?_
      refine AW.seq fun _ k2 => ?_
      refine AW.block ?_
      refine AW.seq fun _ k3 => AW.region [] Θ_ok ?_
      simp [hlt]
      refine k3 _ ?_
      refine AW.seq fun _ k3 => ?_
      refine AW.seq fun _ k4 => AW.draw [] 40 [] Θ_ok mixed (by kernel_rfl) (by kernel_rfl) ?_
      simp [vcDraw, vcPre, vcTail, callA, isAlloc, isLoad, effOp, obl, obA, mkOK, valA, hlt, xO, xP, o1, n1, p1, p2, p1', p2', dx, dx2, wv, hk0, hvl, hvn]
      refine k4 _ ?_
      refine AW.cond false (by simp [Int.natCast_inj]) (fun h => by cases h) (fun _ => ?_)
      refine AW.skip ?_
      simp
      refine k3 _ ?_
      refine AW.seq fun _ k3 => AW.region [] Θ_ok ?_
      simp
      refine k3 _ ?_
      refine AW.block ?_
      refine AW.loopI (X := Nat) (fun y => y ≤ X[x].length) (fun y => ⟨162, [(125, .int .i64 y), (124, .int .i64 X[x].length), (123, .ro false (ints X[x])), (11, .int .i64 x), (12, .ro false (ints X[x])), (78, .int .i64 x), (77, .int .i64 X.length), (76, .ro false (rows X)), (3, .rop [.ro false (ints g.owner), .ro false (rows g.next)]), (7, .rop [.ro false (ints O), .ro false (rows X)]), (8, .ro false (ints P)), (10, .int .i64 K)], h⟩) (fun y => X[x].length - y) 0 (Nat.zero_le _) (GStep.eq (by simp) (subH.refl _)) fun y hy => ?_
      refine AW.seq fun _ k3 => AW.region [] Θ_ok ?_
      simp
      refine k3 _ ?_
      by_cases hly : y < X[x].length
      · have incy := wrap_succ (show y < 9223372036854775807 by omega)
        have hy2 : y < g.next[v].length := by omega
        have h00 : 0 < X[x].length := by omega
        have h02 : 0 < g.next[v].length := by omega
        obtain ⟨u, hu⟩ : ∃ u : Nat, g.next[v][y] = (u : Int) := ⟨g.next[v][y].toNat, by have := (hr _ (List.getElem_mem hy2)).1; omega⟩
        obtain ⟨u0, hu0⟩ : ∃ u : Nat, g.next[v][0] = (u : Int) := ⟨g.next[v][0].toNat, by have := (hr _ (List.getElem_mem h02)).1; omega⟩
        have q1 := n2 y hly hy2
        have q0 := n2 0 h00 h02
        rw [hu] at q1
        rw [hu0] at q0
        obtain ⟨d1, d2⟩ := divmod (x := u) hT
        obtain ⟨d3, d4⟩ := divmod (x := u0) hT
        have e1 : (u : Int) * (K : Int) + (T : Int) = ((u * K + T : Nat) : Int) := by rw [Int.natCast_add, Int.natCast_mul]
        have e0 : (u0 : Int) * (K : Int) + (T : Int) = ((u0 * K + T : Nat) : Int) := by rw [Int.natCast_add, Int.natCast_mul]
        rw [e1] at q1
        rw [e0] at q0
        have hub : u < 3000 := by have := (hr _ (List.getElem_mem hy2)).2; omega
        obtain ⟨w, hw⟩ : ∃ w, w = u * K + T := ⟨_, rfl⟩
        obtain ⟨w0, hw0⟩ : ∃ w, w = u0 * K + T := ⟨_, rfl⟩
        rw [← hw] at q1 d1 d2
        rw [← hw0] at q0 d3 d4
        have f1 : (w : Int).tdiv (K : Int) = (u : Int) := by rw [Int.tdiv_eq_ediv_of_nonneg (by omega), ← Int.natCast_ediv, d1]
        have f2 : (w : Int) / (K : Int) = (u : Int) := by rw [← Int.natCast_ediv, d1]
        have f3 : (w : Int).tmod (K : Int) = (T : Int) := by rw [Int.tmod_eq_emod_of_nonneg (by omega), ← Int.natCast_emod, d2]
        have f4 : (w : Int) % (K : Int) = (T : Int) := by rw [← Int.natCast_emod, d2]
        have f5 : (w0 : Int).tmod (K : Int) = (T : Int) := by rw [Int.tmod_eq_emod_of_nonneg (by omega), ← Int.natCast_emod, d4]
        have f6 : (w0 : Int) % (K : Int) = (T : Int) := by rw [← Int.natCast_emod, d4]
        have wu := wrap_nat (show u < 9223372036854775808 by omega)
        clear hw hw0 e1 e0 d1 d2 d3 d4
        refine AW.seq fun _ k3 => AW.cond true (by simp [Int.natCast_inj, hly]) (fun _ => ?_) (fun h => by cases h)
        refine AW.skip ?_
        simp
        refine k3 _ ?_
        refine AW.seq fun _ k3 => ?_
        refine AW.block ?_
        refine AW.seq fun _ k4 => AW.region [] Θ_ok ?_
        simp [hly, q1]
        refine k4 _ ?_
        refine AW.seq fun _ k4 => AW.draw [] 29 [] Θ_ok mixed (by kernel_rfl) (by kernel_rfl) ?_
        simp [vcDraw, vcPre, vcTail, callA, isAlloc, isLoad, effOp, obl, obA, mkOK, valA, hlt, xO, q1, q0, f1, f2, f3, f4, f5, f6, wu, dx, dx2, wv, hk0, hvn, hy2, hu, h00]
        refine k4 _ ?_
        refine AW.cond false (by simp [Int.natCast_inj]) (fun h => by cases h) (fun _ => ?_)
        refine AW.skip ?_
        simp
        refine k3 _ ?_
        refine AW.region [] Θ_ok ?_
        simp
        exact ⟨y + 1, by omega, by omega, GStep.eq (by simp [incy]) (subH.refl _)⟩
      · obtain rfl : y = X[x].length := by omega
        refine AW.seq fun _ k3 => AW.cond false (by simp [Int.natCast_inj]) (fun h => by cases h) (fun _ => ?_)
        refine AW.exit ?_
        simp
        refine k2 _ ?_
        refine AW.region [] Θ_ok ?_
        simp
        exact ⟨x + 1, by omega, by omega, GStep.eq (by simp [inc]) (subH.refl _)⟩
    obtain rfl : x = X.length := by omega
    refine AW.seq fun _ k2 => AW.cond false (by simp [Int.natCast_inj]) (fun h => by cases h) (fun _ => ?_)
    refine AW.exit ?_
    simp
    refine k1 _ ?_
    refine AW.seq fun _ kr => AW.region [] Θ_ok ?_
    simp
    refine (l20_awake).use (by simp [G.av]) ?_
    try simp
    refine kr _ (AW.ret ?_)
    simp [Try.f4]
    exact Fin.refl ⟨rfl, rfl⟩
  · rw [cgA, if_neg hE] at sG
    refine AW.seq fun _ k1 => AW.regionAt 4 [7] Θ_ok fun B hB => ?_
    simp
    refine sG.use (by simp [G.av]) ?_
    refine hB _ ?_
    clear hB B
    simp [newA, upd_same]
    refine fun o ho => k1 _ ?_
    refine AW.seq fun _ k1 => ?_
    refine AW.seq fun _ k2 => AW.region [] Θ_ok ?_
    simp [hE]
    refine k2 _ ?_
    refine AW.cond true (by simp [Int.natCast_inj, hE]) (fun _ => ?_) (fun h => by cases h)
    refine AW.seq fun _ kr => AW.region [] Θ_ok ?_
    simp
    refine (l20_awake).use (by simp [G.av]) ?_
    try simp
    refine kr _ (AW.ret ?_)
    simp [Try.f4]
    exact ⟨_, h, GV.sub (subH_upd ho), rfl, rfl⟩
end Go.Par
