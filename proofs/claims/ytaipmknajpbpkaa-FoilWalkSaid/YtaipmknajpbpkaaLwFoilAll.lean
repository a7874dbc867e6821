import Derived.Test.YtaipmknajpbpkaaFoA1
import Derived.Test.YtaipmknajpbpkaaRgA
import Derived.Test.YtaipmknajpbpkaaCgA
set_option linter.unusedSimpArgs false
set_option linter.unusedVariables false
set_option maxRecDepth 8000
set_option maxHeartbeats 2000000
namespace Go.Par
open Go.Proofs

theorem win_z {g : G} {A E : List (List Bool)} (h : cgErr g A E = 0) {v : Nat} (hv : v < g.owner.length) : fI (winL (cgG g A E) (cgP g A E)) (v * kC A E) = 0 ↔ hasN (solveL g A E).1 v = false := by
  have ok := cg_ok h
  have k0 := ok.k0
  have hp := cg_lt h hv k0
  have q := gr1_counter h hp
  rw [(cg_at h v 0 k0).1, Nat.add_zero] at q
  rcases solve_win (cg_pok h) (v := v * kC A E) (by rw [cg_len h]; exact hp) with w | w
  · rw [w] at q ⊢
    refine ⟨fun _ => ?_, fun _ => rfl⟩
    cases z : hasN (solveL g A E).1 v with
    | false => rfl
    | true => exact absurd (q.2 z) (by decide)
  · rw [w] at q ⊢
    rw [q.1 rfl]
    exact ⟨fun z => (by cases z), fun z => (by cases z)⟩
theorem stepV_ok {g : G} {A E : List (List Bool)} (h : cgErr g A E = 0) : ∀ v, v ≤ g.owner.length →
    (∀ s ∈ stepV g A E (winL (cgG g A E) (cgP g A E)) (toL (cgG g A E) (cgP g A E)) (kC A E) v, ∃ a b c : Nat, s.a = a ∧ a < v ∧ s.b = b ∧ b < kC A E ∧ s.c = c ∧ c < g.owner.length ∧ hasN (solveL g A E).1 a = false ∧ hasN (solveL g A E).1 c = false) ∧
    (stepV g A E (winL (cgG g A E) (cgP g A E)) (toL (cgG g A E) (cgP g A E)) (kC A E) v).Pairwise lexS
  | 0, _ => ⟨fun s hs => (by cases hs), List.Pairwise.nil⟩
  | v + 1, hv => by
    obtain ⟨h1, h2⟩ := stepV_ok h v (by omega)
    rw [stepV]
    by_cases c : ow g v = 0 ∧ fI (winL (cgG g A E) (cgP g A E)) (v * kC A E) = 0
    · rw [if_pos c]
      have nz := (win_z h (by omega)).1 c.2
      have k1 : ∀ s ∈ stepM A E (toL (cgG g A E) (cgP g A E)) (kC A E) v (kC A E), ∃ a b c : Nat, s.a = a ∧ a = v ∧ s.b = b ∧ b < kC A E ∧ s.c = c ∧ c < g.owner.length ∧ hasN (solveL g A E).1 c = false := by
        intro s hs
        obtain ⟨m, hm, rfl⟩ := mem_tab.1 hs
        obtain ⟨q, q1, q2, q3, q4, _⟩ := fo_env h (by omega) hm c.1 c.2
        have vq := cg_v h q3
        refine ⟨v, m, vC A E q, rfl, rfl, rfl, hm, ?_, vq, q4⟩
        rw [q1]
        show (((q : Int).toNat / kC A E : Nat) : Int) = ((q / kC A E : Nat) : Int)
        rw [show ((q : Nat) : Int).toNat = q by omega]
      refine ⟨fun s hs => ?_, List.pairwise_append.2 ⟨h2, ?_, fun s hs t ht => ?_⟩⟩
      · rcases List.mem_append.1 hs with hs | hs
        · obtain ⟨a, b, c, e1, e2, e3⟩ := h1 s hs
          exact ⟨a, b, c, e1, by omega, e3⟩
        · obtain ⟨a, b, c, e1, e2, e3, e4, e5, e6, e7⟩ := k1 s hs
          exact ⟨a, b, c, e1, by omega, e3, e4, e5, e6, by rw [e2]; exact nz, e7⟩
      · rw [List.pairwise_iff_getElem]
        intro i j hi hj hij
        simp only [stepM, getElem_tab]
        exact .inr ⟨rfl, by show ((i : Nat) : Int) < ((j : Nat) : Int); omega⟩
      · obtain ⟨a, b, c, e1, e2, _⟩ := h1 s hs
        obtain ⟨a', b', c', e1', e2', _⟩ := k1 t ht
        exact .inl (by rw [e1, e1']; omega)
    · rw [if_neg c, List.append_nil]
      refine ⟨fun s hs => ?_, h2⟩
      obtain ⟨a, b, c, e1, e2, e3⟩ := h1 s hs
      exact ⟨a, b, c, e1, by omega, e3⟩

theorem law_FoilAll (g : G) (hg : g.wide) (la : List (List Bool)) (hA : (DK.sl (.sl .bool)).fits la) (lb : List (List Bool)) (hB : (DK.sl (.sl .bool)).fits lb) : Pure Try.prog 9 [g.av, .ro false (bools2 la), .ro false (bools2 lb)] (.bool true) := by
  have hf := hg.f
  have sH := l18_Heavy g hf la lb (G.wide.rows2 hA) (G.wide.rows2 hB)
  have sS := foil_Steps g hf la lb
  have sG := r9_GR1 g hf la lb
  have sK := r9_Mems la lb
  intro h
  refine AC.body Θ_ok Try.func9 rfl rfl (Nat.le_of_ble_eq_true rfl) ?_
  refine AW.seq fun _ k1 => AW.region [] Θ_ok ?_
  simp
  refine k1 _ ?_
  refine AW.seq fun _ k1 => ?_
  by_cases h1 : 0 < heavy18 g la lb
  · refine AW.seq fun _ k2 => AW.regionAt 4 [] Θ_ok fun B hB => ?_
    simp
    refine sH.use (by simp [G.av]) ?_
    refine hB _ ?_
    clear hB B
    simp [h1]
    refine k2 _ ?_
    refine AW.cond true (by simp [Int.natCast_inj]) (fun _ => ?_) (fun h => by cases h)
    refine AW.seq fun _ kr => AW.region [] Θ_ok ?_
    simp
    refine (l21_awake).use (by simp [G.av]) ?_
    try simp
    refine kr _ (AW.ret ?_)
    simp [Try.f9]
    exact Fin.refl ⟨rfl, rfl⟩
  have h1' := Int.not_lt.1 h1
  by_cases h2 : 16 < g.owner.length
  · have h2' : (16 : Int) < g.owner.length := by omega
    refine AW.seq fun _ k2 => AW.regionAt 4 [] Θ_ok fun B hB => ?_
    simp
    refine sH.use (by simp [G.av]) ?_
    refine hB _ ?_
    clear hB B
    simp [h1, h1', h2, h2']
    refine k2 _ ?_
    refine AW.cond true (by simp [Int.natCast_inj]) (fun _ => ?_) (fun h => by cases h)
    refine AW.seq fun _ kr => AW.region [] Θ_ok ?_
    simp
    refine (l21_awake).use (by simp [G.av]) ?_
    try simp
    refine kr _ (AW.ret ?_)
    simp [Try.f9]
    exact Fin.refl ⟨rfl, rfl⟩
  have h2' : ¬ (16 : Int) < g.owner.length := by omega
  have h2'' : (g.owner.length : Int) ≤ 16 := by omega
  refine AW.seq fun _ k2 => AW.regionAt 4 [] Θ_ok fun B hB => ?_
  simp
  refine sH.use (by simp [G.av]) ?_
  refine hB _ ?_
  clear hB B
  simp [h1, h1', h2, h2', h2'']
  refine k2 _ ?_
  refine AW.cond false (by simp [Int.natCast_inj]) (fun h => by cases h) (fun _ => ?_)
  refine AW.skip ?_
  simp
  refine k1 _ ?_
  by_cases hE : cgErr g la lb = 0
  · have ok := cg_ok hE
    have hn := (may_ok ok.m).1
    have k0 := ok.k0
    have nK := ok.n
    have hK16 : kC la lb ≤ 16 := memsN_le _ _
    rw [foA, if_pos hE] at sS
    rw [gr1A, if_pos ⟨ok.m, ok.a4, ok.e4⟩] at sG
    have lZ : (solveL g la lb).1.length = g.owner.length := (solve_spec ok.m la lb).2.1.1
    have eL : foL g la lb = stepV g la lb (winL (cgG g la lb) (cgP g la lb)) (toL (cgG g la lb) (cgP g la lb)) (kC la lb) g.owner.length := rfl
    obtain ⟨o1, o2⟩ := stepV_ok hE g.owner.length (Nat.le_refl _)
    rw [← eL] at o1 o2
    have lV := stepV_len g la lb (winL (cgG g la lb) (cgP g la lb)) (toL (cgG g la lb) (cgP g la lb)) (kC la lb)
    have cnt : ∀ x, x < g.owner.length → (stepV g la lb (winL (cgG g la lb) (cgP g la lb)) (toL (cgG g la lb) (cgP g la lb)) (kC la lb) (x + 1)).length = (stepV g la lb (winL (cgG g la lb) (cgP g la lb)) (toL (cgG g la lb) (cgP g la lb)) (kC la lb) x).length + if ow g x = 0 ∧ hasN (solveL g la lb).1 x = false then kC la lb else 0 := by
      intro x hx
      rw [stepV, List.length_append]
      by_cases c : ow g x = 0 ∧ hasN (solveL g la lb).1 x = false
      · rw [if_pos c, if_pos ⟨c.1, (win_z hE hx).2 c.2⟩, stepM_len]
      · rw [if_neg c, if_neg (fun z => c ⟨z.1, (win_z hE hx).1 z.2⟩)]; rfl
    have eL2 := congrArg List.length eL
    obtain ⟨f, hf'⟩ : ∃ f : Nat → Nat, ∀ x, f x = (stepV g la lb (winL (cgG g la lb) (cgP g la lb)) (toL (cgG g la lb) (cgP g la lb)) (kC la lb) x).length := ⟨_, fun x => rfl⟩
    simp only [← hf'] at lV cnt eL2
    have f0 : f 0 = 0 := by rw [hf']; rfl
    clear hf' eL
    obtain ⟨K, eK⟩ : ∃ K, K = kC la lb := ⟨_, rfl⟩
    simp only [← eK] at hK16 o1 lV cnt
    rw [show memsN la.length lb.length = K from eK.symm] at sK k0 nK
    clear ok eK
    generalize foL g la lb = L at *
    generalize (solveL g la lb).1 = Z at *
    generalize (solveL g la lb).2 = rn at *
    have cnt2 : ∀ x (hx : x < g.owner.length) (hz : x < Z.length), f (x + 1) = f x + if g.owner[x] = 0 ∧ Z[x] = false then K else 0 := by
      intro x hx hz
      have := cnt x hx
      rwa [show ow g x = g.owner[x] by simp [ow, hx], show hasN Z x = Z[x] by simp [hasN, hz]] at this
    refine AW.seq fun _ k1 => AW.regionAt 4 [] Θ_ok fun B hB => ?_
    simp
    refine sS.use (by simp [G.av]) ?_
    refine hB _ ?_
    clear hB B
    simp
    refine k1 _ ?_
    refine AW.seq fun _ k1 => AW.regionAt 4 [] Θ_ok fun B hB => ?_
    simp
    refine sG.use (by simp [G.av]) ?_
    refine hB _ ?_
    clear hB B
    simp
    refine k1 _ ?_
    refine AW.seq fun _ k1 => AW.regionAt 3 [] Θ_ok fun B hB => ?_
    simp
    refine sK.use (by simp) ?_
    refine hB _ ?_
    clear hB B
    simp
    refine k1 _ ?_
    refine AW.seq fun _ k1 => ?_
    refine AW.seq fun _ k2 => AW.region [] Θ_ok ?_
    simp
    refine k2 _ ?_
    refine AW.cond false (by simp [Int.natCast_inj]) (fun h => by cases h) (fun _ => ?_)
    refine AW.skip ?_
    simp
    refine k1 _ ?_
    refine AW.seq fun _ k1 => AW.region [] Θ_ok ?_
    simp
    refine k1 _ ?_
    refine AW.seq fun _ k1 => ?_
    refine AW.seq fun _ k2 => AW.region [] Θ_ok ?_
    simp [lZ]
    refine k2 _ ?_
    refine AW.block ?_
    refine AW.loopI (X := Nat) (fun x => x ≤ g.owner.length) (fun x => ⟨178, [(3, .rop [.ro false (ints g.owner), .ro false (rows g.next)]), (7, .ro false (avS L)), (9, .ro true (bools Z)), (11, .int .i64 K), (12, .int .i64 (f x)), (58, .ro true (bools Z)), (59, .int .i64 g.owner.length), (60, .int .i64 x)], h⟩) (fun x => g.owner.length - x) 0 (Nat.zero_le _) (GStep.eq (by simp [f0]) (subH.refl _)) fun x hx => ?_
    refine AW.seq fun _ k2 => AW.region [] Θ_ok ?_
    simp
    refine k2 _ ?_
    by_cases hlt : x < g.owner.length
    · have inc := wrap_succ (show x < 9223372036854775807 by omega)
      have hltZ : x < Z.length := by omega
      have cx := cnt2 x hlt hltZ
      have lx := lV x
      have lx2 : x * K ≤ g.owner.length * K := Nat.mul_le_mul_right _ hx
      have wf : IntKind.i64.wrap ((f x : Int) + (K : Int)) = ((f x + K : Nat) : Int) := by
        rw [show ((f x : Int) + (K : Int)) = ((f x + K : Nat) : Int) by push_cast; rfl]; exact wrap_nat (by omega)
      obtain ⟨y, hy⟩ : ∃ y, y = f x + K := ⟨_, rfl⟩
      rw [← hy] at wf
      refine AW.seq fun _ k2 => AW.cond true (by simp [Int.natCast_inj, hlt]) (fun _ => ?_) (fun h => by cases h)
      refine AW.skip ?_
      simp
      refine k2 _ ?_
      refine AW.seq fun _ k2 => ?_
      refine AW.block ?_
      refine AW.seq fun _ k3 => AW.region [] Θ_ok ?_
      simp [hltZ]
      refine k3 _ ?_
      cases hz : Z[x] with
      | true =>
        rw [hz] at cx
        simp only [Bool.true_eq_false, and_false, if_false, Nat.add_zero] at cx
        refine AW.seq fun _ k3 => AW.region [] Θ_ok ?_
        simp [hltZ, hz]
        refine k3 _ ?_
        refine AW.cond false (by simp [Int.natCast_inj]) (fun h => by cases h) (fun _ => ?_)
        refine AW.skip ?_
        simp
        refine k2 _ ?_
        refine AW.region [] Θ_ok ?_
        simp
        exact ⟨x + 1, by omega, by omega, GStep.eq (by simp [inc, cx]) (subH.refl _)⟩
      | false =>
        rw [hz] at cx
        by_cases ho : g.owner[x] = 0
        · rw [if_pos ⟨ho, rfl⟩, ← hy] at cx
          refine AW.seq fun _ k3 => AW.region [] Θ_ok ?_
          simp [hltZ, hz, hlt, ho]
          refine k3 _ ?_
          refine AW.cond true (by simp [Int.natCast_inj, ho]) (fun _ => ?_) (fun h => by cases h)
          refine AW.region [] Θ_ok ?_
          simp [wf]
          refine k2 _ ?_
          refine AW.region [] Θ_ok ?_
          simp
          exact ⟨x + 1, by omega, by omega, GStep.eq (by simp [inc, cx]) (subH.refl _)⟩
        · rw [if_neg (fun z => ho z.1), Nat.add_zero] at cx
          refine AW.seq fun _ k3 => AW.region [] Θ_ok ?_
          simp [hltZ, hz, hlt, ho]
          refine k3 _ ?_
          refine AW.cond false (by simp [Int.natCast_inj, ho]) (fun h => by cases h) (fun _ => ?_)
          refine AW.skip ?_
          simp
          refine k2 _ ?_
          refine AW.region [] Θ_ok ?_
          simp
          exact ⟨x + 1, by omega, by omega, GStep.eq (by simp [inc, cx]) (subH.refl _)⟩
    have hxx : x = g.owner.length := by omega
    subst hxx
    refine AW.seq fun _ k2 => AW.cond false (by simp [Int.natCast_inj]) (fun h => by cases h) (fun _ => ?_)
    refine AW.exit ?_
    simp
    refine k1 _ ?_
    rw [← eL2]
    clear cnt cnt2 hlt hx
    have lS : (avS L).length = L.length := by simp [avS]
    have gS : ∀ i (h : i < (avS L).length) (h2 : i < L.length), (avS L)[i] = .agg [.int .i64 L[i].a, .int .i64 L[i].b, .int .i64 L[i].c, .int .i64 L[i].d] := fun i h h2 => by simp [avS, S4.l]
    have hL3 : L.length ≤ 3000 := by have := lV g.owner.length; omega
    have pw := List.pairwise_iff_getElem.1 o2
    refine AW.seq fun _ k1 => ?_
    refine AW.seq fun _ k2 => AW.region [] Θ_ok ?_
    simp [lS]
    refine k2 _ ?_
    refine AW.block ?_
    refine AW.loopI (X := Nat) (fun x => x ≤ L.length) (fun x => ⟨178, [(7, .ro false (avS L)), (9, .ro true (bools Z)), (11, .int .i64 K), (12, .int .i64 L.length), (79, .ro false (avS L)), (80, .int .i64 L.length), (81, .int .i64 x)], h⟩) (fun x => L.length - x) 0 (Nat.zero_le _) (GStep.eq (by simp) (subH.refl _)) fun x hx => ?_
    refine AW.seq fun _ k2 => AW.region [] Θ_ok ?_
    simp
    refine k2 _ ?_
    by_cases hlt : x < L.length
    · have inc := wrap_succ (show x < 9223372036854775807 by omega)
      have hltS : x < (avS L).length := by omega
      have gx := gS x hltS hlt
      obtain ⟨a, b, c, e1, e2, e3, e4, e5, e6, e7, e8⟩ := o1 L[x] (List.getElem_mem hlt)
      have haZ : a < Z.length := by omega
      have hcZ : c < Z.length := by omega
      rw [show hasN Z a = Z[a] by simp [hasN, haZ]] at e7
      rw [show hasN Z c = Z[c] by simp [hasN, hcZ]] at e8
      rw [e1, e3, e5] at gx
      refine AW.seq fun _ k2 => AW.cond true (by simp [Int.natCast_inj, hlt]) (fun _ => ?_) (fun h => by cases h)
      refine AW.skip ?_
      simp
      refine k2 _ ?_
      refine AW.seq fun _ k2 => ?_
      refine AW.block ?_
      refine AW.seq fun _ k3 => AW.region [16] Θ_ok ?_
      simp [newA, hltS, hlt, lS, gx, setAt]
      refine fun o ho => k3 _ ?_
      refine AW.box 16 rfl (upd_same _ _ _) ?_
      simp only [updNF _ ho]
      have n1 : ¬ (a : Int) < 0 := by omega
      have n1' : (0 : Int) ≤ (a : Int) := by omega
      have n2 : ¬ (g.owner.length : Int) ≤ (a : Int) := by omega
      have n2' : ¬ g.owner.length ≤ a := by omega
      have n3 : ¬ (c : Int) < 0 := by omega
      have n4 : ¬ (g.owner.length : Int) ≤ (c : Int) := by omega
      have n4' : ¬ g.owner.length ≤ c := by omega
      have n5 : ¬ (b : Int) < 0 := by omega
      have n6 : ¬ (K : Int) ≤ (b : Int) := by omega
      have n6' : ¬ K ≤ b := by omega
      by_cases hx0 : x = 0
      · subst hx0
        refine AW.seq fun _ k3 => AW.draw [] 84 [] Θ_ok mixed (by kernel_rfl) (by kernel_rfl) ?_
        refine vcDraw_split 18 fun B hB => ?_
        simp [vcPre, vcTail, callA, isAlloc, isLoad, effOp, obl, obA, mkOK, valA, lZ, n1, n1', n2, n2', n3, n4, n4', n5, n6, n6', e2, e6, e7, e8, haZ, hcZ]
        refine hB _ _ _ ?_
        clear hB B
        refine vcPre_split 19 fun B hB => ?_
        simp [vcPre, vcTail, callA, isAlloc, isLoad, effOp, obl, obA, mkOK, valA, lZ, n1, n1', n2, n2', n3, n4, n4', n5, n6, n6', e2, e6, e7, e8, haZ, hcZ]
        refine hB _ _ _ ?_
        clear hB B
        refine vcPre_split 11 fun B hB => ?_
        simp [vcPre, vcTail, callA, isAlloc, isLoad, effOp, obl, obA, mkOK, valA, lZ, n1, n1', n2, n2', n3, n4, n4', n5, n6, n6', e2, e6, e7, e8, haZ, hcZ]
        refine hB _ _ _ ?_
        clear hB B
        refine vcPre_split 14 fun B hB => ?_
        simp [vcPre, vcTail, callA, isAlloc, isLoad, effOp, obl, obA, mkOK, valA, lZ, n1, n1', n2, n2', n3, n4, n4', n5, n6, n6', e2, e6, e7, e8, haZ, hcZ]
        refine hB _ _ _ ?_
        clear hB B
        simp [vcPre, vcTail, callA, isAlloc, isLoad, effOp, obl, obA, mkOK, valA, lZ, n1, n1', n2, n2', n3, n4, n4', n5, n6, n6', e2, e6, e7, e8, haZ, hcZ]
        refine k3 _ ?_
        refine AW.cond false (by simp [Int.natCast_inj]) (fun h => by cases h) (fun _ => ?_)
        refine AW.skip ?_
        simp
        refine k2 _ ?_
        refine AW.region [] Θ_ok ?_
        simp
        exact ⟨0 + 1, by omega, by omega, GStep.eq (by simp [show IntKind.i64.wrap 1 = 1 from rfl]) (subH.refl _)⟩
      · obtain ⟨j, hj⟩ : ∃ j, x = j + 1 := ⟨x - 1, by omega⟩
        have hjL : j < L.length := by omega
        have hjS : j < (avS L).length := by omega
        have gj := gS j hjS hjL
        obtain ⟨a', b', c', f1, f2, f3, f4, f5, f6, f7, f8⟩ := o1 L[j] (List.getElem_mem hjL)
        have lx := pw j x hjL hlt (by omega)
        unfold lexS at lx
        rw [f1, f3, e1, e3] at lx
        rw [f1, f3, f5] at gj
        have wj : IntKind.i64.wrap ((x : Int) - 1) = (j : Int) := by
          rw [show ((x : Int) - 1) = (j : Int) by omega]; exact wrap_nat (by omega)
        have n7 : (0 : Int) < (x : Int) := by omega
        have n7' : 0 < x := by omega
        rcases lx with q | ⟨q1, q2⟩
        · have n8 : ¬ (a : Int) < (a' : Int) := by omega
          have n8' : ¬ a < a' := by omega
          have n9 : ¬ a = a' := by omega
          have n9' : ((a : Int) == (a' : Int)) = false := by simp; omega
          refine AW.seq fun _ k3 => AW.draw [] 84 [] Θ_ok mixed (by kernel_rfl) (by kernel_rfl) ?_
          refine vcDraw_split 18 fun B hB => ?_
          simp [vcPre, vcTail, callA, isAlloc, isLoad, effOp, obl, obA, mkOK, valA, lZ, n1, n1', n2, n2', n3, n4, n4', n5, n6, n6', e2, e6, e7, e8, haZ, hcZ, n7, n7', wj, hjS, hjL, gj, lS, n8, n8', n9, n9']
          refine hB _ _ _ ?_
          clear hB B
          refine vcPre_split 19 fun B hB => ?_
          simp [vcPre, vcTail, callA, isAlloc, isLoad, effOp, obl, obA, mkOK, valA, lZ, n1, n1', n2, n2', n3, n4, n4', n5, n6, n6', e2, e6, e7, e8, haZ, hcZ, n7, n7', wj, hjS, hjL, gj, lS, n8, n8', n9, n9']
          refine hB _ _ _ ?_
          clear hB B
          refine vcPre_split 11 fun B hB => ?_
          simp [vcPre, vcTail, callA, isAlloc, isLoad, effOp, obl, obA, mkOK, valA, lZ, n1, n1', n2, n2', n3, n4, n4', n5, n6, n6', e2, e6, e7, e8, haZ, hcZ, n7, n7', wj, hjS, hjL, gj, lS, n8, n8', n9, n9']
          refine hB _ _ _ ?_
          clear hB B
          refine vcPre_split 14 fun B hB => ?_
          simp [vcPre, vcTail, callA, isAlloc, isLoad, effOp, obl, obA, mkOK, valA, lZ, n1, n1', n2, n2', n3, n4, n4', n5, n6, n6', e2, e6, e7, e8, haZ, hcZ, n7, n7', wj, hjS, hjL, gj, lS, n8, n8', n9, n9']
          refine hB _ _ _ ?_
          clear hB B
          simp [vcPre, vcTail, callA, isAlloc, isLoad, effOp, obl, obA, mkOK, valA, lZ, n1, n1', n2, n2', n3, n4, n4', n5, n6, n6', e2, e6, e7, e8, haZ, hcZ, n7, n7', wj, hjS, hjL, gj, lS, n8, n8', n9, n9']
          refine k3 _ ?_
          refine AW.cond false (by simp [Int.natCast_inj]) (fun h => by cases h) (fun _ => ?_)
          refine AW.skip ?_
          simp
          refine k2 _ ?_
          refine AW.region [] Θ_ok ?_
          simp
          exact ⟨x + 1, by omega, by omega, GStep.eq (by simp [inc]) (subH.refl _)⟩
        · have qa : a' = a := by omega
          subst qa
          have n8 : ¬ (b : Int) ≤ (b' : Int) := by omega
          have n8' : ¬ b ≤ b' := by omega
          refine AW.seq fun _ k3 => AW.draw [] 84 [] Θ_ok mixed (by kernel_rfl) (by kernel_rfl) ?_
          refine vcDraw_split 18 fun B hB => ?_
          simp [vcPre, vcTail, callA, isAlloc, isLoad, effOp, obl, obA, mkOK, valA, lZ, n1, n1', n2, n2', n3, n4, n4', n5, n6, n6', e2, e6, e7, e8, haZ, hcZ, n7, n7', wj, hjS, hjL, gj, lS, n8, n8']
          refine hB _ _ _ ?_
          clear hB B
          refine vcPre_split 19 fun B hB => ?_
          simp [vcPre, vcTail, callA, isAlloc, isLoad, effOp, obl, obA, mkOK, valA, lZ, n1, n1', n2, n2', n3, n4, n4', n5, n6, n6', e2, e6, e7, e8, haZ, hcZ, n7, n7', wj, hjS, hjL, gj, lS, n8, n8']
          refine hB _ _ _ ?_
          clear hB B
          refine vcPre_split 11 fun B hB => ?_
          simp [vcPre, vcTail, callA, isAlloc, isLoad, effOp, obl, obA, mkOK, valA, lZ, n1, n1', n2, n2', n3, n4, n4', n5, n6, n6', e2, e6, e7, e8, haZ, hcZ, n7, n7', wj, hjS, hjL, gj, lS, n8, n8']
          refine hB _ _ _ ?_
          clear hB B
          refine vcPre_split 14 fun B hB => ?_
          simp [vcPre, vcTail, callA, isAlloc, isLoad, effOp, obl, obA, mkOK, valA, lZ, n1, n1', n2, n2', n3, n4, n4', n5, n6, n6', e2, e6, e7, e8, haZ, hcZ, n7, n7', wj, hjS, hjL, gj, lS, n8, n8']
          refine hB _ _ _ ?_
          clear hB B
          simp [vcPre, vcTail, callA, isAlloc, isLoad, effOp, obl, obA, mkOK, valA, lZ, n1, n1', n2, n2', n3, n4, n4', n5, n6, n6', e2, e6, e7, e8, haZ, hcZ, n7, n7', wj, hjS, hjL, gj, lS, n8, n8']
          refine k3 _ ?_
          refine AW.cond false (by simp [Int.natCast_inj]) (fun h => by cases h) (fun _ => ?_)
          refine AW.skip ?_
          simp
          refine k2 _ ?_
          refine AW.region [] Θ_ok ?_
          simp
          exact ⟨x + 1, by omega, by omega, GStep.eq (by simp [inc]) (subH.refl _)⟩
    have hxx : x = L.length := by omega
    subst hxx
    refine AW.seq fun _ k2 => AW.cond false (by simp [Int.natCast_inj]) (fun h => by cases h) (fun _ => ?_)
    refine AW.exit ?_
    simp
    refine k1 _ ?_
    refine AW.seq fun _ kr => AW.regionAt 6 [] Θ_ok fun B hB => ?_
    simp [lS]
    refine l21_awake.use (by simp) ?_
    refine hB _ ?_
    clear hB B
    simp
    refine kr _ (AW.ret ?_)
    simp [Try.f9]
    exact Fin.refl ⟨rfl, rfl⟩
  · rw [foA, if_neg hE] at sS
    have hE' : ¬ (0 : Int) = cgErr g la lb := fun e => hE e.symm
    have sG2 : ∃ z r : AV, Pure Try.prog 15 [g.av, .ro false (bools2 la), .ro false (bools2 lb)] (.tup [z, r]) := by
      unfold gr1A at sG
      split at sG
      · exact ⟨_, _, sG⟩
      · exact ⟨_, _, sG⟩
    obtain ⟨z, r, sG2⟩ := sG2
    generalize cgErr g la lb = e at *
    refine AW.seq fun _ k1 => AW.regionAt 4 [] Θ_ok fun B hB => ?_
    simp
    refine sS.use (by simp [G.av]) ?_
    refine hB _ ?_
    clear hB B
    simp
    refine k1 _ ?_
    refine AW.seq fun _ k1 => AW.regionAt 4 [] Θ_ok fun B hB => ?_
    simp
    refine sG2.use (by simp [G.av]) ?_
    refine hB _ ?_
    clear hB B
    simp
    refine k1 _ ?_
    refine AW.seq fun _ k1 => AW.regionAt 3 [] Θ_ok fun B hB => ?_
    simp
    refine sK.use (by simp) ?_
    refine hB _ ?_
    clear hB B
    simp
    refine k1 _ ?_
    refine AW.seq fun _ k1 => ?_
    refine AW.seq fun _ k2 => AW.region [] Θ_ok ?_
    simp [hE]
    refine k2 _ ?_
    refine AW.cond true (by simp [Int.natCast_inj, hE]) (fun _ => ?_) (fun h => by cases h)
    refine AW.seq fun _ kr => AW.regionAt 5 [] Θ_ok fun B hB => ?_
    simp
    refine l21_awake.use (by simp) ?_
    refine hB _ ?_
    clear hB B
    simp
    refine kr _ (AW.ret ?_)
    simp [Try.f9]
    exact Fin.refl ⟨rfl, rfl⟩
end Go.Par
