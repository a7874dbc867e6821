/- P17.2: ProofFair. -/
import Derived.Test.YtigipgahgkngcaaLwProofRows
import Derived.Test.YtigipgahgkngcaaTjQ
import Derived.Test.YtigipgahgkngcaaTjP
import Derived.Test.YtigipgahgkngcaaMaLn
set_option linter.unusedSimpArgs false
set_option linter.unusedVariables false
set_option maxRecDepth 8000
set_option maxHeartbeats 2000000
namespace Go.Par
open Go.Proofs

theorem full_bools (next : List (List Int)) : (tab next.length fun _ => AV.bool true) = bools (fullL next) := by
  simp only [bools, fullL, map_tab]

theorem law_ProofFair (next : List (List Int)) (hn : (DK.sl (.sl .int)).fits next) (from_ : List Bool) (hf : (DK.sl .bool).fits from_) (la : List (List Bool)) (hA : (DK.sl (.sl .bool)).fits la) (lb : List (List Bool)) (hB : (DK.sl (.sl .bool)).fits lb) :
    Pure Try.prog 7 [.ro false (rows next), .ro false (bools from_), .ro false (bools2 la), .ro false (bools2 lb)] (.bool true) := by
  obtain ⟨n1, n2⟩ := fits_ll hn
  obtain ⟨a1, a2⟩ := fits_bb hA
  obtain ⟨b1, b2⟩ := fits_bb hB
  have sL := l17_light next n1 n2 from_ (fits_b hf) [la, lb] (by simp) (fun A h => by
    simp at h; rcases h with rfl | rfl
    · exact a2
    · exact b2) (fun A h => by
    simp at h; rcases h with rfl | rfl
    · exact a1
    · exact b1)
  have sS := l17_sound next n1 n2
  have sA := l17_awake
  intro h
  refine AC.body Θ_ok Try.func7 rfl rfl (Nat.le_of_ble_eq_true rfl) ?_
  refine AW.seq fun _ k1 => AW.region [] Θ_ok ?_
  simp
  refine k1 _ ?_
  refine AW.seq fun _ k1 => ?_
  by_cases hok : light17 next from_ [la, lb] = true ∧ soundB next = true ∧ la.length ≤ 6 ∧ lb.length ≤ 6
  · obtain ⟨hl, hs, c1, c2⟩ := hok
    rw [hl] at sL
    rw [hs] at sS
    have c1' : ¬ (6 : Int) < la.length := by omega
    have c2' : ¬ (6 : Int) < lb.length := by omega
    refine AW.seq fun _ k2 => AW.regionAt 6 [] Θ_ok fun B hB => ?_
    simp
    refine ⟨rfl, ?_⟩
    refine sL.use (by simp [bools3]) ?_
    refine hB _ ?_
    clear hB B
    refine vcOps_split 4 fun B hB => ?_
    simp
    refine sS.use (by simp) ?_
    refine hB _ ?_
    clear hB B
    simp [c1', c2']
    refine k2 _ ?_
    refine AW.cond false (by simp [Int.natCast_inj]) (fun h => by cases h) (fun _ => ?_)
    refine AW.skip ?_
    simp
    refine k1 _ ?_
    obtain ⟨hN, _, _, hr, _⟩ := light_row hl
    have hm : mayN next = true := by rw [sound_may (by omega)]; exact hs
    refine AW.seq fun _ k4 => AW.region [39] Θ_ok ?_
    simp
    refine ⟨by omega, fun o ho => k4 _ ?_⟩
    rw [replicate_tab, flat_tab (fun _ _ => rfl)]
    refine AW.seqTo ⟨122, [(0, .ro false (rows next)), (1, .ro false (bools from_)), (2, .ro false (bools2 la)), (3, .ro false (bools2 lb)), (9, .ro false (bools (fullL next)))], h⟩ (fun _ k1 => ?_) ?_
    · refine AW.seq fun _ k2 => AW.region [] Θ_ok ?_
      simp
      refine k2 _ ?_
      refine AW.block ?_
      refine AW.loopI (X := Nat) (fun x => x ≤ next.length) (fun x => ⟨122, [(0, .ro false (rows next)), (1, .ro false (bools from_)), (2, .ro false (bools2 la)), (3, .ro false (bools2 lb)), (9, .mu o next.length), (41, .int .i64 next.length), (42, .int .i64 x)], upd h o (some ⟨tab next.length fun i => .bool (decide (i < x)), 4, 1, true⟩)⟩) (fun x => next.length - x) 0 (Nat.zero_le _) (GStep.eq (by simp) ?_) fun x hx => ?_
      · simp; exact subH.refl _
      refine AW.seq fun _ k2 => AW.region [] Θ_ok ?_
      simp
      refine k2 _ ?_
      by_cases hlt : x < next.length
      · have inc := wrap_succ (show x < 9223372036854775807 by omega)
        have hset : (tab next.length fun i => AV.bool (decide (i < x))).set x (.bool true) = tab next.length fun i => .bool (decide (i < x + 1)) := by
          rw [set_tab]
          refine tab_congr fun i hi => ?_
          by_cases e : i = x
          · subst e; simp
          · by_cases h1 : i < x
            · simp [e, h1, show i < x + 1 by omega]
            · simp [e, h1, show ¬ i < x + 1 by omega]
        refine AW.seq fun _ k2 => AW.cond true (by simp [Int.natCast_inj, hlt]) (fun _ => ?_) (fun h => by cases h)
        refine AW.skip ?_
        simp
        refine k2 _ ?_
        refine AW.seq fun _ k2 => ?_
        refine AW.block ?_
        refine AW.seq fun _ k3 => AW.region [] Θ_ok ?_
        simp
        refine k3 _ ?_
        refine AW.region [] Θ_ok ?_
        simp [hlt]
        refine ⟨by omega, k2 _ ?_⟩
        refine AW.region [] Θ_ok ?_
        simp
        exact ⟨x + 1, by omega, by omega, GStep.eq (by simp [inc]) (subH_of_eq (congrArg (fun c => upd h o (some ⟨c, 4, 1, true⟩)) hset))⟩
      obtain rfl : x = next.length := by omega
      refine AW.seq fun _ k2 => AW.cond false (by simp [Int.natCast_inj]) (fun h => by cases h) (fun _ => ?_)
      refine AW.exit ?_
      simp
      have ea : (tab next.length fun i => AV.bool (decide (i < next.length))) = bools (fullL next) := by
        simp only [bools, fullL, map_tab]; exact tab_congr fun i hi => by simp [hi]
      rw [ea]
      refine k1 _ (GStep.trans (GStep.freeze (t := 9) (n := next.length) (k := false) (by simp) (upd_same _ _ _) (fun e => by cases e) rfl (by simp [fullL]) (fun u hu => by obtain ⟨z, _, rfl⟩ := List.mem_map.1 hu; rfl)) (GStep.eq (by simp) ?_))
      simp only
      rw [upd_upd, upd_none_id ho]; exact subH.refl _
    clear ho o
    have p1 := proof_Fair next n1 hr from_ la lb a1 b1
    have p2 := proof_Unfair next n1 hr from_ la lb a1 b1
    have p3 := proof_Fair next n1 hr from_ [] [[]] (by simp) (by simp)
    have p4 := proof_Fair next n1 hr from_ (la ++ [fullL next]) (lb ++ [fullL next]) (by simp; omega) (by simp; omega)
    have p5 := proof_Unfair next n1 hr from_ (la ++ [fullL next]) (lb ++ [fullL next]) (by simp; omega) (by simp; omega)
    rw [fair_all] at p4
    rw [unfair_all] at p5
    rw [hm, Bool.true_and] at p1 p2 p3 p4 p5
    have three : (fairB next from_ [] [[]] = true ∧ fairB next from_ la lb = true ∧ unfairB next from_ la lb = true) ∨ (fairB next from_ [] [[]] = false ∧ ¬ (fairB next from_ la lb = true ∧ unfairB next from_ la lb = true)) := by
      by_cases q : AnyC next from_
      · refine .inr ⟨?_, fun z => both_on z.1 z.2 q⟩
        cases e : fairB next from_ [] [[]] with
        | false => rfl
        | true => exact absurd q (on_iff.1 e)
      · exact .inl ⟨on_iff.2 q, fair_on q, unfair_on q⟩
    generalize fairB next from_ la lb = x at *
    generalize unfairB next from_ la lb = y at *
    generalize fairB next from_ [] [[]] = on at *
    generalize fullL next = FU at *
    refine AW.seq fun _ k2 => AW.regionAt 5 [] Θ_ok fun B hB => ?_
    simp
    refine p1.use (by simp) ?_
    refine hB _ ?_
    clear hB B
    refine vcOps_split 5 fun B hB => ?_
    simp
    refine p2.use (by simp) ?_
    refine hB _ ?_
    clear hB B
    simp
    refine k2 _ ?_
    refine AW.seq fun _ k2 => AW.region [] Θ_ok ?_
    simp
    refine p3.use (by simp [bools2, bools]) ?_
    try simp
    refine k2 _ ?_
    have ef : ∀ A, List.flatMap AV.flat (bools2 A) = bools2 A := fun A => flat_ones fun u hu => by obtain ⟨z, _, rfl⟩ := List.mem_map.1 hu; rfl
    have et : ∀ A : List (List Bool), List.take A.length (bools2 A) = bools2 A := fun A => List.take_of_length_le (by simp [bools2])
    have el : ∀ A : List (List Bool), (bools2 A).length = A.length := fun A => by simp [bools2]
    have lend : ∀ (H : Heap) (o n : Nat) (A : List (List Bool)), H o = some ⟨bools2 A ++ [.ro false (bools FU)], 23, 1, true⟩ → n = A.length + 1 → Lend H (.mu o n) (.ro false (bools2 (A ++ [FU]))) := fun H o n A hx hn => by
      subst hn
      refine .mu hx (fun e => by cases e) (by simp [bools2]) (fun y hy => by obtain ⟨z, _, rfl⟩ := List.mem_map.1 hy; rfl) ?_
      rw [ef, List.take_of_length_le (by simp [bools2])]
      simp [bools2]
    have ones : ∀ A, ∀ y ∈ bools2 A, y.flat.length = 1 ∧ allOne y.flat := fun A y hy => by obtain ⟨z, _, rfl⟩ := List.mem_map.1 hy; exact ⟨rfl, by simp [allOne]⟩
    have o1 := ones la
    have o2 := ones lb
    obtain ⟨bl, hbl⟩ : ∃ bl, bl = bools2 la := ⟨_, rfl⟩
    obtain ⟨cl, hcl⟩ : ∃ cl, cl = bools2 lb := ⟨_, rfl⟩
    have ef1 := ef la
    have ef2 := ef lb
    have et1 := et la
    have et2 := et lb
    have el1 := el la
    have el2 := el lb
    rw [← hbl] at ef1 et1 el1 o1 ⊢
    rw [← hcl] at ef2 et2 el2 o2 ⊢
    cases x <;> cases y <;> cases on
    all_goals first | (exfalso; simp at three; done) | skip
    all_goals
      refine AW.seq fun _ kr => AW.regionAt 34 [84, 90, 103, 109] Θ_ok fun B hB => ?_
      simp [obA, mkOK, valA, newA, appendA, ef1, ef2, et1, et2, el1, el2]
      refine fun b hb => ⟨⟨rfl, o1⟩, ⟨by omega, by omega⟩, fun m1 h1 => ?_⟩
      simp only [upd_none_id hb]
      obtain ⟨_, h1'⟩ := ne_of_none h1 (by simp)
      simp only [upd_none_id h1']
      refine ⟨rfl, ⟨by omega, by omega⟩, fun m2 h2 b1 hb1 => ⟨⟨rfl, o2⟩, ⟨by omega, by omega⟩, fun m3 h3 => ?_⟩⟩
      simp only [upd_none_id hb1]
      obtain ⟨_, h3'⟩ := ne_of_none h3 (by simp)
      simp only [upd_none_id h3']
      refine ⟨rfl, ⟨by omega, by omega⟩, fun m4 h4 => ?_⟩
      obtain ⟨_, h2'⟩ := ne_of_none h2 (by simp)
      obtain ⟨_, h4'⟩ := ne_of_none h4 (by simp)
      obtain ⟨n42, h4''⟩ := ne_of_none h4' (by simp)
      have g4 : ∀ X Y : Ob, upd (upd h m2 (some X)) m4 (some Y) m4 = some Y := fun X Y => upd_same _ _ _
      have g2 : ∀ X Y : Ob, upd (upd h m2 (some X)) m4 (some Y) m2 = some X := fun X Y => by rw [upd_ne _ _ (Ne.symm n42), upd_same]
      refine (AC.lendPlain (.cons (.same (by simp)) (.cons (.same (by simp)) (.cons (lend _ _ _ la (by rw [g2, hbl]) rfl) (.cons (lend _ _ _ lb (by rw [g4, hcl]) rfl) .nil)))) p4 rfl).mono ?_
      rintro r h' ⟨rfl, rfl⟩
      have sub1 : subH h (upd (upd h m2 (some ⟨bl ++ [.ro false (bools FU)], 23, 1, true⟩)) m4 (some ⟨cl ++ [.ro false (bools FU)], 23, 1, true⟩)) := fun y z hy => by
        rw [upd_ne _ _ (fun e => by rw [e, h4''] at hy; cases hy), upd_ne _ _ (fun e => by rw [e, h2'] at hy; cases hy)]; exact hy
      obtain ⟨H, hH⟩ : ∃ H, H = upd (upd h m2 (some ⟨bl ++ [.ro false (bools FU)], 23, 1, true⟩)) m4 (some ⟨cl ++ [.ro false (bools FU)], 23, 1, true⟩) := ⟨_, rfl⟩
      rw [← hH] at sub1 ⊢
      refine hB _ ?_
      clear hB B
      refine vcOps_split 19 fun B hB => ?_
      simp [obA, mkOK, valA, newA, appendA, ef1, ef2, et1, et2, el1, el2]
      refine fun b hb => ⟨⟨rfl, o1⟩, ⟨by omega, by omega⟩, fun m1 h1 => ?_⟩
      simp only [upd_none_id hb]
      obtain ⟨_, h1'⟩ := ne_of_none h1 (by simp)
      simp only [upd_none_id h1']
      refine ⟨rfl, ⟨by omega, by omega⟩, fun m2 h2 b1 hb1 => ⟨⟨rfl, o2⟩, ⟨by omega, by omega⟩, fun m3 h3 => ?_⟩⟩
      simp only [upd_none_id hb1]
      obtain ⟨_, h3'⟩ := ne_of_none h3 (by simp)
      simp only [upd_none_id h3']
      refine ⟨rfl, ⟨by omega, by omega⟩, fun m4 h4 => ?_⟩
      obtain ⟨_, h2'⟩ := ne_of_none h2 (by simp)
      obtain ⟨_, h4'⟩ := ne_of_none h4 (by simp)
      obtain ⟨n42, h4''⟩ := ne_of_none h4' (by simp)
      have g4 : ∀ X Y : Ob, upd (upd H m2 (some X)) m4 (some Y) m4 = some Y := fun X Y => upd_same _ _ _
      have g2 : ∀ X Y : Ob, upd (upd H m2 (some X)) m4 (some Y) m2 = some X := fun X Y => by rw [upd_ne _ _ (Ne.symm n42), upd_same]
      refine (AC.lendPlain (.cons (.same (by simp)) (.cons (.same (by simp)) (.cons (lend _ _ _ la (by rw [g2, hbl]) rfl) (.cons (lend _ _ _ lb (by rw [g4, hcl]) rfl) .nil)))) p5 rfl).mono ?_
      rintro r h' ⟨rfl, rfl⟩
      have sub2 : subH H (upd (upd H m2 (some ⟨bl ++ [.ro false (bools FU)], 23, 1, true⟩)) m4 (some ⟨cl ++ [.ro false (bools FU)], 23, 1, true⟩)) := fun y z hy => by
        rw [upd_ne _ _ (fun e => by rw [e, h4''] at hy; cases hy), upd_ne _ _ (fun e => by rw [e, h2'] at hy; cases hy)]; exact hy
      have sub3 : subH h _ := fun y z hy => sub2 y z (sub1 y z hy)
      refine hB _ ?_
      clear hB B
      refine vcOps_split 5 fun B hB => ?_
      simp
      refine sA.use (by simp) ?_
      refine hB _ ?_
      clear hB B
      simp
      refine kr _ (AW.ret ?_)
      simp [Try.f7]
      exact Fin.gv (GV.sub sub3) (Fin.refl ⟨rfl, rfl⟩)
  · by_cases hl : light17 next from_ [la, lb] = true
    · rw [hl] at sL
      refine AW.seq fun _ k2 => AW.regionAt 6 [] Θ_ok fun B hB => ?_
      simp
      refine ⟨rfl, ?_⟩
      refine sL.use (by simp [bools3]) ?_
      by_cases hs : soundB next = true
      · rw [hs] at sS
        refine hB _ ?_
        clear hB B
        refine vcOps_split 4 fun B hB => ?_
        simp
        refine sS.use (by simp) ?_
        by_cases c1 : la.length ≤ 6
        · have c1' : ¬ (6 : Int) < la.length := by omega
          have c2' : (6 : Int) < lb.length := by
            have : ¬ lb.length ≤ 6 := fun q => hok ⟨hl, hs, c1, q⟩
            omega
          refine hB _ ?_
          clear hB B
          simp [c1', c2']
          refine k2 _ ?_
          refine AW.cond true (by simp [Int.natCast_inj]) (fun _ => ?_) (fun h => by cases h)
          refine AW.seq fun _ kr => AW.region [] Θ_ok ?_
          simp
          refine sA.use (by simp) ?_
          try simp
          refine kr _ (AW.ret ?_)
          simp [Try.f7]
          exact Fin.refl ⟨rfl, rfl⟩
        · have c1' : (6 : Int) < la.length := by omega
          refine hB _ ?_
          clear hB B
          simp [c1']
          refine k2 _ ?_
          refine AW.cond true (by simp [Int.natCast_inj]) (fun _ => ?_) (fun h => by cases h)
          refine AW.seq fun _ kr => AW.region [] Θ_ok ?_
          simp
          refine sA.use (by simp) ?_
          try simp
          refine kr _ (AW.ret ?_)
          simp [Try.f7]
          exact Fin.refl ⟨rfl, rfl⟩
      · have hs' : soundB next = false := by simpa using hs
        rw [hs'] at sS
        refine hB _ ?_
        clear hB B
        refine vcOps_split 4 fun B hB => ?_
        simp
        refine sS.use (by simp) ?_
        refine hB _ ?_
        clear hB B
        simp
        refine k2 _ ?_
        refine AW.cond true (by simp [Int.natCast_inj]) (fun _ => ?_) (fun h => by cases h)
        refine AW.seq fun _ kr => AW.region [] Θ_ok ?_
        simp
        refine sA.use (by simp) ?_
        try simp
        refine kr _ (AW.ret ?_)
        simp [Try.f7]
        exact Fin.refl ⟨rfl, rfl⟩
    · have hl' : light17 next from_ [la, lb] = false := by simpa using hl
      rw [hl'] at sL
      refine AW.seq fun _ k2 => AW.regionAt 6 [] Θ_ok fun B hB => ?_
      simp
      refine ⟨rfl, ?_⟩
      refine sL.use (by simp [bools3]) ?_
      refine hB _ ?_
      clear hB B
      simp
      refine k2 _ ?_
      refine AW.cond true (by simp [Int.natCast_inj]) (fun _ => ?_) (fun h => by cases h)
      refine AW.seq fun _ kr => AW.region [] Θ_ok ?_
      simp
      refine sA.use (by simp) ?_
      try simp
      refine kr _ (AW.ret ?_)
      simp [Try.f7]
      exact Fin.refl ⟨rfl, rfl⟩
end Go.Par
