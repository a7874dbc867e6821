/- P17.1, P17.2, P17.3: ProofLess. -/
import Derived.Test.YtigipgahgkngcaaLwProofRows
import Derived.Test.YtigipgahgkngcaaTjQ
import Derived.Test.YtigipgahgkngcaaTjP
import Derived.Test.YtigipgahgkngcaaTjR
set_option linter.unusedSimpArgs false
set_option linter.unusedVariables false
set_option maxRecDepth 8000
set_option maxHeartbeats 4000000
namespace Go.Par
open Go.Proofs

theorem u64_nat17 {n : Nat} (h : n < 9223372036854775808) : IntKind.u64.wrap (n : Int) = n := by
  rw [IntKind.wrap_u64]; omega
theorem mod17 (p : Int) {n : Nat} (hn : 0 < n) (h : n < 9223372036854775808) : ∃ k : Nat, k < n ∧ IntKind.i64.wrap ((IntKind.u64.wrap p).tmod n) = (k : Int) := by
  have h1 : 0 ≤ IntKind.u64.wrap p := by rw [IntKind.wrap_u64]; omega
  have h2 : (IntKind.u64.wrap p).tmod n = (IntKind.u64.wrap p) % n := Int.tmod_eq_emod_of_nonneg h1
  have h3 := Int.emod_nonneg (IntKind.u64.wrap p) (show (n : Int) ≠ 0 by omega)
  have h4 := Int.emod_lt_of_pos (IntKind.u64.wrap p) (show (0 : Int) < n by omega)
  refine ⟨((IntKind.u64.wrap p) % n).toNat, by omega, ?_⟩
  rw [h2, show (IntKind.u64.wrap p) % (n : Int) = (((IntKind.u64.wrap p) % n).toNat : Int) by omega]
  exact wrap_nat (by omega)
theorem FN.subH {hb : Heap} {o n : Nat} {f : Nat → Nat} (N : FN hb o f n) (C : Ob) (R : Nat → Ob) : subH hb (FH hb o C f n R) := fun y z hy => by
  have h1 : y ≠ o := fun e => by rw [e, N.out] at hy; cases hy
  have h2 : ∀ i, i < n → f i ≠ y := fun i hi e => by have := N.free i hi; rw [e, hy] at this; cases this
  rw [FN.at_else h1 h2]; exact hy

def lessR (next : List (List Int)) (at_ i : Nat) : List Int := if i = at_ then [] else next.getD i []
def lessN (next : List (List Int)) (at_ : Nat) : List (List Int) := tab next.length (lessR next at_)
def noneN (next : List (List Int)) : List (List Int) := tab next.length fun _ => []
theorem lessN_ok (next : List (List Int)) (at_ : Nat) : LessG next (lessN next at_) := by
  refine ⟨length_tab _ _, fun v w h => ?_⟩
  unfold lessN at h
  rw [getD_tab] at h
  split at h
  · unfold lessR at h
    split at h
    · cases h
    · exact h
  · cases h
theorem noneN_ok (next : List (List Int)) : LessG next (noneN next) := by
  refine ⟨length_tab _ _, fun v w h => ?_⟩
  unfold noneN at h
  rw [getD_tab] at h
  split at h <;> cases h
theorem lessN_sound {next : List (List Int)} (h : soundB next = true) (at_ : Nat) : soundB (lessN next at_) = true := by
  unfold soundB
  rw [List.all_eq_true]
  intro l hl
  obtain ⟨i, hi, rfl⟩ := mem_tab.1 hl
  unfold lessR
  split
  · rfl
  · rw [show (lessN next at_).length = next.length from length_tab _ _]
    have : next.getD i [] ∈ next := by simp [hi]
    exact (List.all_eq_true.1 h) _ this
theorem noneN_sound (next : List (List Int)) : soundB (noneN next) = true := by
  unfold soundB
  rw [List.all_eq_true]
  intro l hl
  obtain ⟨i, hi, rfl⟩ := mem_tab.1 hl
  rfl
theorem none_any {next : List (List Int)} {f : List Bool} : ¬ AnyC (noneN next) f := by
  rintro ⟨v, hv⟩
  obtain ⟨x, _, e, _⟩ := hv.head
  have := e.2
  unfold noneN at this
  rw [getD_tab] at this
  split at this <;> cases this
theorem none_even {next : List (List Int)} {P : List Int} {a : List Bool} : evB (noneN next) P a = true := by
  have : ¬ BadW (kE (noneN next)) (kS (noneN next) a) (prF2 P) := by
    rintro ⟨w, _, hw⟩
    obtain ⟨x, _, e, _⟩ := hw.head
    have := e.2
    unfold noneN at this
    rw [getD_tab] at this
    split at this <;> cases this
  simp [evB, this]
open Classical in
theorem evB_iff {next : List (List Int)} {P : List Int} {a : List Bool} : evB next P a = true ↔ ¬ BadW (kE next) (kS next a) (prF2 P) := by
  unfold evB; exact decide_eq_true_iff
theorem LessG.even {next less : List (List Int)} {P : List Int} {f : List Bool} (L : LessG next less) (h : evB next P (reachL (nG next) f) = true) : evB less P (reachL (nG less) f) = true := by
  rw [evB_iff] at h ⊢
  rintro ⟨w, h1, h2⟩
  refine h ⟨w, h1, way_less (fun _ _ => L.edge) (fun x hx => ⟨?_, hx.2⟩) h2⟩
  obtain ⟨g1, g2⟩ := kS_reachL.1 hx.1
  exact kS_reachL.2 ⟨by rw [← L.len]; exact g1, L.reach g2⟩
theorem bool_imp {a b : Bool} (h : a = true → b = true) : (a && !b) = false := by
  cases a <;> cases b <;> simp_all

structure PLX where
  f : Nat → Nat
  nn : Nat → Bool
  x : Nat

theorem law_ProofLess (next : List (List Int)) (hn : (DK.sl (.sl .int)).fits next) (P : List Int) (hP : (DK.sl .int).fits P) (from_ : List Bool) (hf : (DK.sl .bool).fits from_) (la : List (List Bool)) (hA : (DK.sl (.sl .bool)).fits la) (lb : List (List Bool)) (hB : (DK.sl (.sl .bool)).fits lb) (at0 : Int) (hat0 : DK.int.fits at0) :
    Pure Try.prog 5 [.ro false (rows next), .ro false (ints P), .ro false (bools from_), .ro false (bools2 la), .ro false (bools2 lb), .int .i64 at0] (.bool true) := by
  obtain ⟨n1, n2⟩ := fits_ll hn
  obtain ⟨a1, a2⟩ := fits_bb hA
  obtain ⟨b1, b2⟩ := fits_bb hB
  have hPl : P.length ≤ 17592186044416 := by
    have : P.length * 8 ≤ reachBytes := hP.1
    unfold reachBytes at this; omega
  have sL := l17_light next n1 n2 from_ (fits_b hf) [la, lb] (by simp) (fun A h => by
    simp at h; rcases h with rfl | rfl
    · exact a2
    · exact b2) (fun A h => by
    simp at h; rcases h with rfl | rfl
    · exact a1
    · exact b1)
  have sA := l17_awake
  intro h
  refine AC.body Θ_ok Try.func5 rfl rfl (Nat.le_of_ble_eq_true rfl) ?_
  refine AW.seq fun _ k1 => AW.region [] Θ_ok ?_
  simp
  refine k1 _ ?_
  refine AW.seq fun _ k1 => ?_
  by_cases hok : light17 next from_ [la, lb] = true ∧ next.length ≠ 0 ∧ P.length = next.length
  · obtain ⟨hl, c1, c2⟩ := hok
    rw [hl] at sL
    have c1' : ¬ (next.length : Int) = 0 := by omega
    have c2' : (P.length : Int) = next.length := by omega
    refine AW.seq fun _ k2 => AW.regionAt 6 [] Θ_ok fun B hB => ?_
    simp
    refine ⟨rfl, ?_⟩
    refine sL.use (by simp [bools3]) ?_
    refine hB _ ?_
    clear hB B
    simp [c1, c1', c2, c2']
    refine k2 _ ?_
    refine AW.cond false (by simp [Int.natCast_inj]) (fun h => by cases h) (fun _ => ?_)
    refine AW.skip ?_
    simp
    refine k1 _ ?_
    obtain ⟨hN, _, _, hr, _⟩ := light_row hl
    obtain ⟨at_, hat, eat⟩ := mod17 at0 (show 0 < next.length by omega) (by omega)
    have hu := u64_nat17 (show next.length < 9223372036854775808 by omega)
    refine AW.seq fun _ k4 => AW.region [41] Θ_ok ?_
    simp
    refine ⟨by omega, fun o ho => k4 _ ?_⟩
    rw [replicate_tab, flat_tab (fun _ _ => rfl)]
    refine AW.seq fun _ k4 => AW.region [44] Θ_ok ?_
    simp
    refine ⟨by omega, fun o2 ho2 => k4 _ ?_⟩
    rw [replicate_tab, flat_tab (fun _ _ => rfl)]
    refine AW.family 3 1 ho2 fun f2 N2 => ?_
    refine AW.ghost (GStep.eq (tm := [(0, .ro false (rows next)), (1, .ro false (ints P)), (2, .ro false (bools from_)), (3, .ro false (bools2 la)), (4, .ro false (bools2 lb)), (5, .int .i64 at0), (13, .mu o next.length), (14, .mu o2 next.length)]) (by simp) (subH.refl _)) ?_
    rw [show (tab next.length fun i => AV.mu (f2 i) 0) = tab next.length fun i => if i < next.length then AV.mu (f2 i) 0 else .ro false (ints []) from tab_congr fun i hi => by rw [if_pos hi]]
    refine AW.ghost (GStep.rows N2 (R := fun _ => ⟨[], 3, 1, false⟩) (m := fun _ => 0) (A := fun _ => .ro false (ints [])) (fun i hi => rfl) (fun i hi => rfl) (fun i hi u hu => by cases hu) (fun i hi => rfl) next.length (Nat.le_refl _)) ?_
    refine AW.freeze 14 false rfl (upd_same _ _ _) (fun e => by cases e) rfl (by simp) (fun u hu => by obtain ⟨i, _, rfl⟩ := mem_tab.1 hu; rfl) ?_
    simp only
    rw [upd_upd, upd_none_id ho2]
    rw [show (tab next.length fun _ => AV.ro false (ints [])) = rows (noneN next) by rw [noneN, rows, map_tab]]
    clear N2 ho2
    refine AW.family 3 1 ho fun f N => ?_
    clear ho
    refine AW.seq fun _ k4 => AW.region [] Θ_ok ?_
    simp [hu, eat]
    refine ⟨fun e => c1 (by rw [e]; rfl), k4 _ ?_⟩
    clear hu eat hat0
    obtain ⟨row, hrow⟩ : ∃ row, row = lessR next at_ := ⟨_, rfl⟩
    have rlen : ∀ x, (hx : x < next.length) → (row x).length = if x = at_ then 0 else next[x].length := fun x hx => by
      rw [hrow]; unfold lessR; split
      · rfl
      · simp [hx]
    have hst : FH h o ⟨tab next.length fun i => .mu (f i) 0, 28, 1, true⟩ f next.length (fun _ => ⟨[], 3, 1, false⟩) = plG h o next.length row f (fun _ => false) 0 0 := by
      unfold plG
      congr 1
      · unfold plC; congr 1; exact tab_congr fun i _ => by rw [plS_zero]; rfl
      · funext i; unfold plR; rw [plS_zero]; rfl
    rw [hst]
    clear hst
    refine AW.seqEx (X := PLX) (fun t => FN h o t.f next.length ∧ soundB next = true) (fun t => ⟨151, [(0, .ro false (rows next)), (1, .ro false (ints P)), (2, .ro false (bools from_)), (3, .ro false (bools2 la)), (4, .ro false (bools2 lb)), (13, .mu o next.length), (14, .ro false (rows (noneN next)))], plG h o next.length row t.f t.nn next.length 0⟩) (fun _ k1 => ?_) ?_
    · refine AW.seq fun _ k2 => AW.region [] Θ_ok ?_
      simp
      refine k2 _ ?_
      refine AW.block ?_
      refine AW.loopI (X := PLX) (fun t => FN h o t.f next.length ∧ t.x ≤ next.length ∧ ∀ l ∈ next.take t.x, ∀ w ∈ l, okW next.length w = true) (fun t => ⟨151, [(0, .ro false (rows next)), (1, .ro false (ints P)), (2, .ro false (bools from_)), (3, .ro false (bools2 la)), (4, .ro false (bools2 lb)), (5, .int .i64 at_), (13, .mu o next.length), (14, .ro false (rows (noneN next))), (52, .ro false (rows next)), (53, .int .i64 next.length), (54, .int .i64 t.x)], plG h o next.length row t.f t.nn t.x 0⟩) (fun t => next.length - t.x) ⟨f, fun _ => false, 0⟩ ⟨N, Nat.zero_le _, fun l hl => by simp at hl⟩ (GStep.eq (by simp) (subH.refl _)) ?_
      clear N f
      rintro ⟨f, nn, x⟩ ⟨N, hx, hg⟩
      simp only at N hx hg ⊢
      refine AW.seq fun _ k2 => AW.region [] Θ_ok ?_
      simp
      refine k2 _ ?_
      by_cases hlt : x < next.length
      · have inc := wrap_succ (show x < 9223372036854775807 by omega)
        have hrl := hr _ (List.getElem_mem hlt)
        have rl := rlen x hlt
        refine AW.seq fun _ k2 => AW.cond true (by simp [Int.natCast_inj, hlt]) (fun _ => ?_) (fun h => by cases h)
        refine AW.skip ?_
        simp
        refine k2 _ ?_
        refine AW.seq fun _ k2 => ?_
        refine AW.block ?_
        refine AW.seq fun _ k3 => AW.region [] Θ_ok ?_
        simp [hlt]
        refine k3 _ ?_
        refine AW.seq fun _ k3 => AW.region [] Θ_ok ?_
        simp
        refine k3 _ ?_
        refine AW.block ?_
        refine AW.loopI (X := PLX) (fun t => FN h o t.f next.length ∧ t.x ≤ next[x].length ∧ ∀ w ∈ next[x].take t.x, okW next.length w = true) (fun t => ⟨151, [(0, .ro false (rows next)), (1, .ro false (ints P)), (2, .ro false (bools from_)), (3, .ro false (bools2 la)), (4, .ro false (bools2 lb)), (5, .int .i64 at_), (13, .mu o next.length), (14, .ro false (rows (noneN next))), (15, .int .i64 x), (52, .ro false (rows next)), (53, .int .i64 next.length), (54, .int .i64 x), (59, .ro false (ints next[x])), (60, .int .i64 next[x].length), (61, .int .i64 t.x)], plG h o next.length row t.f t.nn x (if x = at_ then 0 else t.x)⟩) (fun t => next[x].length - t.x) ⟨f, nn, 0⟩ ⟨N, Nat.zero_le _, fun w hw => by simp at hw⟩ (GStep.eq (by simp) (by simp only [ite_self]; exact subH.refl _)) ?_
        clear N f nn
        rintro ⟨f, nn, y⟩ ⟨N, hy, hgy⟩
        simp only at N hy hgy ⊢
        refine AW.seq fun _ k3 => AW.region [] Θ_ok ?_
        simp
        refine k3 _ ?_
        by_cases hly : y < next[x].length
        · have incy := wrap_succ (show y < 9223372036854775807 by omega)
          have hst : ∀ w ∈ next[x].take (y + 1), w ∈ next[x].take y ∨ w = next[x][y] := fun w hw => by
            rwa [List.take_succ_eq_append_getElem hly, List.mem_append, List.mem_singleton] at hw
          have rowy : x ≠ at_ → ∀ hh, (row x)[y]'hh = next[x][y] := fun ne hh => by
            have : row x = next[x] := by rw [hrow]; unfold lessR; rw [if_neg ne]; simp [hlt]
            simp [this]
          obtain ⟨w, hw⟩ : ∃ w, next[x][y] = w := ⟨_, rfl⟩
          simp only [hw] at hst rowy
          have hw0 : okW next.length w = (decide (0 ≤ w) && decide (w < next.length)) := rfl
          refine AW.seq fun _ k3 => AW.cond true (by simp [Int.natCast_inj, hly]) (fun _ => ?_) (fun h => by cases h)
          refine AW.skip ?_
          simp
          refine k3 _ ?_
          refine AW.seq fun _ k3 => ?_
          refine AW.block ?_
          refine AW.seq fun _ k4 => AW.region [] Θ_ok ?_
          simp [hly, hw]
          refine k4 _ ?_
          refine AW.seq fun _ k4 => ?_
          by_cases h0 : 0 ≤ w ∧ w < (next.length : Int)
          · obtain ⟨h0, h1⟩ := h0
            have hgy' : ∀ u ∈ next[x].take (y + 1), okW next.length u = true := fun u hu => by
              rcases hst u hu with q | q
              · exact hgy u q
              · rw [q, hw0]; simp [h0, h1]
            refine AW.seq fun _ k5 => AW.region [] Θ_ok ?_
            simp [Int.not_lt.2 h0, h0, Int.not_le.2 h1, h1]
            refine k5 _ ?_
            refine AW.cond false (by simp [Int.natCast_inj]) (fun h => by cases h) (fun _ => ?_)
            refine AW.skip ?_
            simp
            refine k4 _ ?_
            refine AW.seq fun _ k5 => AW.region [] Θ_ok ?_
            simp
            refine k5 _ ?_
            by_cases ha : x = at_
            · subst ha
              refine AW.cond false (by simp [Int.natCast_inj]) (fun h => by cases h) (fun _ => ?_)
              refine AW.skip ?_
              simp
              refine k3 _ ?_
              refine AW.region [] Θ_ok ?_
              simp
              exact ⟨⟨f, nn, y + 1⟩, ⟨N, hly, hgy'⟩, by simp only; omega, GStep.eq (by simp [incy]) (by simp only [if_true]; exact subH.refl _)⟩
            · have hyr : y < (row x).length := by rw [rl, if_neg ha]; exact hly
              have hry := rowy ha hyr
              simp only [if_neg ha]
              have hO : plG h o next.length row f nn x y o = some (plC next.length f row x y) := plG.at_o
              have hW : plG h o next.length row f nn x y (f x) = some (plR row nn x y x) := plG.at_r N hlt
              obtain ⟨pl, hpl⟩ : ∃ pl, pl = plS row x y x := ⟨_, rfl⟩
              have lpl : pl.length = y := by rw [hpl, plS_at, List.length_take]; omega
              have hR : plR row nn x y x = obTd pl (nn x) := by rw [hpl]; rfl
              have hL2 : (plC next.length f row x y).cells.drop x = .mu (f x) y :: (plC next.length f row x y).cells.drop (x + 1) := by rw [PHg.cell hlt, ← hpl, lpl]
              have hCl : (plC next.length f row x y).cells.length = next.length := by simp [plC]
              have hCt : (plC next.length f row x y).ty = 28 ∧ (plC next.length f row x y).sz = 1 ∧ (plC next.length f row x y).nn = true := ⟨rfl, rfl, rfl⟩
              rw [hR] at hW
              have ha' : ¬ (x : Int) = (at_ : Int) := by omega
              refine AW.cond true (by simp [Int.natCast_inj, ha]) (fun _ => ?_) (fun h => by cases h)
              refine AW.region [] Θ_ok ?_
              simp [hO, hL2, hCl, hlt, hW, appendA, hCt.1, hCt.2.1, lpl]
              refine ⟨rfl, ⟨by omega, by omega⟩, fun n' hn' => ?_⟩
              obtain ⟨hno, f', nn', N', he⟩ := plG.app N hlt hyr hn' hpl hry
              rw [hno]
              simp only
              refine ⟨⟨trivial, by rw [hCl]; omega⟩, k3 _ ?_⟩
              rw [he]
              refine AW.region [] Θ_ok ?_
              simp
              exact ⟨⟨f', nn', y + 1⟩, ⟨N', hly, hgy'⟩, by simp only; omega, GStep.eq (by simp [incy]) (by simp only [if_neg ha]; exact subH.refl _)⟩
          · have fin : ∀ C R, Fin (.bool true) (FH h o C f next.length R) fun r h' => r = .bool true ∧ h' = h := fun C R => Fin.gv (GV.sub (N.subH C R)) (Fin.refl ⟨rfl, rfl⟩)
            by_cases h2 : 0 ≤ w
            · have h1 : ¬ w < (next.length : Int) := fun q => h0 ⟨h2, q⟩
              refine AW.seq fun _ k5 => AW.region [] Θ_ok ?_
              simp [Int.not_lt.2 h2, h2, Int.not_lt.1 h1, h1]
              refine k5 _ ?_
              refine AW.cond true (by simp [Int.natCast_inj]) (fun _ => ?_) (fun h => by cases h)
              refine AW.seq fun _ kr => AW.region [] Θ_ok ?_
              simp
              refine sA.use (by simp) ?_
              try simp
              refine kr _ (AW.ret ?_)
              simp [Try.f5]
              exact fin _ _
            · refine AW.seq fun _ k5 => AW.region [] Θ_ok ?_
              simp [Int.not_le.1 h2, h2]
              refine k5 _ ?_
              refine AW.cond true (by simp [Int.natCast_inj]) (fun _ => ?_) (fun h => by cases h)
              refine AW.seq fun _ kr => AW.region [] Θ_ok ?_
              simp
              refine sA.use (by simp) ?_
              try simp
              refine kr _ (AW.ret ?_)
              simp [Try.f5]
              exact fin _ _
        · obtain rfl : y = next[x].length := by omega
          rw [← rl, plG.full]
          refine AW.seq fun _ k3 => AW.cond false (by simp [Int.natCast_inj]) (fun h => by cases h) (fun _ => ?_)
          refine AW.exit ?_
          simp
          refine k2 _ ?_
          refine AW.region [] Θ_ok ?_
          simp
          refine ⟨⟨f, nn, x + 1⟩, ⟨N, hlt, fun l hl => ?_⟩, by simp only; omega, GStep.eq (by simp [inc]) (subH.refl _)⟩
          simp only at hl
          rw [List.take_succ_eq_append_getElem hlt, List.mem_append, List.mem_singleton] at hl
          rcases hl with q | q
          · exact hg l q
          · rw [q]; rw [List.take_length] at hgy; exact hgy
      · obtain rfl : x = next.length := by omega
        rw [List.take_length] at hg
        refine AW.seq fun _ k2 => AW.cond false (by simp [Int.natCast_inj]) (fun h => by cases h) (fun _ => ?_)
        refine AW.exit ?_
        simp
        refine k1 _ ⟨f, nn, 0⟩ ⟨N, ?_⟩ (GStep.eq (by simp) (subH.refl _))
        simp only [soundB, List.all_eq_true]; exact hg
    clear N f
    rintro ⟨f, nn, _⟩ ⟨N, hs⟩
    simp only at N hs ⊢
    have hC2 : plC next.length f row next.length 0 = ⟨tab next.length fun i => if i < next.length then .mu (f i) (row i).length else .ro false (ints (row i)), 28, 1, true⟩ := by
      unfold plC; congr 1; exact tab_congr fun i hi => by rw [if_pos hi]; unfold plS; rw [if_pos hi]
    have hR2 : ∀ i, i < next.length → plR row nn next.length 0 i = obTd (row i) (nn i) := fun i hi => by unfold plR plS; rw [if_pos hi]; rfl
    unfold plG
    rw [hC2]
    refine AW.ghost (GStep.rows N (R := plR row nn next.length 0) (A := fun i => .ro false (ints (row i))) (fun i hi => by rw [hR2 i hi]; rfl) (fun i hi => by rw [hR2 i hi]; simp [obTd]) (fun i hi u hu => ?_) (fun i hi => by rw [hR2 i hi]; rfl) next.length (Nat.le_refl _)) ?_
    · rw [hR2 i hi] at hu
      obtain ⟨_, _, rfl⟩ := List.mem_map.1 hu; rfl
    refine AW.freeze 13 false rfl (upd_same _ _ _) (fun e => by cases e) rfl (by simp) (fun u hu => by obtain ⟨i, _, rfl⟩ := mem_tab.1 hu; rfl) ?_
    simp only
    rw [upd_upd, upd_none_id N.out]
    rw [show (tab next.length fun i => AV.ro false (ints (row i))) = rows (lessN next at_) by rw [lessN, rows, map_tab, hrow]]
    clear hC2 hR2 N
    have L := lessN_ok next at_
    have L0 := noneN_ok next
    have m0 : mayN next = true := by rw [sound_may (by omega)]; exact hs
    have m1 : mayN (lessN next at_) = true := by rw [sound_may (by rw [L.len]; omega)]; exact lessN_sound hs at_
    have m2 : mayN (noneN next) = true := by rw [sound_may (by rw [L0.len]; omega)]; exact noneN_sound next
    have r1 : ∀ l ∈ lessN next at_, l.length ≤ 1000000000 := fun l hl => by
      obtain ⟨i, hi, rfl⟩ := mem_tab.1 hl
      unfold lessR; split
      · simp
      · exact hr _ (by simp [hi])
    have r2 : ∀ l ∈ noneN next, l.length ≤ 1000000000 := fun l hl => by
      obtain ⟨i, hi, rfl⟩ := mem_tab.1 hl; simp
    have l1 : (lessN next at_).length ≤ 17592186044416 := by rw [L.len]; exact n1
    have l2 : (noneN next).length ≤ 17592186044416 := by rw [L0.len]; exact n1
    have sE := proof_Even next n1 hr P from_
    have sE2 := proof_Even (lessN next at_) l1 r1 P from_
    have sE3 := proof_Even (noneN next) l2 r2 P from_
    have sF := proof_Fair next n1 hr from_ la lb a1 b1
    have sF2 := proof_Fair (lessN next at_) l1 r1 from_ la lb a1 b1
    have sF3 := proof_Fair (noneN next) l2 r2 from_ la lb a1 b1
    have sU := proof_Unfair next n1 hr from_ la lb a1 b1
    have sU2 := proof_Unfair (lessN next at_) l1 r1 from_ la lb a1 b1
    have sU3 := proof_Unfair (noneN next) l2 r2 from_ la lb a1 b1
    rw [m0, show decide (P.length = next.length) = true by simpa using c2, Bool.true_and, Bool.true_and] at sE
    rw [m1, L.len, show decide (P.length = next.length) = true by simpa using c2, Bool.true_and, Bool.true_and] at sE2
    rw [m2, L0.len, show decide (P.length = next.length) = true by simpa using c2, none_even, Bool.true_and, Bool.true_and] at sE3
    rw [m0, Bool.true_and] at sF sU
    rw [m1, Bool.true_and] at sF2 sU2
    rw [m2, fair_on none_any, Bool.true_and] at sF3
    rw [m2, unfair_on none_any, Bool.true_and] at sU3
    have iE := L.even (P := P) (f := from_)
    have iF := L.fair (f := from_) (A := la) (E := lb)
    have iU := L.unfair (f := from_) (A := la) (E := lb)
    generalize evB next P (reachL (nG next) from_) = e1 at *
    generalize evB (lessN next at_) P (reachL (nG (lessN next at_)) from_) = e2 at *
    generalize fairB next from_ la lb = f1 at *
    generalize fairB (lessN next at_) from_ la lb = f2 at *
    generalize unfairB next from_ la lb = u1 at *
    generalize unfairB (lessN next at_) from_ la lb = u2 at *
    clear L L0 m0 m1 m2 r1 r2 l1 l2 rlen hrow row nn f
    generalize lessN next at_ = LS at *
    generalize noneN next = NO at *
    refine AW.seqTo ⟨151, [(1, .ro false (ints P)), (2, .ro false (bools from_)), (3, .ro false (bools2 la)), (4, .ro false (bools2 lb)), (14, .ro false (rows NO))], h⟩ (fun _ k1 => ?_) ?_
    · have htriv := True.intro
      cases e1 with
      | false =>
        refine AW.seq fun _ k2 => AW.regionAt 4 [] Θ_ok fun B hB => ?_
        simp
        refine sE.use (by simp) ?_
        refine hB _ ?_
        clear hB B
        refine vcOps_split 13 fun B hB => ?_
        simp
        cases f1 with
        | false =>
          refine sF.use (by simp) ?_
          refine hB _ ?_
          clear hB B
          refine vcOps_split 15 fun B hB => ?_
          simp
          cases u1 with
          | false =>
            refine sU.use (by simp) ?_
            refine hB _ ?_
            clear hB B
            simp
            refine k2 _ ?_
            refine AW.cond false (by simp [Int.natCast_inj]) (fun h => by cases h) (fun _ => ?_)
            refine AW.skip ?_
            simp
            exact k1 _ (GStep.eq (by simp) (subH.refl _))
          | true =>
            rw [iU rfl] at sU2
            refine sU.use (by simp) ?_
            refine hB _ ?_
            clear hB B
            refine vcOps_split 7 fun B hB => ?_
            simp
            refine sU2.use (by simp) ?_
            refine hB _ ?_
            clear hB B
            simp
            refine k2 _ ?_
            refine AW.cond false (by simp [Int.natCast_inj]) (fun h => by cases h) (fun _ => ?_)
            refine AW.skip ?_
            simp
            exact k1 _ (GStep.eq (by simp) (subH.refl _))
        | true =>
          rw [iF rfl] at sF2
          refine sF.use (by simp) ?_
          refine hB _ ?_
          clear hB B
          refine vcOps_split 6 fun B hB => ?_
          simp
          refine sF2.use (by simp) ?_
          refine hB _ ?_
          clear hB B
          refine vcOps_split 9 fun B hB => ?_
          simp
          cases u1 with
          | false =>
            refine sU.use (by simp) ?_
            refine hB _ ?_
            clear hB B
            simp
            refine k2 _ ?_
            refine AW.cond false (by simp [Int.natCast_inj]) (fun h => by cases h) (fun _ => ?_)
            refine AW.skip ?_
            simp
            exact k1 _ (GStep.eq (by simp) (subH.refl _))
          | true =>
            rw [iU rfl] at sU2
            refine sU.use (by simp) ?_
            refine hB _ ?_
            clear hB B
            refine vcOps_split 7 fun B hB => ?_
            simp
            refine sU2.use (by simp) ?_
            refine hB _ ?_
            clear hB B
            simp
            refine k2 _ ?_
            refine AW.cond false (by simp [Int.natCast_inj]) (fun h => by cases h) (fun _ => ?_)
            refine AW.skip ?_
            simp
            exact k1 _ (GStep.eq (by simp) (subH.refl _))
      | true =>
        rw [iE rfl] at sE2
        refine AW.seq fun _ k2 => AW.regionAt 4 [] Θ_ok fun B hB => ?_
        simp
        refine sE.use (by simp) ?_
        refine hB _ ?_
        clear hB B
        refine vcOps_split 5 fun B hB => ?_
        simp
        refine sE2.use (by simp) ?_
        refine hB _ ?_
        clear hB B
        refine vcOps_split 8 fun B hB => ?_
        simp
        cases f1 with
        | false =>
          refine sF.use (by simp) ?_
          refine hB _ ?_
          clear hB B
          refine vcOps_split 15 fun B hB => ?_
          simp
          cases u1 with
          | false =>
            refine sU.use (by simp) ?_
            refine hB _ ?_
            clear hB B
            simp
            refine k2 _ ?_
            refine AW.cond false (by simp [Int.natCast_inj]) (fun h => by cases h) (fun _ => ?_)
            refine AW.skip ?_
            simp
            exact k1 _ (GStep.eq (by simp) (subH.refl _))
          | true =>
            rw [iU rfl] at sU2
            refine sU.use (by simp) ?_
            refine hB _ ?_
            clear hB B
            refine vcOps_split 7 fun B hB => ?_
            simp
            refine sU2.use (by simp) ?_
            refine hB _ ?_
            clear hB B
            simp
            refine k2 _ ?_
            refine AW.cond false (by simp [Int.natCast_inj]) (fun h => by cases h) (fun _ => ?_)
            refine AW.skip ?_
            simp
            exact k1 _ (GStep.eq (by simp) (subH.refl _))
        | true =>
          rw [iF rfl] at sF2
          refine sF.use (by simp) ?_
          refine hB _ ?_
          clear hB B
          refine vcOps_split 6 fun B hB => ?_
          simp
          refine sF2.use (by simp) ?_
          refine hB _ ?_
          clear hB B
          refine vcOps_split 9 fun B hB => ?_
          simp
          cases u1 with
          | false =>
            refine sU.use (by simp) ?_
            refine hB _ ?_
            clear hB B
            simp
            refine k2 _ ?_
            refine AW.cond false (by simp [Int.natCast_inj]) (fun h => by cases h) (fun _ => ?_)
            refine AW.skip ?_
            simp
            exact k1 _ (GStep.eq (by simp) (subH.refl _))
          | true =>
            rw [iU rfl] at sU2
            refine sU.use (by simp) ?_
            refine hB _ ?_
            clear hB B
            refine vcOps_split 7 fun B hB => ?_
            simp
            refine sU2.use (by simp) ?_
            refine hB _ ?_
            clear hB B
            simp
            refine k2 _ ?_
            refine AW.cond false (by simp [Int.natCast_inj]) (fun h => by cases h) (fun _ => ?_)
            refine AW.skip ?_
            simp
            exact k1 _ (GStep.eq (by simp) (subH.refl _))
    · refine AW.seq fun _ k2 => AW.regionAt 4 [] Θ_ok fun B hB => ?_
      simp
      refine sE3.use (by simp) ?_
      refine hB _ ?_
      clear hB B
      refine vcOps_split 6 fun B hB => ?_
      simp
      refine sF3.use (by simp) ?_
      refine hB _ ?_
      clear hB B
      refine vcOps_split 7 fun B hB => ?_
      simp
      refine sU3.use (by simp) ?_
      refine hB _ ?_
      clear hB B
      refine vcOps_split 3 fun B hB => ?_
      simp
      refine sA.use (by simp) ?_
      refine hB _ ?_
      clear hB B
      simp
      refine k2 _ (AW.ret ?_)
      simp [Try.f5]
      exact Fin.refl ⟨rfl, rfl⟩
  · by_cases hl : light17 next from_ [la, lb] = true
    · rw [hl] at sL
      refine AW.seq fun _ k2 => AW.regionAt 6 [] Θ_ok fun B hB => ?_
      simp
      refine ⟨rfl, ?_⟩
      refine sL.use (by simp [bools3]) ?_
      by_cases c1 : next.length = 0
      · have c1' : (next.length : Int) = 0 := by omega
        have c1'' : next = [] := List.length_eq_zero_iff.1 c1
        subst c1''
        refine hB _ ?_
        clear hB B
        simp
        refine k2 _ ?_
        refine AW.cond true (by simp [Int.natCast_inj]) (fun _ => ?_) (fun h => by cases h)
        refine AW.seq fun _ kr => AW.region [] Θ_ok ?_
        simp
        refine sA.use (by simp) ?_
        try simp
        refine kr _ (AW.ret ?_)
        simp [Try.f5]
        exact Fin.refl ⟨rfl, rfl⟩
      · have c1' : ¬ (next.length : Int) = 0 := by omega
        have c1'' : ¬ next = [] := fun e => c1 (by rw [e]; rfl)
        have c2 : ¬ P.length = next.length := fun q => hok ⟨hl, c1, q⟩
        have c2' : ¬ (P.length : Int) = next.length := by omega
        refine hB _ ?_
        clear hB B
        simp [c1, c1', c1'', c2, c2']
        refine k2 _ ?_
        refine AW.cond true (by simp [Int.natCast_inj, c2]) (fun _ => ?_) (fun h => by cases h)
        refine AW.seq fun _ kr => AW.region [] Θ_ok ?_
        simp
        refine sA.use (by simp) ?_
        try simp
        refine kr _ (AW.ret ?_)
        simp [Try.f5]
        exact Fin.refl ⟨rfl, rfl⟩
    · have hl' : light17 next from_ [la, lb] = false := by simpa using hl
      rw [hl'] at sL
      refine AW.seq fun _ k2 => AW.regionAt 6 [] Θ_ok fun B hB => ?_
      simp
      refine ⟨rfl, ?_⟩
      refine sL.use (by simp [bools3]) ?_
      refine hB _ ?_
      clear hB B
      simp
      refine k2 _ ?_
      refine AW.cond true (by simp [Int.natCast_inj]) (fun _ => ?_) (fun h => by cases h)
      refine AW.seq fun _ kr => AW.region [] Θ_ok ?_
      simp
      refine sA.use (by simp) ?_
      try simp
      refine kr _ (AW.ret ?_)
      simp [Try.f5]
      exact Fin.refl ⟨rfl, rfl⟩
end Go.Par
