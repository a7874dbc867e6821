import Derived.Test.YtdicfaplohdopaaFnG
import Derived.Test.YtdicfaplohdopaaPlA
set_option linter.unusedSimpArgs false
set_option maxRecDepth 8000
namespace Go.Par
open Go.Proofs

open Classical in
noncomputable def reachA (g : G) (from_ : List Bool) : AV := if mayE g = 0 then .ro true (bools (reachL g from_)) else .nils

structure RX where
  q : Nat
  out : List Bool
  todo : List Int
  nn : Bool
  x : Nat
  jk : List Int

theorem graph_Reach (g : G) (hf : g.fits) (from_ : List Bool) : Pure Try.prog 27 [g.av, .ro false (bools from_)] (reachA g from_) := by
  intro h
  refine AC.body Θ_ok Try.func27 rfl rfl (Nat.le_of_ble_eq_true rfl) ?_
  refine AW.seq fun _ k1 => AW.region [] Θ_ok ?_
  simp
  refine k1 _ ?_
  refine AW.seq fun _ k1 => ?_
  by_cases hm : mayE g = 0
  · have hn := (may_ok hm).2.1
    have h3 := (may_ok hm).1
    refine AW.seq fun _ k2 => AW.region [] Θ_ok ?_
    simp
    refine (graph_May g hf).use (by simp [G.av]) ?_
    try simp [hm]
    refine k2 _ ?_
    refine AW.cond false (by simp [Int.natCast_inj]) (fun h => by cases h) (fun _ => ?_)
    refine AW.skip ?_
    simp
    refine k1 _ ?_
    refine AW.seq fun _ k1 => AW.region [18, 5] Θ_ok ?_
    simp [newA]
    refine ⟨by omega, fun o ho p5 hp5 => ?_⟩
    refine k1 _ ?_
    refine AW.seq fun _ k1 => AW.region [6] Θ_ok ?_
    simp [newA]
    intro p6 hp6
    refine k1 _ ?_
    refine AW.seq fun _ k1 => AW.region [] Θ_ok ?_
    simp
    refine k1 _ ?_
    have n1 : p5 ≠ o := (ne_of_none hp5 (by simp)).1
    have n5 := (ne_of_none hp5 (by simp)).2
    have n2 := ne_of_none hp6 (by simp)
    have n3 := ne_of_none n2.2 (by simp)
    refine AW.mineCell p6 0 ⟨[.nils], 22, 1, true⟩ 3 1 (by simp [upd]) (by simp) fun q hq => ?_
    simp only at hq
    have m1 := ne_of_none hq (by simp)
    have m2 := ne_of_none m1.2 (by simp)
    have m3 := ne_of_none m2.2 (by simp)
    have N : RN h o p5 p6 q := ⟨n1, n3.1, m3.1, n2.1, m2.1, m1.1, ho, n5, n3.2, m3.2⟩
    have hH : upd (upd (upd (upd (upd h o (some ⟨List.flatMap AV.flat (List.replicate g.owner.length (AV.bool false)), 4, 1, true⟩)) p5 (some ⟨[.mu o g.owner.length], 26, 1, true⟩)) p6 (some ⟨[.nils], 22, 1, true⟩)) p6 (some ⟨[.mu q 0], 22, 1, true⟩)) q (some ⟨[], 3, 1, false⟩) = RH h o p5 p6 q (List.replicate g.owner.length false) [] false [] := by
      funext x
      simp only [upd, RH]
      by_cases e1 : x = q
      · subst e1; simp [N.a3, N.a5, N.a6]
      · by_cases e2 : x = p6
        · subst e2; simp [e1, N.a2, N.a4]
        · by_cases e3 : x = p5
          · subst e3; simp [e1, e2, N.a1]
          · by_cases e4 : x = o
            · subst e4; simp [e1, e2, e3]
              rw [replicate_tab, flat_tab (fun _ _ => rfl), ← replicate_tab]
            · simp [e1, e2, e3, e4]
    simp only [List.set_cons_zero]
    rw [hH]
    refine AW.seq fun _ k1 => ?_
    have e2 := N.at2 (List.replicate g.owner.length false) [] false []
    refine AW.seq fun _ k2 => AW.region [] Θ_ok ?_
    simp [e2]
    refine k2 _ ?_
    refine AW.block ?_
    have I0 : RI g from_ (List.replicate g.owner.length false) [] := by
      refine ⟨by simp, fun v hv => ?_, fun t ht => by simp at ht, by simp⟩
      simp [hasN, List.getElem?_replicate] at hv
      split at hv <;> simp at hv
    refine AW.loopI (X := RX) (fun s => RN h o p5 p6 s.q ∧ RI g from_ s.out s.todo ∧ (∀ v : Nat, hasN s.out v = true → (v : Int) ∈ s.todo) ∧ (∀ v, v < s.x → hasN from_ v = true → hasN s.out v = true) ∧ s.x ≤ g.owner.length)
      (fun s => ⟨68, [(22, .int .i64 s.x), (21, .int .i64 g.owner.length), (7, .clo 43 [.ptr p5 0, .ptr p6 0]), (6, .ptr p6 0), (5, .ptr p5 0), (2, .rop [.ro false (ints g.owner), .ro false (rows g.next)]), (1, .ro false (bools from_))], RH h o p5 p6 s.q s.out s.todo s.nn s.jk⟩)
      (fun s => g.owner.length - s.x) ⟨q, List.replicate g.owner.length false, [], false, 0, []⟩
      ⟨N, I0, fun v hv => ?_, fun v hv => absurd hv (Nat.not_lt_zero _), Nat.zero_le _⟩ (GStep.eq (by simp) (subH.refl _)) ?_
    · simp [hasN, List.getElem?_replicate] at hv
      split at hv <;> simp at hv
    rintro ⟨q, out, todo, nn, x, jk⟩ ⟨N, I, hT, hS, hx⟩
    simp only at N I hT hS hx ⊢
    refine AW.seq fun _ k2 => AW.region [] Θ_ok ?_
    simp
    refine k2 _ ?_
    by_cases hlt : x < g.owner.length
    · refine AW.seq fun _ k2 => AW.cond true (by simp [Int.natCast_inj, hlt]) (fun _ => ?_) (fun h => by cases h)
      refine AW.skip ?_
      simp
      refine k2 _ ?_
      refine AW.seq fun _ k2 => ?_
      refine AW.block ?_
      refine AW.seq fun _ k3 => AW.region [] Θ_ok ?_
      simp
      refine k3 _ ?_
      have inc := wrap_succ (show x < 9223372036854775807 by omega)
      have hxo : x < out.length := by rw [I.len]; exact hlt
      by_cases hfr : hasN from_ x = true
      · have hfl : x < from_.length := by
          by_cases e : x < from_.length
          · exact e
          · simp [hasN, List.getElem?_eq_none (Nat.le_of_not_lt e)] at hfr
        have hfx : from_[x] = true := by simpa [hasN, hfl] using hfr
        refine AW.seq fun _ k3 => AW.region [] Θ_ok ?_
        simp [hfl, hfx]
        refine k3 _ ?_
        refine AW.cond true (by simp [Int.natCast_inj]) (fun _ => ?_) (fun h => by cases h)
        refine AW.region [] Θ_ok ?_
        simp
        refine (graph_Reach1 N out todo nn jk x hxo (by have := I.size; omega)).mono fun r h' hq => ?_
        refine k2 _ ?_
        cases hb : out[x]
        · simp only [hb, Bool.false_eq_true, if_false] at hq
          obtain ⟨q', N', rfl⟩ := hq
          refine AW.region [] Θ_ok ?_
          simp
          refine ⟨⟨q', out.set x true, todo ++ [(x : Int)], true, x + 1, []⟩, ⟨N', I.meet hxo (.start x hlt hfr) hb, fun v hv => ?_, fun v hv hw => ?_, hlt⟩, by simp only; omega, GStep.eq (by simp [inc]) (subH.refl _)⟩
          · simp only at hv
            rw [hasN_set out x v hxo] at hv
            by_cases e : v = x
            · subst e; simp
            · rw [if_neg e] at hv
              exact List.mem_append.2 (.inl (hT v hv))
          · simp only at hv ⊢
            rw [hasN_set out x v hxo]
            split
            · rfl
            · exact hS v (by omega) hw
        · simp only [hb, if_true] at hq
          subst hq
          refine AW.region [] Θ_ok ?_
          simp
          refine ⟨⟨q, out, todo, nn, x + 1, jk⟩, ⟨N, I, hT, fun v hv hw => ?_, hlt⟩, by simp only; omega, GStep.eq (by simp [inc]) (subH.refl _)⟩
          simp only at hv ⊢
          by_cases e : v = x
          · subst e; simp [hasN, hxo, hb]
          · exact hS v (by omega) hw
      · have hfr' : hasN from_ x = false := by simpa using hfr
        have go : ∀ v, v < x + 1 → hasN from_ v = true → hasN out v = true := by
          intro v hv hw
          by_cases e : v = x
          · subst e; rw [hfr'] at hw; cases hw
          · exact hS v (by omega) hw
        by_cases hfl : x < from_.length
        · have hfx : from_[x] = false := by simpa [hasN, hfl] using hfr'
          refine AW.seq fun _ k3 => AW.region [] Θ_ok ?_
          simp [hfl, hfx]
          refine k3 _ ?_
          refine AW.cond false (by simp [Int.natCast_inj]) (fun h => by cases h) (fun _ => ?_)
          refine AW.skip ?_
          simp
          refine k2 _ ?_
          refine AW.region [] Θ_ok ?_
          simp
          exact ⟨⟨q, out, todo, nn, x + 1, jk⟩, ⟨N, I, hT, go, hlt⟩, by simp only; omega, GStep.eq (by simp [inc]) (subH.refl _)⟩
        · refine AW.seq fun _ k3 => AW.region [] Θ_ok ?_
          simp [hfl]
          refine k3 _ ?_
          refine AW.cond false (by simp [Int.natCast_inj]) (fun h => by cases h) (fun _ => ?_)
          refine AW.skip ?_
          simp
          refine k2 _ ?_
          refine AW.region [] Θ_ok ?_
          simp
          exact ⟨⟨q, out, todo, nn, x + 1, jk⟩, ⟨N, I, hT, go, hlt⟩, by simp only; omega, GStep.eq (by simp [inc]) (subH.refl _)⟩
    · obtain rfl : x = g.owner.length := by omega
      refine AW.seq fun _ k2 => AW.cond false (by simp [Int.natCast_inj]) (fun h => by cases h) (fun _ => ?_)
      refine AW.exit ?_
      simp
      refine k1 _ ?_
      refine AW.seq fun _ k1 => ?_
      refine AW.block ?_
      refine AW.loopI (X := RX) (fun s => RN h o p5 p6 s.q ∧ RI g from_ s.out s.todo ∧ Clo g s.out s.todo (fun _ => False) ∧ (∀ v, v < g.owner.length → hasN from_ v = true → hasN s.out v = true))
        (fun s => ⟨68, [(7, .clo 43 [.ptr p5 0, .ptr p6 0]), (6, .ptr p6 0), (5, .ptr p5 0), (2, .rop [.ro false (ints g.owner), .ro false (rows g.next)])], RH h o p5 p6 s.q s.out s.todo s.nn s.jk⟩)
        (fun s => 2 * s.out.count false + s.todo.length) ⟨q, out, todo, nn, 0, jk⟩ ⟨N, I, fun v hv _ hnt => absurd (hT v hv) hnt, hS⟩ (GStep.eq (by simp) (subH.refl _)) ?_
      clear hT hS I N I0 hH e2 q out todo nn jk
      rintro ⟨q, out, todo, nn, x, jk⟩ ⟨N, I, C, hS⟩
      simp only at N I C hS ⊢
      have e3 := N.at3 out todo nn jk
      have e4 := N.at4 out todo nn jk
      refine AW.seq fun _ k2 => ?_
      refine AW.seq fun _ k3 => AW.region [] Θ_ok ?_
      simp [e3]
      refine k3 _ ?_
      by_cases ht : todo = []
      · subst ht
        refine AW.cond false (by simp [Int.natCast_inj]) (fun h => by cases h) (fun _ => ?_)
        refine AW.exit ?_
        simp
        refine k1 _ ?_
        have e2 := N.at2 out [] nn jk
        refine AW.seq fun _ kr => AW.region [] Θ_ok ?_
        simp [e2]
        refine kr _ (AW.ret ?_)
        simp [Try.f27]
        refine Fin.freeze (k := true) (N.at1 out [] nn jk) (fun _ => rfl) rfl (by simp) (fun u hu => ?_) h (fun y z hy => ?_) ⟨?_, rfl⟩
        · obtain ⟨b, _, rfl⟩ := List.mem_map.1 hu
          rfl
        · have a1 : y ≠ o := by rintro rfl; rw [N.f1] at hy; cases hy
          have a2 : y ≠ p5 := by rintro rfl; rw [N.f2] at hy; cases hy
          have a3 : y ≠ p6 := by rintro rfl; rw [N.f3] at hy; cases hy
          have a4 : y ≠ q := by rintro rfl; rw [N.f4] at hy; cases hy
          rw [upd_ne _ _ a1]
          simp only [RH, if_neg a1, if_neg a2, if_neg a3, if_neg a4]
          exact hy
        · rw [I.done C hS]
          simp [reachA, hm]
      · obtain ⟨t0, u, rfl⟩ : ∃ t0 u, todo = t0 ++ [u] := ⟨todo.dropLast, todo.getLast ht, (List.dropLast_concat_getLast ht).symm⟩
        have ht' : (0 : Int) < ((t0 ++ [u]).length : Nat) := by simp
        refine AW.cond true (by simp [Int.natCast_inj]) (fun _ => ?_) (fun h => by cases h)
        refine AW.skip ?_
        simp
        refine k2 _ ?_
        refine AW.block ?_
        have hwr := wrap_nat (show t0.length < 9223372036854775808 by have := I.size; simp at this; omega)
        have e3' : RH h o p5 p6 q out (t0 ++ [u]) nn jk p6 = some ⟨[.mu q (t0.length + 1)], 22, 1, true⟩ := by rw [e3]; simp
        have dr : List.drop t0.length (ints (t0 ++ [u] ++ jk)) = .int .i64 u :: ints jk := by simp [ints]
        have hj : RH h o p5 p6 q out t0 nn (u :: jk) = upd (RH h o p5 p6 q out (t0 ++ [u]) nn jk) p6 (some ⟨[.mu q t0.length], 22, 1, true⟩) := by
          funext y
          simp only [upd, RH]
          by_cases e : y = p6
          · subst e; simp [N.a2, N.a4]
          · simp [e]
        refine AW.seq fun _ k3 => AW.region [] Θ_ok ?_
        simp [e3', hwr, e4, dr]
        refine ⟨by omega, k3 _ ?_⟩
        refine AW.seq fun _ k3 => AW.region [] Θ_ok ?_
        simp [e3', hwr, e4, dr]
        refine ⟨by omega, k3 _ ?_⟩
        rw [← hj]
        obtain ⟨v, rfl, hv, hvo⟩ := I.todoIn u (by simp)
        have hv' : v < g.next.length := by omega
        have hlr := hf.row _ (List.getElem_mem hv')
        have hrow := (may_row hm hv hv').2
        have I1 : RI g from_ out t0 := ⟨I.len, I.sound, fun t ht => I.todoIn t (List.mem_append.2 (.inl ht)), by have := I.size; simp at this; omega⟩
        have C1 : Clo g out t0 (fun z => z = v) := fun z hz hzv hzt w hw => C z hz (fun h => h) (fun hmem => by
          rcases List.mem_append.1 hmem with h1 | h1
          · exact hzt h1
          · simp at h1; exact hzv (by omega)) w hw
        refine AW.seq fun _ k3 => AW.region [] Θ_ok ?_
        simp [hv']
        refine k3 _ ?_
        refine AW.block ?_
        refine AW.loopI (X := RX) (fun s => RN h o p5 p6 s.q ∧ RI g from_ s.out s.todo ∧ Clo g s.out s.todo (fun z => z = v) ∧ (∀ w, w < g.owner.length → hasN from_ w = true → hasN s.out w = true) ∧ hasN s.out v = true ∧
            (∀ w : Nat, (w : Int) ∈ g.next[v].take s.x → hasN s.out w = true) ∧ s.x ≤ g.next[v].length ∧ 2 * s.out.count false + s.todo.length ≤ 2 * out.count false + t0.length)
          (fun s => ⟨68, [(59, .int .i64 s.x), (58, .int .i64 g.next[v].length), (57, .ro false (ints g.next[v])), (7, .clo 43 [.ptr p5 0, .ptr p6 0]), (6, .ptr p6 0), (5, .ptr p5 0), (2, .rop [.ro false (ints g.owner), .ro false (rows g.next)])], RH h o p5 p6 s.q s.out s.todo s.nn s.jk⟩)
          (fun s => g.next[v].length - s.x) ⟨q, out, t0, nn, 0, (v : Int) :: jk⟩ ⟨N, I1, C1, hS, hvo, fun w hw => by simp at hw, Nat.zero_le _, Nat.le_refl _⟩ (GStep.eq (by simp) (subH.refl _)) ?_
        have hRv := I.sound v hvo
        have hM : 2 * out.count false + t0.length < 2 * out.count false + (t0.length + 1) := by omega
        generalize 2 * out.count false + t0.length = M at hM
        clear C C1 I1 hj e3 e3' e4 dr hvo hS N
        rintro ⟨q', out', todo', nn', y, jk'⟩ ⟨N, I2, C, hS, hvo, hY, hy, hle⟩
        simp only at N I2 C hS hvo hY hy hle ⊢
        refine AW.seq fun _ k4 => AW.region [] Θ_ok ?_
        simp
        refine k4 _ ?_
        by_cases hly : y < g.next[v].length
        · refine AW.seq fun _ k4 => AW.cond true (by simp [Int.natCast_inj, hly]) (fun _ => ?_) (fun h => by cases h)
          refine AW.skip ?_
          simp
          refine k4 _ ?_
          refine AW.seq fun _ k4 => ?_
          refine AW.block ?_
          refine AW.seq fun _ k5 => AW.region [] Θ_ok ?_
          simp [hly]
          refine k5 _ ?_
          refine AW.region [] Θ_ok ?_
          simp
          have inc := wrap_succ (show y < 9223372036854775807 by omega)
          obtain ⟨b0, b1⟩ := hrow _ (List.getElem_mem hly)
          obtain ⟨w, hw⟩ := Int.eq_ofNat_of_zero_le b0
          have hwo : w < out'.length := by rw [I2.len]; omega
          have htk : ∀ z : Nat, (z : Int) ∈ g.next[v].take (y + 1) → (z : Int) ∈ g.next[v].take y ∨ z = w := by
            intro z hz
            rw [List.take_succ_eq_append_getElem hly] at hz
            rcases List.mem_append.1 hz with h1 | h1
            · exact .inl h1
            · simp at h1; exact .inr (by omega)
          rw [hw]
          refine (graph_Reach1 N out' todo' nn' jk' w hwo (by have := I2.size; omega)).mono fun r h' hq => ?_
          refine k4 _ ?_
          have hgd : g.next.getD v [] = g.next[v] := by simp [hv']
          have hrw : Reaches g from_ w := .step v w hRv (by rw [hgd, ← hw]; exact List.getElem_mem hly)
          cases hb : out'[w]
          · simp only [hb, Bool.false_eq_true, if_false] at hq
            obtain ⟨q2, N2, rfl⟩ := hq
            have hcs := count_set out' w hwo hb
            refine AW.region [] Θ_ok ?_
            simp
            refine ⟨⟨q2, out'.set w true, todo' ++ [(w : Int)], true, y + 1, []⟩, ⟨N2, I2.meet hwo hrw hb, C.meet hwo, fun z hz hf => ?_, ?_, fun z hz => ?_, hly, ?_⟩, by simp only; omega, GStep.eq (by simp [inc]) (subH.refl _)⟩
            · simp only
              rw [hasN_set out' w z hwo]
              split
              · rfl
              · exact hS z hz hf
            · simp only
              rw [hasN_set out' w v hwo]
              split
              · rfl
              · exact hvo
            · simp only at hz ⊢
              rw [hasN_set out' w z hwo]
              rcases htk z hz with h1 | h1
              · split
                · rfl
                · exact hY z h1
              · rw [if_pos h1]
            · simp only [List.length_append, List.length_cons, List.length_nil]; omega
          · simp only [hb, if_true] at hq
            subst hq
            refine AW.region [] Θ_ok ?_
            simp
            refine ⟨⟨q', out', todo', nn', y + 1, jk'⟩, ⟨N, I2, C, hS, hvo, fun z hz => ?_, hly, hle⟩, by simp only; omega, GStep.eq (by simp [inc]) (subH.refl _)⟩
            rcases htk z hz with h1 | h1
            · exact hY z h1
            · subst h1; simp [hasN, hwo, hb]
        · obtain rfl : y = g.next[v].length := by omega
          refine AW.seq fun _ k4 => AW.cond false (by simp) (fun h => by cases h) (fun _ => ?_)
          refine AW.exit ?_
          simp
          have hgd : g.next.getD v [] = g.next[v] := by simp [hv']
          refine ⟨⟨q', out', todo', nn', 0, jk'⟩, ⟨N, I2, fun z hz _ hzt w hw => ?_, hS⟩, by simp; omega, GStep.eq (by simp) (subH.refl _)⟩
          by_cases e : z = v
          · subst e
            rw [hgd] at hw
            exact hY w (by rw [List.take_length]; exact hw)
          · exact C z hz e hzt w hw
  · refine AW.seq fun _ k2 => AW.region [] Θ_ok ?_
    simp
    refine (graph_May g hf).use (by simp [G.av]) ?_
    try simp [hm]
    refine k2 _ ?_
    refine AW.cond true (by simp [Int.natCast_inj, hm]) (fun _ => ?_) (fun h => by cases h)
    refine AW.seq fun _ kr => AW.region [] Θ_ok ?_
    simp
    refine kr _ (AW.ret ?_)
    simp [Try.f27]
    exact Fin.refl ⟨by simp [reachA, hm], rfl⟩
end Go.Par
