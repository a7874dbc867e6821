/- Texts TjH TjI TjJ TjK TjL TjM TjN TjO, one behind another. -/
import Derived.Test.YtigipgahgkngcaaTgA
import Derived.Test.YtigipgahgkngcaaFgB
import Derived.Test.YtigipgahgkngcaaKgA
set_option linter.unusedSimpArgs false
set_option linter.unusedVariables false
set_option linter.unusedSectionVars false
set_option maxRecDepth 8000
set_option maxHeartbeats 2000000
namespace Go.Par
open Go.Proofs

theorem proof_has (l : List Bool) (v : Nat) : Pure Try.prog 54 [.ro false (bools l), .int .i64 v] (.bool (hasN l v)) := by
  intro h
  refine AC.body Θ_ok Try.func54 rfl rfl (Nat.le_of_ble_eq_true rfl) ?_
  refine AW.seq fun _ k1 => AW.region [] Θ_ok ?_
  simp
  refine k1 _ ?_
  by_cases hv : v < l.length
  · cases hb : l[v] with
    | false =>
      refine AW.seq fun _ kr => AW.region [] Θ_ok ?_
      simp [hv, hb]
      refine kr _ (AW.ret ?_)
      simp [Try.f54]
      exact Fin.refl ⟨by simp [hasN, hv, hb], rfl⟩
    | true =>
      refine AW.seq fun _ kr => AW.region [] Θ_ok ?_
      simp [hv, hb]
      refine kr _ (AW.ret ?_)
      simp [Try.f54]
      exact Fin.refl ⟨by simp [hasN, hv, hb], rfl⟩
  · refine AW.seq fun _ kr => AW.region [] Θ_ok ?_
    simp [hv]
    refine kr _ (AW.ret ?_)
    simp [Try.f54]
    exact Fin.refl ⟨by simp [hasN, List.getElem?_eq_none (Nat.le_of_not_lt hv)], rfl⟩

theorem proof_reach1 {h0 : Heap} {o p5 p6 q : Nat} (N : RN h0 o p5 p6 q) (out : List Bool) (todo : List Int) (nn : Bool) (jk : List Int) (v : Nat) (hv : v < out.length) (ht : todo.length ≤ 8796093022208) :
    AC Try.prog 53 [.int .i64 v, .ptr p5 0, .ptr p6 0] (RH h0 o p5 p6 q out todo nn jk) fun _ h' => if out[v] then h' = RH h0 o p5 p6 q out todo nn jk else ∃ q', RN h0 o p5 p6 q' ∧ h' = RH h0 o p5 p6 q' (out.set v true) (todo ++ [(v : Int)]) true [] := by
  have e1 := N.at1 out todo nn jk
  have e2 := N.at2 out todo nn jk
  have dr : List.drop v (bools out) = .bool out[v] :: List.drop (v + 1) (bools out) := by
    rw [List.drop_eq_getElem_cons (show v < (bools out).length by simpa using hv)]; simp
  refine AC.body Θ_ok Try.func53 rfl rfl (Nat.le_of_ble_eq_true rfl) ?_
  refine AW.seq fun _ k => AW.region [] Θ_ok ?_
  simp [e1, e2, hv, dr]
  refine k _ ?_
  cases hb : out[v]
  · have e3 := N.at3 (out.set v true) todo nn jk
    have e4 := N.at4 (out.set v true) todo nn jk
    refine AW.cond true (by simp [Int.natCast_inj, hb]) (fun _ => ?_) (fun h => by cases h)
    refine AW.seq fun _ k => AW.region [] Θ_ok ?_
    simp [e1, e2, hv, N.set]
    refine ⟨by omega, k _ ?_⟩
    refine AW.region [] Θ_ok ?_
    simp [e3, e4, appendA]
    refine ⟨rfl, ⟨by omega, by omega⟩, fun n' hn => ?_⟩
    obtain ⟨N', e5, he⟩ := N.add (out.set v true) todo nn jk v n' hn
    rw [e5]
    simp [Try.f53]
    exact Fin.refl ⟨n', N', he⟩
  · refine AW.cond false (by simp [Int.natCast_inj, hb]) (fun h => by cases h) (fun _ => ?_)
    refine AW.skip ?_
    simp [Try.f53]
    exact Fin.refl rfl


theorem proof_reach (next : List (List Int)) (ok : BigOk next) (from_ : List Bool) : Pure Try.prog 26 [.ro false (rows next), .ro false (bools from_)] (.ro true (bools (reachL (nG next) from_))) := by
  have hn := ok.len
  intro h
  refine AC.body Θ_ok Try.func26 rfl rfl (Nat.le_of_ble_eq_true rfl) ?_
  refine AW.seq fun _ k1 => AW.region [] Θ_ok ?_
  simp
  refine k1 _ ?_
  refine AW.seq fun _ k1 => AW.region [14, 5] Θ_ok ?_
  simp [newA]
  refine ⟨by omega, fun o ho p5 hp5 => ?_⟩
  refine k1 _ ?_
  refine AW.seq fun _ k1 => AW.region [6] Θ_ok ?_
  simp [newA]
  intro p6 hp6
  refine k1 _ ?_
  refine AW.seq fun _ k1 => AW.region [] Θ_ok ?_
  simp
  refine k1 _ ?_
  have n1 : p5 ≠ o := (ne_of_none hp5 (by simp)).1
  have n5 := (ne_of_none hp5 (by simp)).2
  have n2 := ne_of_none hp6 (by simp)
  have n3 := ne_of_none n2.2 (by simp)
  refine AW.mineCell p6 0 ⟨[.nils], 28, 1, true⟩ 3 1 (by simp [upd]) (by simp) fun q hq => ?_
  simp only at hq
  have m1 := ne_of_none hq (by simp)
  have m2 := ne_of_none m1.2 (by simp)
  have m3 := ne_of_none m2.2 (by simp)
  have N : RN h o p5 p6 q := ⟨n1, n3.1, m3.1, n2.1, m2.1, m1.1, ho, n5, n3.2, m3.2⟩
  have hH : upd (upd (upd (upd (upd h o (some ⟨List.flatMap AV.flat (List.replicate next.length (AV.bool false)), 4, 1, true⟩)) p5 (some ⟨[.mu o next.length], 23, 1, true⟩)) p6 (some ⟨[.nils], 28, 1, true⟩)) p6 (some ⟨[.mu q 0], 28, 1, true⟩)) q (some ⟨[], 3, 1, false⟩) = RH h o p5 p6 q (List.replicate next.length false) [] false [] := by
    funext x
    simp only [upd, RH]
    by_cases e1 : x = q
    · subst e1; simp [N.a3, N.a5, N.a6]
    · by_cases e2 : x = p6
      · subst e2; simp [e1, N.a2, N.a4]
      · by_cases e3 : x = p5
        · subst e3; simp [e1, e2, N.a1]
        · by_cases e4 : x = o
          · subst e4; simp [e1, e2, e3]
            rw [replicate_tab, flat_tab (fun _ _ => rfl), ← replicate_tab]
          · simp [e1, e2, e3, e4]
  simp only [List.set_cons_zero]
  rw [hH]
  refine AW.seq fun _ k1 => ?_
  have e2 := N.at2 (List.replicate next.length false) [] false []
  refine AW.seq fun _ k2 => AW.region [] Θ_ok ?_
  simp [e2]
  refine k2 _ ?_
  refine AW.block ?_
  have I0 : RI (nG next) from_ (List.replicate next.length false) [] := by
    refine ⟨by simp, fun v hv => ?_, fun t ht => by simp at ht, by simp⟩
    simp [hasN, List.getElem?_replicate] at hv
    split at hv <;> simp at hv
  refine AW.loopI (X := RX) (fun s => RN h o p5 p6 s.q ∧ RI (nG next) from_ s.out s.todo ∧ (∀ v : Nat, hasN s.out v = true → (v : Int) ∈ s.todo) ∧ (∀ v, v < s.x → hasN from_ v = true → hasN s.out v = true) ∧ s.x ≤ next.length)
    (fun s => ⟨56, [(18, .int .i64 s.x), (17, .int .i64 next.length), (7, .clo 53 [.ptr p5 0, .ptr p6 0]), (6, .ptr p6 0), (5, .ptr p5 0), (0, .ro false (rows next)), (1, .ro false (bools from_))], RH h o p5 p6 s.q s.out s.todo s.nn s.jk⟩)
    (fun s => next.length - s.x) ⟨q, List.replicate next.length false, [], false, 0, []⟩
    ⟨N, I0, fun v hv => ?_, fun v hv => absurd hv (Nat.not_lt_zero _), Nat.zero_le _⟩ (GStep.eq (by simp) (subH.refl _)) ?_
  · simp [hasN, List.getElem?_replicate] at hv
    split at hv <;> simp at hv
  rintro ⟨q, out, todo, nn, x, jk⟩ ⟨N, I, hT, hS, hx⟩
  simp only at N I hT hS hx ⊢
  refine AW.seq fun _ k2 => AW.region [] Θ_ok ?_
  simp
  refine k2 _ ?_
  by_cases hlt : x < next.length
  · refine AW.seq fun _ k2 => AW.cond true (by simp [Int.natCast_inj, hlt]) (fun _ => ?_) (fun h => by cases h)
    refine AW.skip ?_
    simp
    refine k2 _ ?_
    refine AW.seq fun _ k2 => ?_
    refine AW.block ?_
    refine AW.seq fun _ k3 => AW.region [] Θ_ok ?_
    simp
    refine k3 _ ?_
    have inc := wrap_succ (show x < 9223372036854775807 by omega)
    have hxo : x < out.length := by rw [I.len]; simpa using hlt
    have sH := proof_has from_ x
    by_cases hfr : hasN from_ x = true
    · rw [hfr] at sH
      refine AW.seq fun _ k3 => AW.region [] Θ_ok ?_
      simp
      refine sH.use (by simp) ?_
      try simp
      refine k3 _ ?_
      refine AW.cond true (by simp [Int.natCast_inj]) (fun _ => ?_) (fun h => by cases h)
      refine AW.region [] Θ_ok ?_
      simp
      refine (proof_reach1 N out todo nn jk x hxo (by have := I.size; simp at this; omega)).mono fun r h' hq => ?_
      refine k2 _ ?_
      cases hb : out[x]
      · simp only [hb, Bool.false_eq_true, if_false] at hq
        obtain ⟨q', N', rfl⟩ := hq
        refine AW.region [] Θ_ok ?_
        simp
        refine ⟨⟨q', out.set x true, todo ++ [(x : Int)], true, x + 1, []⟩, ⟨N', I.meet hxo (.start x (by simpa using hlt) hfr) hb, fun v hv => ?_, fun v hv hw => ?_, hlt⟩, by simp only; omega, GStep.eq (by simp [inc]) (subH.refl _)⟩
        · simp only at hv
          rw [hasN_set out x v hxo] at hv
          by_cases e : v = x
          · subst e; simp
          · rw [if_neg e] at hv
            exact List.mem_append.2 (.inl (hT v hv))
        · simp only at hv ⊢
          rw [hasN_set out x v hxo]
          split
          · rfl
          · exact hS v (by omega) hw
      · simp only [hb, if_true] at hq
        subst hq
        refine AW.region [] Θ_ok ?_
        simp
        refine ⟨⟨q, out, todo, nn, x + 1, jk⟩, ⟨N, I, hT, fun v hv hw => ?_, hlt⟩, by simp only; omega, GStep.eq (by simp [inc]) (subH.refl _)⟩
        simp only at hv ⊢
        by_cases e : v = x
        · subst e; simp [hasN, hxo, hb]
        · exact hS v (by omega) hw
    · have hfr' : hasN from_ x = false := by simpa using hfr
      have go : ∀ v, v < x + 1 → hasN from_ v = true → hasN out v = true := by
        intro v hv hw
        by_cases e : v = x
        · subst e; rw [hfr'] at hw; cases hw
        · exact hS v (by omega) hw
      rw [hfr'] at sH
      refine AW.seq fun _ k3 => AW.region [] Θ_ok ?_
      simp
      refine sH.use (by simp) ?_
      try simp
      refine k3 _ ?_
      refine AW.cond false (by simp [Int.natCast_inj]) (fun h => by cases h) (fun _ => ?_)
      refine AW.skip ?_
      simp
      refine k2 _ ?_
      refine AW.region [] Θ_ok ?_
      simp
      exact ⟨⟨q, out, todo, nn, x + 1, jk⟩, ⟨N, I, hT, go, hlt⟩, by simp only; omega, GStep.eq (by simp [inc]) (subH.refl _)⟩
  · obtain rfl : x = next.length := by omega
    refine AW.seq fun _ k2 => AW.cond false (by simp [Int.natCast_inj]) (fun h => by cases h) (fun _ => ?_)
    refine AW.exit ?_
    simp
    refine k1 _ ?_
    refine AW.seq fun _ k1 => ?_
    refine AW.block ?_
    refine AW.loopI (X := RX) (fun s => RN h o p5 p6 s.q ∧ RI (nG next) from_ s.out s.todo ∧ Clo (nG next) s.out s.todo (fun _ => False) ∧ (∀ v, v < next.length → hasN from_ v = true → hasN s.out v = true))
      (fun s => ⟨56, [(7, .clo 53 [.ptr p5 0, .ptr p6 0]), (6, .ptr p6 0), (5, .ptr p5 0), (0, .ro false (rows next))], RH h o p5 p6 s.q s.out s.todo s.nn s.jk⟩)
      (fun s => 2 * s.out.count false + s.todo.length) ⟨q, out, todo, nn, 0, jk⟩ ⟨N, I, fun v hv _ hnt => absurd (hT v hv) hnt, hS⟩ (GStep.eq (by simp) (subH.refl _)) ?_
    clear hT hS I N I0 hH e2 q out todo nn jk
    rintro ⟨q, out, todo, nn, x, jk⟩ ⟨N, I, C, hS⟩
    simp only at N I C hS ⊢
    have e3 := N.at3 out todo nn jk
    have e4 := N.at4 out todo nn jk
    refine AW.seq fun _ k2 => ?_
    refine AW.seq fun _ k3 => AW.region [] Θ_ok ?_
    simp [e3]
    refine k3 _ ?_
    by_cases ht : todo = []
    · subst ht
      refine AW.cond false (by simp [Int.natCast_inj]) (fun h => by cases h) (fun _ => ?_)
      refine AW.exit ?_
      simp
      refine k1 _ ?_
      have e2 := N.at2 out [] nn jk
      refine AW.seq fun _ kr => AW.region [] Θ_ok ?_
      simp [e2]
      refine kr _ (AW.ret ?_)
      simp [Try.f26]
      refine Fin.freeze (k := true) (N.at1 out [] nn jk) (fun _ => rfl) rfl (by simp) (fun u hu => ?_) h (fun y z hy => ?_) ⟨?_, rfl⟩
      · obtain ⟨b, _, rfl⟩ := List.mem_map.1 hu
        rfl
      · have a1 : y ≠ o := by rintro rfl; rw [N.f1] at hy; cases hy
        have a2 : y ≠ p5 := by rintro rfl; rw [N.f2] at hy; cases hy
        have a3 : y ≠ p6 := by rintro rfl; rw [N.f3] at hy; cases hy
        have a4 : y ≠ q := by rintro rfl; rw [N.f4] at hy; cases hy
        rw [upd_ne _ _ a1]
        simp only [RH, if_neg a1, if_neg a2, if_neg a3, if_neg a4]
        exact hy
      · rw [I.done C (fun v hv hf => hS v (by simpa using hv) hf)]
    · obtain ⟨t0, u, rfl⟩ : ∃ t0 u, todo = t0 ++ [u] := ⟨todo.dropLast, todo.getLast ht, (List.dropLast_concat_getLast ht).symm⟩
      have ht' : (0 : Int) < ((t0 ++ [u]).length : Nat) := by simp
      refine AW.cond true (by simp [Int.natCast_inj]) (fun _ => ?_) (fun h => by cases h)
      refine AW.skip ?_
      simp
      refine k2 _ ?_
      refine AW.block ?_
      have hwr := wrap_nat (show t0.length < 9223372036854775808 by have := I.size; simp at this; omega)
      have e3' : RH h o p5 p6 q out (t0 ++ [u]) nn jk p6 = some ⟨[.mu q (t0.length + 1)], 28, 1, true⟩ := by rw [e3]; simp
      have dr : List.drop t0.length (ints (t0 ++ [u] ++ jk)) = .int .i64 u :: ints jk := by simp [ints]
      have hj : RH h o p5 p6 q out t0 nn (u :: jk) = upd (RH h o p5 p6 q out (t0 ++ [u]) nn jk) p6 (some ⟨[.mu q t0.length], 28, 1, true⟩) := by
        funext y
        simp only [upd, RH]
        by_cases e : y = p6
        · subst e; simp [N.a2, N.a4]
        · simp [e]
      refine AW.seq fun _ k3 => AW.region [] Θ_ok ?_
      simp [e3', hwr, e4, dr]
      refine ⟨by omega, k3 _ ?_⟩
      refine AW.seq fun _ k3 => AW.region [] Θ_ok ?_
      simp [e3', hwr, e4, dr]
      refine ⟨by omega, k3 _ ?_⟩
      rw [← hj]
      obtain ⟨v, rfl, hv, hvo⟩ := I.todoIn u (by simp)
      have hv' : v < next.length := by simpa using hv
      have hlr := ok.row _ (List.getElem_mem hv')
      have hrow := ok.lt _ (List.getElem_mem hv')
      have I1 : RI (nG next) from_ out t0 := ⟨I.len, I.sound, fun t ht => I.todoIn t (List.mem_append.2 (.inl ht)), by have := I.size; simp at this ⊢; omega⟩
      have C1 : Clo (nG next) out t0 (fun z => z = v) := fun z hz hzv hzt w hw => C z hz (fun h => h) (fun hmem => by
        rcases List.mem_append.1 hmem with h1 | h1
        · exact hzt h1
        · simp at h1; exact hzv (by omega)) w hw
      refine AW.seq fun _ k3 => AW.region [] Θ_ok ?_
      simp [hv']
      refine k3 _ ?_
      refine AW.block ?_
      refine AW.loopI (X := RX) (fun s => RN h o p5 p6 s.q ∧ RI (nG next) from_ s.out s.todo ∧ Clo (nG next) s.out s.todo (fun z => z = v) ∧ (∀ w, w < next.length → hasN from_ w = true → hasN s.out w = true) ∧ hasN s.out v = true ∧
          (∀ w : Nat, (w : Int) ∈ next[v].take s.x → hasN s.out w = true) ∧ s.x ≤ next[v].length ∧ 2 * s.out.count false + s.todo.length ≤ 2 * out.count false + t0.length)
        (fun s => ⟨56, [(47, .int .i64 s.x), (46, .int .i64 next[v].length), (45, .ro false (ints next[v])), (7, .clo 53 [.ptr p5 0, .ptr p6 0]), (6, .ptr p6 0), (5, .ptr p5 0), (0, .ro false (rows next))], RH h o p5 p6 s.q s.out s.todo s.nn s.jk⟩)
        (fun s => next[v].length - s.x) ⟨q, out, t0, nn, 0, (v : Int) :: jk⟩ ⟨N, I1, C1, hS, hvo, fun w hw => by simp at hw, Nat.zero_le _, Nat.le_refl _⟩ (GStep.eq (by simp) (subH.refl _)) ?_
      have hRv := I.sound v hvo
      have hM : 2 * out.count false + t0.length < 2 * out.count false + (t0.length + 1) := by omega
      generalize 2 * out.count false + t0.length = M at hM
      clear C C1 I1 hj e3 e3' e4 dr hvo hS N
      rintro ⟨q', out', todo', nn', y, jk'⟩ ⟨N, I2, C, hS, hvo, hY, hy, hle⟩
      simp only at N I2 C hS hvo hY hy hle ⊢
      refine AW.seq fun _ k4 => AW.region [] Θ_ok ?_
      simp
      refine k4 _ ?_
      by_cases hly : y < next[v].length
      · refine AW.seq fun _ k4 => AW.cond true (by simp [Int.natCast_inj, hly]) (fun _ => ?_) (fun h => by cases h)
        refine AW.skip ?_
        simp
        refine k4 _ ?_
        refine AW.seq fun _ k4 => ?_
        refine AW.block ?_
        refine AW.seq fun _ k5 => AW.region [] Θ_ok ?_
        simp [hly]
        refine k5 _ ?_
        refine AW.region [] Θ_ok ?_
        simp
        have inc := wrap_succ (show y < 9223372036854775807 by omega)
        obtain ⟨b0, b1⟩ := hrow _ (List.getElem_mem hly)
        obtain ⟨w, hw⟩ := Int.eq_ofNat_of_zero_le b0
        have hwo : w < out'.length := by rw [I2.len]; simp; omega
        have htk : ∀ z : Nat, (z : Int) ∈ next[v].take (y + 1) → (z : Int) ∈ next[v].take y ∨ z = w := by
          intro z hz
          rw [List.take_succ_eq_append_getElem hly] at hz
          rcases List.mem_append.1 hz with h1 | h1
          · exact .inl h1
          · simp at h1; exact .inr (by omega)
        rw [hw]
        refine (proof_reach1 N out' todo' nn' jk' w hwo (by have := I2.size; simp at this; omega)).mono fun r h' hq => ?_
        refine k4 _ ?_
        have hgd : (nG next).next.getD v [] = next[v] := by simp [hv']
        have hrw : Reaches (nG next) from_ w := .step v w hRv (by rw [hgd, ← hw]; exact List.getElem_mem hly)
        cases hb : out'[w]
        · simp only [hb, Bool.false_eq_true, if_false] at hq
          obtain ⟨q2, N2, rfl⟩ := hq
          have hcs := count_set out' w hwo hb
          refine AW.region [] Θ_ok ?_
          simp
          refine ⟨⟨q2, out'.set w true, todo' ++ [(w : Int)], true, y + 1, []⟩, ⟨N2, I2.meet hwo hrw hb, C.meet hwo, fun z hz hf => ?_, ?_, fun z hz => ?_, hly, ?_⟩, by simp only; omega, GStep.eq (by simp [inc]) (subH.refl _)⟩
          · simp only
            rw [hasN_set out' w z hwo]
            split
            · rfl
            · exact hS z hz hf
          · simp only
            rw [hasN_set out' w v hwo]
            split
            · rfl
            · exact hvo
          · simp only at hz ⊢
            rw [hasN_set out' w z hwo]
            rcases htk z hz with h1 | h1
            · split
              · rfl
              · exact hY z h1
            · rw [if_pos h1]
          · simp only [List.length_append, List.length_cons, List.length_nil]; omega
        · simp only [hb, if_true] at hq
          subst hq
          refine AW.region [] Θ_ok ?_
          simp
          refine ⟨⟨q', out', todo', nn', y + 1, jk'⟩, ⟨N, I2, C, hS, hvo, fun z hz => ?_, hly, hle⟩, by simp only; omega, GStep.eq (by simp [inc]) (subH.refl _)⟩
          rcases htk z hz with h1 | h1
          · exact hY z h1
          · subst h1; simp [hasN, hwo, hb]
      · obtain rfl : y = next[v].length := by omega
        refine AW.seq fun _ k4 => AW.cond false (by simp) (fun h => by cases h) (fun _ => ?_)
        refine AW.exit ?_
        simp
        have hgd : (nG next).next.getD v [] = next[v] := by simp [hv']
        refine ⟨⟨q', out', todo', nn', 0, jk'⟩, ⟨N, I2, fun z hz _ hzt w hw => ?_, hS⟩, by simp; omega, GStep.eq (by simp) (subH.refl _)⟩
        by_cases e : z = v
        · subst e
          rw [hgd] at hw
          exact hY w (by rw [List.take_length]; exact hw)
        · exact C z hz e hzt w hw
end Go.Par

set_option linter.unusedSimpArgs false
set_option linter.unusedVariables false
namespace Go.Par

section
variable {E : Nat → Nat → Prop} {S : Nat → Prop} {out : List (List Nat)} {pr : Nat → Int}
def BadW (E : Nat → Nat → Prop) (S : Nat → Prop) (pr : Nat → Int) : Prop := ∃ w, (pr w).tmod 2 ≠ 0 ∧ Way E (fun x => S x ∧ pr x ≤ pr w) w w
def IsPart (E : Nat → Nat → Prop) (S : Nat → Prop) (p : List Nat) : Prop := ∃ r, Way E S r r ∧ ∀ u, u ∈ p ↔ Same E S u r
theorem IsPart.sub {p : List Nat} (h : IsPart E S p) {u : Nat} (hu : u ∈ p) : S u := by
  obtain ⟨r, hr, hs⟩ := h
  rcases (hs u).1 hu with e | ⟨w, _⟩
  · rw [e]; exact hr.fst
  · exact w.fst
theorem IsPart.ne {p : List Nat} (h : IsPart E S p) : p ≠ [] := by
  obtain ⟨r, hr, hs⟩ := h
  intro e
  have := (hs r).2 (.inl rfl)
  rw [e] at this; cases this
theorem BadW.mono {S' : Nat → Prop} (h : BadW E S pr) (hs : ∀ x, S x → S' x) : BadW E S' pr := by
  obtain ⟨w, h1, h2⟩ := h
  exact ⟨w, h1, h2.sub fun x hx => ⟨hs x hx.1, hx.2⟩⟩
theorem same_mono {S' : Nat → Prop} (hs : ∀ x, S x → S' x) {u v : Nat} (h : Same E S u v) : Same E S' u v := by
  rcases h with e | ⟨a, b⟩
  · exact .inl e
  · exact .inr ⟨a.sub hs, b.sub hs⟩
theorem bad_parts (P : PartsOk E S out) : BadW E S pr ↔ ∃ p ∈ out, BadW E (fun x => x ∈ p) pr := by
  constructor
  · rintro ⟨w, h1, h2⟩
    obtain ⟨p, hp, hw⟩ := P.all w (h2.sub fun x hx => hx.1)
    obtain ⟨r, hr, hs⟩ := P.comp p hp
    refine ⟨p, hp, w, h1, (h2.same h2).sub fun x hx => ⟨?_, hx.1.2⟩⟩
    exact (hs x).2 ((same_mono (fun y hy => hy.1) hx.2).trans ((hs w).1 hw))
  · rintro ⟨p, hp, h⟩
    exact h.mono fun x hx => IsPart.sub (P.comp p hp) hx
theorem bad_odd {p : List Nat} (h : IsPart E S p) {w : Nat} (hw : w ∈ p) (hm : ∀ u ∈ p, pr u ≤ pr w) (ho : (pr w).tmod 2 ≠ 0) : BadW E (fun x => x ∈ p) pr := by
  obtain ⟨r, hr, hs⟩ := h
  have sw := (hs w).1 hw
  have lw := sw.loop hr
  refine ⟨w, ho, (lw.same lw).sub fun x hx => ?_⟩
  have := (hs x).2 (hx.2.trans sw)
  exact ⟨this, hm x this⟩
theorem bad_even {p : List Nat} {w : Nat} (hm : ∀ u ∈ p, pr u ≤ pr w) (ho : ¬ (pr w).tmod 2 ≠ 0) : BadW E (fun x => x ∈ p) pr ↔ BadW E (fun x => x ∈ p ∧ pr x < pr w) pr := by
  constructor
  · rintro ⟨v, h1, h2⟩
    have hv := hm v h2.fst.1
    have hlt : pr v < pr w := by
      rcases Int.lt_or_eq_of_le hv with q | q
      · exact q
      · rw [q] at h1; exact absurd h1 ho
    exact ⟨v, h1, h2.sub fun x hx => ⟨⟨hx.1, by have := hx.2; omega⟩, hx.2⟩⟩
  · exact fun h => h.mono fun x hx => hx.1

/-- A part meets each row. -/
def meetP (p : List Nat) (rs : List (List Bool)) : Bool := rs.all fun r => p.any fun v => hasN r v
theorem meetP_iff (p : List Nat) (rs : List (List Bool)) : meetP p rs = true ↔ ∀ r ∈ rs, ∃ v, hasN r v = true ∧ v ∈ p := by
  unfold meetP
  simp only [List.all_eq_true, List.any_eq_true]
  exact ⟨fun h r hr => by obtain ⟨v, h1, h2⟩ := h r hr; exact ⟨v, h2, h1⟩, fun h r hr => by obtain ⟨v, h1, h2⟩ := h r hr; exact ⟨v, h2, h1⟩⟩
theorem meets_parts (P : PartsOk E S out) (rs : List (List Bool)) : (out.any fun p => meetP p rs) = true ↔ ∃ v, Way E S v v ∧ ∀ r ∈ rs, ∃ w, hasN r w = true ∧ Same E S w v := by
  simp only [List.any_eq_true, meetP_iff]
  constructor
  · rintro ⟨p, hp, h⟩
    obtain ⟨r, hr, hs⟩ := P.comp p hp
    exact ⟨r, hr, fun row hrow => by obtain ⟨v, h1, h2⟩ := h row hrow; exact ⟨v, h1, (hs v).1 h2⟩⟩
  · rintro ⟨v, hv, h⟩
    obtain ⟨p, hp, hvp⟩ := P.all v hv
    obtain ⟨r, hr, hs⟩ := P.comp p hp
    exact ⟨p, hp, fun row hrow => by obtain ⟨w, h1, h2⟩ := h row hrow; exact ⟨w, h1, (hs w).2 (h2.trans ((hs v).1 hvp))⟩⟩
theorem some_parts (P : PartsOk E S out) : out ≠ [] ↔ ∃ v, Way E S v v := by
  constructor
  · intro h
    cases out with
    | nil => exact absurd rfl h
    | cons p l =>
      obtain ⟨r, hr, _⟩ := P.comp p (by simp)
      exact ⟨r, hr⟩
  · rintro ⟨v, hv⟩ e
    obtain ⟨p, hp, _⟩ := P.all v hv
    rw [e] at hp; cases hp
end

/-- Some vertices without those of a row. -/
def wiP (a r : List Bool) : List Bool := tab a.length fun v => hasN a v && !hasN r v
theorem wiP_len (a r : List Bool) : (wiP a r).length = a.length := length_tab _ _
theorem kS_wiP (next : List (List Int)) (a r : List Bool) (ha : a.length = next.length) : kS next (wiP a r) = kS next (r9andL a (wiL next r)) := by
  funext v
  unfold kS
  refine propext (and_congr_right fun hv => ?_)
  have e1 : hasN (wiP a r) v = (hasN a v && !hasN r v) := by
    rw [hasN, wiP, getD_tab, if_pos (by omega)]
  have e2 : hasN (wiL next r) v = !hasN r v := by rw [hasN, wiL, getD_tab, if_pos hv]
  have e3 : hasN (r9andL a (wiL next r)) v = (hasN a v && hasN (wiL next r) v) := by
    rw [hasN, r9andL, getD_tab, if_pos (by omega)]
  rw [e1, e3, e2]
theorem kS_full (next : List (List Int)) (a : List Bool) (ha : a.length = next.length) : kS next a = kS next (r9andL a (fullL next)) := by
  funext v
  unfold kS
  refine propext (and_congr_right fun hv => ?_)
  have e2 : hasN (fullL next) v = true := by rw [hasN, fullL, getD_tab, if_pos hv]
  have e3 : hasN (r9andL a (fullL next)) v = (hasN a v && hasN (fullL next) v) := by
    rw [hasN, r9andL, getD_tab, if_pos (by omega)]
  rw [e3, e2]; simp
end Go.Par

set_option linter.unusedSimpArgs false
set_option linter.unusedVariables false
set_option maxRecDepth 8000
set_option maxHeartbeats 2000000
namespace Go.Par
open Go.Proofs

def okW (n : Nat) (w : Int) : Bool := decide (0 ≤ w) && decide (w < n)
def mayN (next : List (List Int)) : Bool := decide (next.length ≤ 12000) && next.all fun l => l.all (okW next.length)
theorem mayN_iff {next : List (List Int)} : mayN next = true ↔ next.length ≤ 12000 ∧ ∀ l ∈ next, ∀ w ∈ l, 0 ≤ w ∧ w < next.length := by
  simp [mayN, okW]
theorem mayN_ok {next : List (List Int)} (h : mayN next = true) (hr : ∀ l ∈ next, l.length ≤ 1000000000) : BigOk next := ⟨(mayN_iff.1 h).1, hr, (mayN_iff.1 h).2⟩
theorem mayN_no {next : List (List Int)} {x y : Nat} (hx : x < next.length) (hy : y < next[x].length) (h : okW next.length next[x][y] = false) : mayN next = false := by
  cases hm : mayN next with
  | false => rfl
  | true =>
    obtain ⟨_, h2⟩ := mayN_iff.1 hm
    obtain ⟨a, b⟩ := h2 _ (List.getElem_mem hx) _ (List.getElem_mem hy)
    simp [okW, a, b] at h

theorem proof_may (next : List (List Int)) (hl : next.length ≤ 17592186044416) (hr : ∀ l ∈ next, l.length ≤ 17592186044416) : Pure Try.prog 25 [.ro false (rows next)] (.bool (mayN next)) := by
  intro h
  refine AC.body Θ_ok Try.func25 rfl rfl (Nat.le_of_ble_eq_true rfl) ?_
  refine AW.seq fun _ k1 => AW.region [] Θ_ok ?_
  simp
  refine k1 _ ?_
  refine AW.seq fun _ k2 => ?_
  refine AW.seq fun _ k3 => AW.region [] Θ_ok ?_
  simp
  refine k3 _ ?_
  by_cases hc : next.length ≤ 12000
  · have c1 : ¬ (12000 : Int) < next.length := by omega
    refine AW.cond false (by simp [Int.natCast_inj, c1]) (fun h => by cases h) (fun _ => ?_)
    refine AW.skip ?_
    simp
    refine k2 _ ?_
    refine AW.seq fun _ k4 => ?_
    refine AW.seq fun _ k5 => AW.region [] Θ_ok ?_
    simp
    refine k5 _ ?_
    refine AW.block ?_
    refine AW.loopI (X := Nat) (fun x => x ≤ next.length ∧ ∀ l ∈ next.take x, ∀ w ∈ l, okW next.length w = true) (fun x => ⟨32, [(0, .ro false (rows next)), (10, .ro false (rows next)), (11, .int .i64 next.length), (12, .int .i64 x)], h⟩) (fun x => next.length - x) 0 ⟨Nat.zero_le _, fun l hl => by simp at hl⟩ (GStep.eq (by simp) (subH.refl _)) fun x hx => ?_
    obtain ⟨hx, hg⟩ := hx
    refine AW.seq fun _ k6 => AW.region [] Θ_ok ?_
    simp
    refine k6 _ ?_
    by_cases hlt : x < next.length
    · have inc := wrap_succ (show x < 9223372036854775807 by omega)
      have hrl := hr _ (List.getElem_mem hlt)
      refine AW.seq fun _ k7 => AW.cond true (by simp [Int.natCast_inj, hlt]) (fun _ => ?_) (fun h => by cases h)
      refine AW.skip ?_
      simp
      refine k7 _ ?_
      refine AW.seq fun _ k8 => ?_
      refine AW.block ?_
      refine AW.seq fun _ k9 => AW.region [] Θ_ok ?_
      simp [hlt]
      refine k9 _ ?_
      refine AW.seq fun _ k10 => AW.region [] Θ_ok ?_
      simp
      refine k10 _ ?_
      refine AW.block ?_
      refine AW.loopI (X := Nat) (fun y => y ≤ next[x].length ∧ ∀ w ∈ next[x].take y, okW next.length w = true) (fun y => ⟨32, [(0, .ro false (rows next)), (10, .ro false (rows next)), (11, .int .i64 next.length), (12, .int .i64 x), (16, .ro false (ints next[x])), (17, .int .i64 next[x].length), (18, .int .i64 y)], h⟩) (fun y => next[x].length - y) 0 ⟨Nat.zero_le _, fun w hw => by simp at hw⟩ (GStep.eq (by simp) (subH.refl _)) fun y hy => ?_
      obtain ⟨hy, hgy⟩ := hy
      refine AW.seq fun _ k11 => AW.region [] Θ_ok ?_
      simp
      refine k11 _ ?_
      by_cases hly : y < next[x].length
      · have incy := wrap_succ (show y < 9223372036854775807 by omega)
        have hno := mayN_no hlt hly
        have hst : ∀ w ∈ next[x].take (y + 1), w ∈ next[x].take y ∨ w = next[x][y] := fun w hw => by
          rwa [List.take_succ_eq_append_getElem hly, List.mem_append, List.mem_singleton] at hw
        obtain ⟨w, hw⟩ : ∃ w, next[x][y] = w := ⟨_, rfl⟩
        rw [hw] at hno
        simp only [hw] at hst
        refine AW.seq fun _ k12 => AW.cond true (by simp [Int.natCast_inj, hly]) (fun _ => ?_) (fun h => by cases h)
        refine AW.skip ?_
        simp
        refine k12 _ ?_
        refine AW.seq fun _ k13 => ?_
        refine AW.block ?_
        have hw0 : okW next.length w = (decide (0 ≤ w) && decide (w < next.length)) := rfl
        refine AW.seq fun _ k14 => AW.region [] Θ_ok ?_
        simp [hly, hw]
        refine k14 _ ?_
        have bad : okW next.length w = false → Fin (.bool false) h fun r h' => r = .bool (mayN next) ∧ h' = h := fun q => Fin.refl ⟨by rw [hno q], rfl⟩
        by_cases h0 : 0 ≤ w
        · by_cases h1 : w < (next.length : Int)
          · refine AW.seq fun _ k15 => AW.region [] Θ_ok ?_
            simp [Int.not_lt.2 h0, h0, Int.not_le.2 h1, h1]
            refine k15 _ ?_
            refine AW.cond false (by simp [Int.natCast_inj]) (fun h => by cases h) (fun _ => ?_)
            refine AW.skip ?_
            simp
            refine k13 _ ?_
            refine AW.region [] Θ_ok ?_
            simp
            refine ⟨y + 1, ⟨hly, fun u hu => ?_⟩, by omega, GStep.eq (by simp [incy]) (subH.refl _)⟩
            rcases hst u hu with q | q
            · exact hgy u q
            · rw [q, hw0]; simp [h0, h1]
          · refine AW.seq fun _ k15 => AW.region [] Θ_ok ?_
            simp [Int.not_lt.2 h0, h0, Int.not_lt.1 h1, h1]
            refine k15 _ ?_
            refine AW.cond true (by simp [Int.natCast_inj]) (fun _ => ?_) (fun h => by cases h)
            refine AW.seq fun _ kr => AW.region [] Θ_ok ?_
            simp
            refine kr _ (AW.ret ?_)
            simp [Try.f25]
            exact bad (by rw [hw0]; simp [h0, h1])
        · refine AW.seq fun _ k15 => AW.region [] Θ_ok ?_
          simp [Int.not_le.1 h0, h0]
          refine k15 _ ?_
          refine AW.cond true (by simp [Int.natCast_inj]) (fun _ => ?_) (fun h => by cases h)
          refine AW.seq fun _ kr => AW.region [] Θ_ok ?_
          simp
          refine kr _ (AW.ret ?_)
          simp [Try.f25]
          exact bad (by rw [hw0]; simp [h0])
      · obtain rfl : y = next[x].length := by omega
        refine AW.seq fun _ k12 => AW.cond false (by simp [Int.natCast_inj]) (fun h => by cases h) (fun _ => ?_)
        refine AW.exit ?_
        simp
        refine k8 _ ?_
        refine AW.region [] Θ_ok ?_
        simp
        refine ⟨x + 1, ⟨hlt, fun l hl => ?_⟩, by omega, GStep.eq (by simp [inc]) (subH.refl _)⟩
        rw [List.take_succ_eq_append_getElem hlt, List.mem_append, List.mem_singleton] at hl
        rcases hl with q | q
        · exact hg l q
        · rw [q]; rw [List.take_length] at hgy; exact hgy
    · obtain rfl : x = next.length := by omega
      refine AW.seq fun _ k7 => AW.cond false (by simp [Int.natCast_inj]) (fun h => by cases h) (fun _ => ?_)
      refine AW.exit ?_
      simp
      refine k4 _ ?_
      refine AW.seq fun _ kr => AW.region [] Θ_ok ?_
      simp
      refine kr _ (AW.ret ?_)
      simp [Try.f25]
      refine Fin.refl ⟨?_, rfl⟩
      rw [List.take_length] at hg
      have : mayN next = true := by simp only [mayN, hc, decide_true, Bool.true_and, List.all_eq_true]; exact hg
      rw [this]
  · have c1 : (12000 : Int) < next.length := by omega
    refine AW.cond true (by simp [Int.natCast_inj, c1]) (fun _ => ?_) (fun h => by cases h)
    refine AW.seq fun _ kr => AW.region [] Θ_ok ?_
    simp
    refine kr _ (AW.ret ?_)
    simp [Try.f25]
    exact Fin.refl ⟨by simp [mayN, hc], rfl⟩

theorem proof_without (a r : List Bool) (ha : a.length ≤ 12000) : Pure Try.prog 28 [.ro false (bools a), .ro false (bools r)] (.ro true (bools (wiP a r))) := by
  intro h
  refine AC.body Θ_ok Try.func28 rfl rfl (Nat.le_of_ble_eq_true rfl) ?_
  refine AW.seq fun _ k1 => AW.region [] Θ_ok ?_
  simp
  refine k1 _ ?_
  refine AW.seq fun _ k1 => AW.region [10] Θ_ok ?_
  simp
  refine ⟨by omega, fun o ho => k1 _ ?_⟩
  rw [replicate_tab, flat_tab (fun _ _ => rfl)]
  refine AW.seq fun _ k1 => ?_
  refine AW.seq fun _ k2 => AW.region [] Θ_ok ?_
  simp
  refine k2 _ ?_
  refine AW.block ?_
  refine AW.loopI (X := Nat) (fun x => x ≤ a.length) (fun x => ⟨30, [(1, .ro false (bools r)), (5, .mu o a.length), (11, .ro false (bools a)), (12, .int .i64 a.length), (13, .int .i64 x)], upd h o (some ⟨tab a.length fun i => .bool (decide (i < x) && (hasN a i && !hasN r i)), 4, 1, true⟩)⟩) (fun x => a.length - x) 0 (Nat.zero_le _) (GStep.eq (by simp) ?_) fun x hx => ?_
  · simp; exact subH.refl _
  refine AW.seq fun _ k2 => AW.region [] Θ_ok ?_
  simp
  refine k2 _ ?_
  by_cases hlt : x < a.length
  · have inc := wrap_succ (show x < 9223372036854775807 by omega)
    have sA := proof_has r x
    have ea : hasN a x = a[x] := by simp [hasN, hlt]
    have hset : (tab a.length fun i => AV.bool (decide (i < x) && (hasN a i && !hasN r i))).set x (.bool (hasN a x && !hasN r x)) = tab a.length fun i => .bool (decide (i < x + 1) && (hasN a i && !hasN r i)) := by
      rw [set_tab]
      refine tab_congr fun i hi => ?_
      by_cases e : i = x
      · subst e; simp
      · by_cases h1 : i < x
        · simp [e, h1, show i < x + 1 by omega]
        · simp [e, h1, show ¬ i < x + 1 by omega]
    rw [ea] at hset
    generalize hasN r x = b at sA hset
    refine AW.seq fun _ k2 => AW.cond true (by simp [Int.natCast_inj, hlt]) (fun _ => ?_) (fun h => by cases h)
    refine AW.skip ?_
    simp
    refine k2 _ ?_
    refine AW.seq fun _ k2 => ?_
    refine AW.block ?_
    refine AW.seq fun _ k3 => AW.region [] Θ_ok ?_
    simp [hlt]
    refine k3 _ ?_
    cases hb : a[x] with
    | false =>
      rw [hb] at hset
      refine AW.region [] Θ_ok ?_
      simp [hb, hlt]
      refine ⟨by omega, k2 _ ?_⟩
      refine AW.region [] Θ_ok ?_
      simp
      exact ⟨x + 1, by omega, by omega, GStep.eq (by simp [inc]) (subH_of_eq (congrArg (fun c => upd h o (some ⟨c, 4, 1, true⟩)) hset))⟩
    | true =>
      rw [hb] at hset
      refine AW.regionAt 7 [] Θ_ok fun B hB => ?_
      simp [hb]
      refine sA.use (by simp) ?_
      refine hB _ ?_
      clear hB B
      simp [hlt]
      refine ⟨by omega, k2 _ ?_⟩
      refine AW.region [] Θ_ok ?_
      simp
      exact ⟨x + 1, by omega, by omega, GStep.eq (by simp [inc]) (subH_of_eq (congrArg (fun c => upd h o (some ⟨c, 4, 1, true⟩)) hset))⟩
  obtain rfl : x = a.length := by omega
  refine AW.seq fun _ k2 => AW.cond false (by simp [Int.natCast_inj]) (fun h => by cases h) (fun _ => ?_)
  refine AW.exit ?_
  simp
  refine k1 _ ?_
  refine AW.seq fun _ kr => AW.region [] Θ_ok ?_
  simp
  refine kr _ (AW.ret ?_)
  simp [Try.f28]
  refine Fin.freeze (k := true) (upd_same _ _ _) (fun _ => rfl) rfl (by simp) (ones_bools _ _) h (by simp [upd_none_id ho]; exact subH.refl _) ⟨?_, rfl⟩
  simp only [bools, wiP, map_tab]
  congr 1
  exact tab_congr fun i hi => by simp [hi]

def anyP (p : List Nat) (r : List Bool) (y : Nat) : Bool := (p.take y).any fun v => hasN r v
theorem anyP_step (p : List Nat) (r : List Bool) {y : Nat} (hy : y < p.length) : anyP p r (y + 1) = (anyP p r y || hasN r p[y]) := by
  unfold anyP; rw [List.take_succ_eq_append_getElem hy, List.any_append]; simp
def allP (p : List Nat) (rs : List (List Bool)) (x : Nat) : Bool := (rs.take x).all fun r => anyP p r p.length
theorem allP_step (p : List Nat) (rs : List (List Bool)) {x : Nat} (hx : x < rs.length) : allP p rs (x + 1) = (allP p rs x && anyP p rs[x] p.length) := by
  unfold allP; rw [List.take_succ_eq_append_getElem hx, List.all_append]; simp
theorem allP_all (p : List Nat) (rs : List (List Bool)) : allP p rs rs.length = meetP p rs := by
  unfold allP meetP anyP; simp
theorem allP_no {p : List Nat} {rs : List (List Bool)} {x : Nat} (hx : x < rs.length) (h : anyP p rs[x] p.length = false) : meetP p rs = false := by
  cases hm : meetP p rs with
  | false => rfl
  | true =>
    have := (List.all_eq_true.1 hm) _ (List.getElem_mem hx)
    simp only [anyP, List.take_length] at h
    rw [this] at h; cases h

theorem proof_meets (p : List Nat) (rs : List (List Bool)) (hp : p.length ≤ 12000) (hrs : rs.length ≤ 17592186044416) : Pure Try.prog 29 [.ro false (ints (nI p)), .ro false (bools2 rs)] (.bool (meetP p rs)) := by
  intro h
  refine AC.body Θ_ok Try.func29 rfl rfl (Nat.le_of_ble_eq_true rfl) ?_
  refine AW.seq fun _ k1 => AW.region [] Θ_ok ?_
  simp
  refine k1 _ ?_
  refine AW.seq fun _ k2 => ?_
  refine AW.seq fun _ k3 => AW.region [] Θ_ok ?_
  simp
  refine k3 _ ?_
  refine AW.block ?_
  refine AW.loopI (X := Nat) (fun x => x ≤ rs.length ∧ allP p rs x = true) (fun x => ⟨32, [(0, .ro false (ints (nI p))), (10, .ro false (bools2 rs)), (11, .int .i64 rs.length), (12, .int .i64 x)], h⟩) (fun x => rs.length - x) 0 ⟨Nat.zero_le _, rfl⟩ (GStep.eq (by simp) (subH.refl _)) fun x hx => ?_
  obtain ⟨hx, hno⟩ := hx
  refine AW.seq fun _ k4 => AW.region [] Θ_ok ?_
  simp
  refine k4 _ ?_
  by_cases hlt : x < rs.length
  · have inc := wrap_succ (show x < 9223372036854775807 by omega)
    have st := allP_step p rs hlt
    have no := allP_no (p := p) hlt
    refine AW.seq fun _ k5 => AW.cond true (by simp [Int.natCast_inj, hlt]) (fun _ => ?_) (fun h => by cases h)
    refine AW.skip ?_
    simp
    refine k5 _ ?_
    refine AW.seq fun _ k6 => ?_
    refine AW.block ?_
    refine AW.seq fun _ k7 => AW.region [] Θ_ok ?_
    simp [hlt]
    refine k7 _ ?_
    refine AW.seq fun _ k8 => AW.region [] Θ_ok ?_
    simp
    refine k8 _ ?_
    generalize rs[x] = r at *
    refine AW.seq fun _ k9 => ?_
    refine AW.seq fun _ k10 => AW.region [] Θ_ok ?_
    simp
    refine k10 _ ?_
    refine AW.block ?_
    refine AW.loopI (X := Nat) (fun y => y ≤ p.length) (fun y => ⟨32, [(0, .ro false (ints (nI p))), (6, .ro false (bools r)), (7, .bool (anyP p r y)), (10, .ro false (bools2 rs)), (11, .int .i64 rs.length), (12, .int .i64 x), (16, .ro false (ints (nI p))), (17, .int .i64 p.length), (18, .int .i64 y)], h⟩) (fun y => p.length - y) 0 (Nat.zero_le _) (GStep.eq (by simp [anyP]) (subH.refl _)) fun y hy => ?_
    refine AW.seq fun _ k11 => AW.region [] Θ_ok ?_
    simp
    refine k11 _ ?_
    by_cases hly : y < p.length
    · have incy := wrap_succ (show y < 9223372036854775807 by omega)
      have sty := anyP_step p r hly
      have sH := proof_has r p[y]
      have eg : (nI p)[y]? = some (p[y] : Int) := by simp [nI, hly]
      have eg2 : ∀ q, (nI p)[y]'q = (p[y] : Int) := fun q => by simp [nI]
      generalize hasN r p[y] = b at sH sty
      generalize p[y] = w at *
      refine AW.seq fun _ k12 => AW.cond true (by simp [Int.natCast_inj, hly]) (fun _ => ?_) (fun h => by cases h)
      refine AW.skip ?_
      simp
      refine k12 _ ?_
      refine AW.seq fun _ k13 => ?_
      refine AW.block ?_
      refine AW.seq fun _ k14 => AW.region [] Θ_ok ?_
      simp [hly, eg, eg2]
      refine k14 _ ?_
      cases hm : anyP p r y with
      | true =>
        rw [hm] at sty
        refine AW.region [] Θ_ok ?_
        simp
        refine k13 _ ?_
        refine AW.region [] Θ_ok ?_
        simp
        exact ⟨y + 1, by omega, by omega, GStep.eq (by simp [incy, sty]) (subH.refl _)⟩
      | false =>
        rw [hm] at sty
        refine AW.regionAt 5 [] Θ_ok fun B hB => ?_
        simp
        refine sH.use (by simp) ?_
        refine hB _ ?_
        clear hB B
        simp
        refine k13 _ ?_
        refine AW.region [] Θ_ok ?_
        simp
        exact ⟨y + 1, by omega, by omega, GStep.eq (by simp [incy, sty]) (subH.refl _)⟩
    · obtain rfl : y = p.length := by omega
      refine AW.seq fun _ k12 => AW.cond false (by simp [Int.natCast_inj]) (fun h => by cases h) (fun _ => ?_)
      refine AW.exit ?_
      simp
      refine k9 _ ?_
      refine AW.seq fun _ k15 => AW.region [] Θ_ok ?_
      simp
      refine k15 _ ?_
      cases hb : anyP p r p.length with
      | false =>
        refine AW.cond true (by simp [Int.natCast_inj, hb]) (fun _ => ?_) (fun h => by cases h)
        refine AW.seq fun _ kr => AW.region [] Θ_ok ?_
        simp
        refine kr _ (AW.ret ?_)
        simp [Try.f29]
        exact Fin.refl ⟨by rw [no hb], rfl⟩
      | true =>
        refine AW.cond false (by simp [Int.natCast_inj, hb]) (fun h => by cases h) (fun _ => ?_)
        refine AW.skip ?_
        simp
        refine k6 _ ?_
        refine AW.region [] Θ_ok ?_
        simp
        exact ⟨x + 1, ⟨hlt, by rw [st, hno, hb]; rfl⟩, by omega, GStep.eq (by simp [inc]) (subH.refl _)⟩
  · obtain rfl : x = rs.length := by omega
    refine AW.seq fun _ k5 => AW.cond false (by simp [Int.natCast_inj]) (fun h => by cases h) (fun _ => ?_)
    refine AW.exit ?_
    simp
    refine k2 _ ?_
    refine AW.seq fun _ kr => AW.region [] Θ_ok ?_
    simp
    refine kr _ (AW.ret ?_)
    simp [Try.f29]
    refine Fin.refl ⟨?_, rfl⟩
    rw [allP_all] at hno; rw [hno]
end Go.Par

set_option linter.unusedSimpArgs false
set_option linter.unusedVariables false
namespace Go.Par

theorem tj_sub_len : ∀ (l l' : List Nat), l.Nodup → (∀ x ∈ l, x ∈ l') → l.length ≤ l'.length
  | [], _, _, _ => Nat.zero_le _
  | x :: t, l', nd, h => by
    rw [List.nodup_cons] at nd
    have hx := h x (by simp)
    have := tj_sub_len t (l'.erase x) nd.2 fun y hy => (List.mem_erase_of_ne (fun e => nd.1 (by rw [← e]; exact hy))).2 (h y (by simp [hy]))
    rw [List.length_erase_of_mem hx] at this
    have := List.length_pos_of_mem hx
    simp only [List.length_cons]; omega
theorem tj_sub_lt {l l' : List Nat} {w : Nat} (nd : l.Nodup) (h : ∀ x ∈ l, x ∈ l' ∧ x ≠ w) (hw : w ∈ l') : l.length < l'.length :=
  tj_sub_len (w :: l) l' (List.nodup_cons.2 ⟨fun q => (h w q).2 rfl, nd⟩) fun x hx => by
    rcases List.mem_cons.1 hx with e | q
    · rw [e]; exact hw
    · exact (h x q).1

def mxP (pr : Nat → Int) (x : Nat) (p : List Nat) (y : Nat) : Int := (p.take y).foldl (fun m v => if m < pr v then pr v else m) (pr x)
theorem mxP_zero (pr : Nat → Int) (x : Nat) (p : List Nat) : mxP pr x p 0 = pr x := rfl
theorem mxP_step (pr : Nat → Int) (x : Nat) (p : List Nat) {y : Nat} (hy : y < p.length) : mxP pr x p (y + 1) = if mxP pr x p y < pr p[y] then pr p[y] else mxP pr x p y := by
  unfold mxP; rw [List.take_succ_eq_append_getElem hy, List.foldl_append]; rfl
theorem fold_ge (pr : Nat → Int) : ∀ (l : List Nat) (m : Int), m ≤ l.foldl (fun m v => if m < pr v then pr v else m) m ∧ (∀ u ∈ l, pr u ≤ l.foldl (fun m v => if m < pr v then pr v else m) m) ∧ (l.foldl (fun m v => if m < pr v then pr v else m) m = m ∨ ∃ w ∈ l, pr w = l.foldl (fun m v => if m < pr v then pr v else m) m)
  | [], m => ⟨Int.le_refl _, fun u hu => (by cases hu), .inl rfl⟩
  | v :: l, m => by
    obtain ⟨h1, h2, h3⟩ := fold_ge pr l (if m < pr v then pr v else m)
    have hm : m ≤ (if m < pr v then pr v else m) ∧ pr v ≤ (if m < pr v then pr v else m) := by split <;> omega
    simp only [List.foldl_cons]
    refine ⟨Int.le_trans hm.1 h1, fun u hu => ?_, ?_⟩
    · rcases List.mem_cons.1 hu with e | q
      · rw [e]; exact Int.le_trans hm.2 h1
      · exact h2 u q
    · rcases h3 with e | ⟨w, hw, e⟩
      · by_cases q : m < pr v
        · rw [if_pos q] at e ⊢
          exact .inr ⟨v, by simp, e.symm⟩
        · rw [if_neg q] at e ⊢
          exact .inl e
      · exact .inr ⟨w, by simp [hw], e⟩
theorem mxP_all (pr : Nat → Int) (x : Nat) (p : List Nat) : (∀ u ∈ x :: p, pr u ≤ mxP pr x (x :: p) (x :: p).length) ∧ ∃ w ∈ x :: p, pr w = mxP pr x (x :: p) (x :: p).length := by
  unfold mxP
  rw [List.take_length]
  obtain ⟨h1, h2, h3⟩ := fold_ge pr (x :: p) (pr x)
  refine ⟨h2, ?_⟩
  rcases h3 with e | ⟨w, hw, e⟩
  · exact ⟨x, by simp, e.symm⟩
  · exact ⟨w, hw, e⟩

def prF2 (P : List Int) (v : Nat) : Int := P.getD v 0
/-- Those of a part below its top, as far as gone through. -/
def lowP (P : List Int) (n : Nat) (p : List Nat) (t : Int) (y : Nat) : List Bool := tab n fun i => decide (i ∈ p.take y) && decide (prF2 P i < t)
theorem lowP_len (P : List Int) (n : Nat) (p : List Nat) (t : Int) (y : Nat) : (lowP P n p t y).length = n := length_tab _ _
theorem lowP_zero (P : List Int) (n : Nat) (p : List Nat) (t : Int) : lowP P n p t 0 = List.replicate n false := by
  unfold lowP; rw [replicate_tab]; exact tab_congr fun i hi => by simp
theorem lowP_set (P : List Int) (n : Nat) (p : List Nat) (t : Int) {y : Nat} (hy : y < p.length) : (lowP P n p t y).set p[y] (decide (prF2 P p[y] < t)) = lowP P n p t (y + 1) := by
  apply List.ext_getElem (by simp [lowP])
  intro i h1 h2
  have hm : ∀ i, i ∈ p.take (y + 1) ↔ i ∈ p.take y ∨ i = p[y] := fun i => by rw [List.take_succ_eq_append_getElem hy, List.mem_append, List.mem_singleton]
  rw [List.getElem_set]
  simp only [lowP, getElem_tab, hm]
  split
  · rename_i e; subst e; simp
  · rename_i e; simp [Ne.symm e]
theorem kS_lowP {next : List (List Int)} {P : List Int} {p : List Nat} {t : Int} (hp : ∀ u ∈ p, u < next.length) {v : Nat} : kS next (lowP P next.length p t p.length) v ↔ v ∈ p ∧ prF2 P v < t := by
  unfold kS
  constructor
  · rintro ⟨h1, h2⟩
    rw [hasN, lowP, getD_tab, if_pos h1, List.take_length] at h2
    simpa using h2
  · rintro ⟨h1, h2⟩
    have := hp v h1
    refine ⟨this, ?_⟩
    rw [hasN, lowP, getD_tab, if_pos this, List.take_length]
    simp [h1, h2]

open Classical in
noncomputable def evB (next : List (List Int)) (P : List Int) (a : List Bool) : Bool := decide (¬ BadW (kE next) (kS next a) (prF2 P))

structure EvI (next : List (List Int)) (P : List Int) (a : List Bool) (T : List (List Nat)) : Prop where
  bad : BadW (kE next) (kS next a) (prF2 P) ↔ ∃ p ∈ T, BadW (kE next) (fun x => x ∈ p) (prF2 P)
  part : ∀ p ∈ T, ∃ b, IsPart (kE next) (kS next b) p
  few : T.flatten.length ≤ next.length
theorem PartsOk.few {next : List (List Int)} {a : List Bool} {out : List (List Nat)} (D : PartsOk (kE next) (kS next a) out) : out.flatten.length ≤ next.length :=
  nodup_lt_len D.nd fun x hx => by
    obtain ⟨p, hp, hx⟩ := List.mem_flatten.1 hx
    exact (IsPart.sub (D.comp p hp) hx).1
theorem PartsOk.ne {next : List (List Int)} {a : List Bool} {out : List (List Nat)} (D : PartsOk (kE next) (kS next a) out) : ∀ p ∈ out, p ≠ [] := fun p hp => IsPart.ne (D.comp p hp)
theorem EvI.init {next : List (List Int)} {P : List Int} {a : List Bool} {out : List (List Nat)} (D : PartsOk (kE next) (kS next a) out) : EvI next P a out :=
  ⟨bad_parts D, fun p hp => ⟨a, D.comp p hp⟩, D.few⟩
section
variable {next : List (List Int)} {P : List Int} {a : List Bool} {T : List (List Nat)} {x : Nat} {p : List Nat}
theorem EvI.odd (I : EvI next P a (T ++ [x :: p])) (ho : (mxP (prF2 P) x (x :: p) (x :: p).length).tmod 2 ≠ 0) : evB next P a = false := by
  obtain ⟨h1, w, hw, e⟩ := mxP_all (prF2 P) x p
  rw [← e] at h1 ho
  obtain ⟨b, hb⟩ := I.part (x :: p) (by simp)
  have := I.bad.2 ⟨x :: p, by simp, bad_odd hb hw h1 ho⟩
  simp [evB, this]
theorem EvI.even (I : EvI next P a (T ++ [x :: p])) (ho : ¬ (mxP (prF2 P) x (x :: p) (x :: p).length).tmod 2 ≠ 0) {ps : List (List Nat)} (hp : ∀ u ∈ x :: p, u < next.length)
    (D : PartsOk (kE next) (kS next (lowP P next.length (x :: p) (mxP (prF2 P) x (x :: p) (x :: p).length) (x :: p).length)) ps) : EvI next P a (T ++ ps) ∧ (T ++ ps).flatten.length < (T ++ [x :: p]).flatten.length := by
  obtain ⟨h1, w, hw, e⟩ := mxP_all (prF2 P) x p
  have hk := fun v => kS_lowP (v := v) (P := P) (t := mxP (prF2 P) x (x :: p) (x :: p).length) hp
  generalize lowP P next.length (x :: p) (mxP (prF2 P) x (x :: p) (x :: p).length) (x :: p).length = L at *
  rw [← e] at h1 ho hk
  have hlt : ps.flatten.length < (x :: p).length := tj_sub_lt (w := w) D.nd (fun y hy => by
    obtain ⟨q, hq, hy⟩ := List.mem_flatten.1 hy
    obtain ⟨g1, g2⟩ := (hk _).1 (IsPart.sub (D.comp q hq) hy)
    exact ⟨g1, fun z => by rw [z] at g2; omega⟩) hw
  have hfl : (T ++ ps).flatten.length < (T ++ [x :: p]).flatten.length := by
    simp only [List.flatten_append, List.length_append]
    have : [x :: p].flatten = x :: p := by simp
    rw [this]; omega
  refine ⟨⟨?_, fun q hq => ?_, by have := I.few; omega⟩, hfl⟩
  · have hb := (bad_even (E := kE next) h1 ho).trans ((show BadW (kE next) (fun y => y ∈ x :: p ∧ prF2 P y < prF2 P w) (prF2 P) ↔ BadW (kE next) (kS next L) (prF2 P) from ⟨fun h => h.mono fun y hy => (hk _).2 hy, fun h => h.mono fun y hy => (hk _).1 hy⟩).trans (bad_parts D))
    rw [I.bad]
    constructor
    · rintro ⟨q, hq, h⟩
      rw [List.mem_append, List.mem_singleton] at hq
      rcases hq with hq | hq
      · exact ⟨q, by simp [hq], h⟩
      · rw [hq] at h
        obtain ⟨q', hq', h'⟩ := hb.1 h
        exact ⟨q', by simp [hq'], h'⟩
    · rintro ⟨q, hq, h⟩
      rw [List.mem_append] at hq
      rcases hq with hq | hq
      · exact ⟨q, by simp [hq], h⟩
      · exact ⟨x :: p, by simp, hb.2 ⟨q, hq, h⟩⟩
  · rw [List.mem_append] at hq
    rcases hq with hq | hq
    · exact I.part q (by simp [hq])
    · exact ⟨_, D.comp q hq⟩
theorem EvI.done (I : EvI next P a []) : evB next P a = true := by
  have : ¬ BadW (kE next) (kS next a) (prF2 P) := fun h => by obtain ⟨p, hp, _⟩ := I.bad.1 h; cases hp
  simp [evB, this]
end
end Go.Par

set_option linter.unusedSimpArgs false
set_option linter.unusedVariables false
set_option maxRecDepth 8000
set_option maxHeartbeats 2000000
namespace Go.Par
open Go.Proofs

structure EvX where
  o : Nat
  nn : Bool
  T : List (List Nat)

theorem obRo_cut (T : List (List Nat)) (p : List Nat) (nn : Bool) : (⟨(obRo ((T ++ [p]).map nI) nn).cells.take T.length, (obRo ((T ++ [p]).map nI) nn).ty, (obRo ((T ++ [p]).map nI) nn).sz, (obRo ((T ++ [p]).map nI) nn).nn⟩ : Ob) = obRo (T.map nI) nn := by
  simp [obRo, rows]

theorem proof_even (next : List (List Int)) (ok : BigOk next) (P : List Int) (hP : P.length = next.length) (a : List Bool) (ha : a.length = next.length) : Pure Try.prog 34 [.ro false (rows next), .ro false (ints P), .ro false (bools a)] (.bool (evB next P a)) := by
  have hn := ok.len
  have sM := proof_partsM next ok a ha
  intro h
  refine AC.body Θ_ok Try.func34 rfl rfl (Nat.le_of_ble_eq_true rfl) ?_
  refine AW.seq fun _ k1 => AW.region [] Θ_ok ?_
  simp
  refine k1 _ ?_
  refine AW.seq fun _ k2 => AW.region [] Θ_ok ?_
  simp
  refine (sM h).mono ?_
  rintro r h' ⟨⟨o, out, nn, ho, rfl, D, rfl⟩⟩
  try simp
  refine k2 _ ?_
  refine AW.seq fun _ k3 => ?_
  refine AW.block ?_
  refine AW.loopI (X := EvX) (fun t => h t.o = none ∧ EvI next P a t.T) (fun t => ⟨78, [(0, .ro false (rows next)), (1, .ro false (ints P)), (7, .mu t.o t.T.length)], upd h t.o (some (obRo (t.T.map nI) t.nn))⟩) (fun t => t.T.flatten.length) ⟨o, nn, out⟩ ⟨ho, EvI.init D⟩ (GStep.eq (by simp) (subH.refl _)) ?_
  clear D ho out nn o sM
  rintro ⟨o, nn, T⟩ ⟨ho, I⟩
  simp only at ho I ⊢
  refine AW.seq fun _ k4 => ?_
  refine AW.seq fun _ k5 => AW.region [] Θ_ok ?_
  simp
  refine k5 _ ?_
  rcases List.eq_nil_or_concat T with rfl | ⟨T0, p, e⟩
  · refine AW.cond false (by simp [Int.natCast_inj]) (fun h => by cases h) (fun _ => ?_)
    refine AW.exit ?_
    simp
    refine k3 _ ?_
    refine AW.seq fun _ kr => AW.region [] Θ_ok ?_
    simp
    refine kr _ (AW.ret ?_)
    simp [Try.f34]
    exact Fin.gv (GV.sub (h' := h) (fun y z hy => by
      have : y ≠ o := fun e => by rw [e, ho] at hy; cases hy
      rw [upd_ne _ _ this]; exact hy)) (Fin.refl ⟨by rw [I.done], rfl⟩)
  · rw [List.concat_eq_append] at e
    subst e
    have hx := I.few
    obtain ⟨b, hb⟩ := I.part p (by simp)
    have hpn : ∀ u ∈ p, u < next.length := fun u hu => (hb.sub hu).1
    obtain ⟨x, p', rfl⟩ : ∃ x p', p = x :: p' := by
      cases hh : p with
      | nil => exact absurd hh hb.ne
      | cons x p' => exact ⟨x, p', rfl⟩
    have lT : T0.length ≤ 12000 := by
      have h1 := flat_few (T0 ++ [x :: p']) fun q hq => by obtain ⟨b, hb⟩ := I.part q hq; exact hb.ne
      simp only [List.length_append, List.length_singleton] at h1; omega
    have lp : (x :: p').length ≤ 12000 := by
      simp only [List.flatten_append, List.length_append] at hx
      have : [x :: p'].flatten = x :: p' := by simp
      rw [this] at hx; omega
    have hlen : 0 < (T0 ++ [x :: p']).length := by simp
    have w1 : IntKind.i64.wrap (((T0 ++ [x :: p']).length : Int) - 1) = (T0.length : Int) := by
      rw [show (((T0 ++ [x :: p']).length : Int) - 1) = ((T0.length : Nat) : Int) by simp]; exact wrap_nat (by omega)
    have dT : List.drop T0.length (rows ((T0 ++ [x :: p']).map nI)) = [.ro false (ints (nI (x :: p')))] := by simp [rows]
    have hk : T0.length < (T0 ++ [x :: p']).length := by simp
    have ocut := obRo_cut T0 (x :: p') nn
    have hlr := (rfl : ((T0 ++ [x :: p']).map nI).length = ((T0 ++ [x :: p']).map nI).length)
    obtain ⟨kl, hkl⟩ : ∃ kl, kl = (T0 ++ [x :: p']).length := ⟨_, rfl⟩
    obtain ⟨O1, hO1⟩ : ∃ O1, O1 = obRo ((T0 ++ [x :: p']).map nI) nn := ⟨_, rfl⟩
    have c1 : O1.cells = rows ((T0 ++ [x :: p']).map nI) := by rw [hO1]; rfl
    have c2 : O1.sz = 1 := by rw [hO1]; rfl
    rw [← hO1] at ocut ⊢
    rw [← hkl] at w1 hk hlen ⊢
    refine AW.cond true (by simp [Int.natCast_inj, hlen]) (fun _ => ?_) (fun h => by cases h)
    refine AW.skip ?_
    simp
    refine k4 _ ?_
    refine AW.block ?_
    refine AW.seq fun _ k5 => AW.region [] Θ_ok ?_
    simp [w1, c1, c2, dT, hk]
    refine k5 _ ?_
    refine AW.seq fun _ k5 => AW.region [] Θ_ok ?_
    simp [w1, Nat.le_of_lt hk]
    refine ⟨hlen, k5 _ ?_⟩
    refine AW.ghost (GStep.trunc (x := O1) (upd_same _ _ _) T0.length (by rw [c2]; decide)) ?_
    rw [ocut, upd_upd]
    simp only
    clear ocut c1 c2 hO1 dT O1
    have hxn := hpn x (by simp)
    have hod := I.odd
    have hev := fun ho ps D => I.even ho hpn (ps := ps) D
    obtain ⟨q, hq⟩ : ∃ q, q = x :: p' := ⟨_, rfl⟩
    have lq : 0 < q.length := by rw [hq]; simp
    have q0 : ∀ z, (nI q)[0]'z = (x : Int) := fun z => by simp [hq, nI]
    have q0' : (nI q)[0]? = some (x : Int) := by simp [hq, nI]
    have eP : ∀ v, (hv : v < P.length) → P[v] = prF2 P v := fun v hv => by simp [prF2, hv]
    rw [← hq] at hpn lp hod hev ⊢
    refine AW.seq fun _ k5 => AW.region [] Θ_ok ?_
    simp [lq, q0, q0', hP, hxn, eP]
    refine k5 _ ?_
    refine AW.seq fun _ k9 => ?_
    refine AW.seq fun _ k10 => AW.region [] Θ_ok ?_
    simp
    refine k10 _ ?_
    clear w1 hk hlen q0 q0'
    have qg : ∀ y, (hy : y < q.length) → ∀ z, (nI q)[y]'z = (q[y] : Int) := fun y hy z => by simp [nI]
    have qg' : ∀ y, (hy : y < q.length) → (nI q)[y]? = some (q[y] : Int) := fun y hy => by simp [nI, hy]
    have qn : ∀ y, (hy : y < q.length) → q[y] < next.length := fun y hy => hpn _ (List.getElem_mem hy)
    refine AW.block ?_
    refine AW.loopI (X := Nat) (fun y => y ≤ q.length) (fun y => ⟨78, [(0, .ro false (rows next)), (1, .ro false (ints P)), (7, .mu o T0.length), (8, .ro false (ints (nI q))), (9, .int .i64 (mxP (prF2 P) x q y)), (38, .ro false (ints (nI q))), (39, .int .i64 q.length), (40, .int .i64 y)], upd h o (some (obRo (T0.map nI) nn))⟩) (fun y => q.length - y) 0 (Nat.zero_le _) (GStep.eq (by simp [mxP_zero]) (subH.refl _)) fun y hy => ?_
    refine AW.seq fun _ k11 => AW.region [] Θ_ok ?_
    simp
    refine k11 _ ?_
    by_cases hly : y < q.length
    · have inc := wrap_succ (show y < 9223372036854775807 by omega)
      have st := mxP_step (prF2 P) x q hly
      have g1 := qg y hly
      have g2 := qg' y hly
      have g3 := qn y hly
      generalize q[y] = w at *
      have hw2 : w < P.length := by omega
      refine AW.seq fun _ k12 => AW.cond true (by simp [Int.natCast_inj, hly]) (fun _ => ?_) (fun h => by cases h)
      refine AW.skip ?_
      simp
      refine k12 _ ?_
      refine AW.seq fun _ k13 => ?_
      refine AW.block ?_
      refine AW.seq fun _ k14 => AW.region [] Θ_ok ?_
      simp [hly, g1, g2]
      refine k14 _ ?_
      refine AW.region [] Θ_ok ?_
      simp [hP, g3, eP]
      refine k13 _ ?_
      refine AW.region [] Θ_ok ?_
      simp
      exact ⟨y + 1, by omega, by omega, GStep.eq (by simp [inc, st]) (subH.refl _)⟩
    · obtain rfl : y = q.length := by omega
      refine AW.seq fun _ k12 => AW.cond false (by simp [Int.natCast_inj]) (fun h => by cases h) (fun _ => ?_)
      refine AW.exit ?_
      simp
      refine k9 _ ?_
      refine AW.seq fun _ k15 => ?_
      refine AW.seq fun _ k16 => AW.region [] Θ_ok ?_
      simp
      refine k16 _ ?_
      obtain ⟨tp, htp⟩ : ∃ tp, tp = mxP (prF2 P) x q q.length := ⟨_, rfl⟩
      rw [← htp] at hod hev ⊢
      by_cases hodd : tp.tmod 2 = 0
      · refine AW.cond false (by simp [Int.natCast_inj, hodd]) (fun h => by cases h) (fun _ => ?_)
        refine AW.skip ?_
        simp
        refine k15 _ ?_
        refine AW.seq fun _ k17 => AW.region [56] Θ_ok ?_
        simp
        refine ⟨by omega, fun c hc => k17 _ ?_⟩
        have e2 : List.flatMap AV.flat (List.replicate next.length (AV.bool false)) = (lowP P next.length q tp 0).map AV.bool := by
          rw [flat_ones (fun u hu => by rw [(List.mem_replicate.1 hu).2]; rfl), lowP_zero]; simp
        rw [e2, obBk_mk]
        obtain ⟨H0, hH0⟩ : ∃ H0, H0 = upd h o (some (obRo (T0.map nI) nn)) := ⟨_, rfl⟩
        rw [← hH0] at hc ⊢
        clear e2
        refine AW.seq fun _ k18 => ?_
        refine AW.seq fun _ k19 => AW.region [] Θ_ok ?_
        simp
        refine k19 _ ?_
        refine AW.block ?_
        refine AW.loopI (X := Nat) (fun y => y ≤ q.length) (fun y => ⟨78, [(0, .ro false (rows next)), (1, .ro false (ints P)), (7, .mu o T0.length), (9, .int .i64 tp), (12, .mu c next.length), (57, .ro false (ints (nI q))), (58, .int .i64 q.length), (59, .int .i64 y)], upd H0 c (some (obBk (lowP P next.length q tp y)))⟩) (fun y => q.length - y) 0 (Nat.zero_le _) (GStep.eq (by simp) (subH.refl _)) fun y hy => ?_
        refine AW.seq fun _ k20 => AW.region [] Θ_ok ?_
        simp
        refine k20 _ ?_
        by_cases hly : y < q.length
        · have inc := wrap_succ (show y < 9223372036854775807 by omega)
          have st := lowP_set P next.length q tp hly
          have ms := mapk_set (lowP P next.length q tp y) q[y] (decide (prF2 P q[y] < tp))
          rw [st] at ms
          have ll := lowP_len P next.length q tp y
          have g1 := qg y hly
          have g2 := qg' y hly
          have g3 := qn y hly
          generalize q[y] = w at *
          have hw2 : w < P.length := by omega
          obtain ⟨L1, hL1⟩ : ∃ L1, L1 = lowP P next.length q tp y := ⟨_, rfl⟩
          obtain ⟨L2, hL2⟩ : ∃ L2, L2 = lowP P next.length q tp (y + 1) := ⟨_, rfl⟩
          rw [← hL1] at ms ll ⊢
          rw [← hL2] at ms
          refine AW.seq fun _ k21 => AW.cond true (by simp [Int.natCast_inj, hly]) (fun _ => ?_) (fun h => by cases h)
          refine AW.skip ?_
          simp
          refine k21 _ ?_
          refine AW.seq fun _ k22 => ?_
          refine AW.block ?_
          refine AW.seq fun _ k23 => AW.region [] Θ_ok ?_
          simp [hly, g1, g2]
          refine k23 _ ?_
          refine AW.region [] Θ_ok ?_
          simp [hP, g3, eP, ms, obBk_mk, ll]
          refine ⟨by omega, k22 _ ?_⟩
          refine AW.region [] Θ_ok ?_
          simp
          exact ⟨y + 1, by omega, by omega, GStep.eq (by simp [inc]) (by rw [hL2]; exact subH.refl _)⟩
        · obtain rfl : y = q.length := by omega
          have hc' : H0 c = none := hc
          refine AW.seq fun _ k21 => AW.cond false (by simp [Int.natCast_inj]) (fun h => by cases h) (fun _ => ?_)
          refine AW.exit ?_
          simp
          refine k18 _ ?_
          refine AW.freeze 12 (n := next.length) true (by simp) (upd_same _ _ _) (fun _ => rfl) rfl (by simp [lowP_len]) (fun u hu => by obtain ⟨z, _, rfl⟩ := List.mem_map.1 hu; rfl) ?_
          simp only
          rw [upd_upd, upd_none_id hc']
          have sP := proof_parts next ok (lowP P next.length q tp q.length) (lowP_len _ _ _ _ _) H0
          rw [show (obBk (lowP P next.length q tp q.length)).cells = bools (lowP P next.length q tp q.length) from rfl]
          generalize lowP P next.length q tp q.length = LL at *
          refine AW.regionAt 4 [] Θ_ok fun B hB => ?_
          simp
          refine (sP.wk (by simp)).mono ?_
          rintro r h' ⟨ps, rfl, D, rfl⟩
          have lps : ps.length ≤ 12000 := by
            have h1 := flat_few ps D.ne
            have h2 := D.few
            omega
          obtain ⟨I', m'⟩ := hev (by simpa using hodd) ps D
          have hO : h' o = some (obRo (T0.map nI) nn) := by rw [hH0]; exact upd_same _ _ _
          refine hB _ ?_
          clear hB B
          simp [hO, appendA]
          refine ⟨rfl, ⟨by omega, by omega⟩, fun o3 ho3 => ?_⟩
          have hne : o3 ≠ o := fun e => by rw [e, hO] at ho3; cases ho3
          have ho4 : h o3 = none := by rw [hH0, upd_ne _ _ hne] at ho3; exact ho3
          refine ⟨⟨o3, nn || !ps.isEmpty, T0 ++ ps⟩, ⟨ho4, I'⟩, by simpa using m', GStep.eq (by simp) (subH_of_eq ?_)⟩
          rw [hH0, upd_upd, upd_none_id ho]
          congr 2
          simp only [obRo, rows]
          congr 1
          rw [flat_ones (fun u hu => by obtain ⟨z, _, rfl⟩ := List.mem_map.1 hu; rfl), List.take_of_length_le (by simp)]
          simp
      · have e := hod hodd
        refine AW.cond true (by simp [Int.natCast_inj, hodd]) (fun _ => ?_) (fun h => by cases h)
        refine AW.seq fun _ kr => AW.region [] Θ_ok ?_
        simp
        refine kr _ (AW.ret ?_)
        simp [Try.f34]
        exact Fin.gv (GV.sub (h' := h) (fun y z hy => by
          have : y ≠ o := fun e => by rw [e, ho] at hy; cases hy
          rw [upd_ne _ _ this]; exact hy)) (Fin.refl ⟨by rw [e], rfl⟩)
end Go.Par

set_option linter.unusedSimpArgs false
set_option linter.unusedVariables false
set_option maxRecDepth 8000
set_option maxHeartbeats 2000000
namespace Go.Par
open Go.Proofs

theorem proof_Even (next : List (List Int)) (hl : next.length ≤ 17592186044416) (hr : ∀ l ∈ next, l.length ≤ 1000000000) (P : List Int) (from_ : List Bool) :
    Pure Try.prog 16 [.ro false (rows next), .ro false (ints P), .ro false (bools from_)] (.bool (mayN next && decide (P.length = next.length) && evB next P (reachL (nG next) from_))) := by
  have sM := proof_may next hl (fun l h => Nat.le_trans (hr l h) (by decide))
  intro h
  refine AC.body Θ_ok Try.func16 rfl rfl (Nat.le_of_ble_eq_true rfl) ?_
  refine AW.seq fun _ k1 => AW.region [] Θ_ok ?_
  simp
  refine k1 _ ?_
  cases hm : mayN next with
  | false =>
    rw [hm] at sM
    refine AW.seq fun _ kr => AW.regionAt 2 [] Θ_ok fun B hB => ?_
    simp
    refine sM.use (by simp) ?_
    refine hB _ ?_
    clear hB B
    simp
    refine kr _ (AW.ret ?_)
    simp [Try.f16]
    exact Fin.refl ⟨rfl, rfl⟩
  | true =>
    rw [hm] at sM
    have ok := mayN_ok hm hr
    have sR := proof_reach next ok from_
    by_cases hP : P.length = next.length
    · have sE := proof_even next ok P hP (reachL (nG next) from_) (by simp [reachL])
      generalize evB next P (reachL (nG next) from_) = b at *
      generalize reachL (nG next) from_ = L at *
      refine AW.seq fun _ kr => AW.regionAt 2 [] Θ_ok fun B hB => ?_
      simp
      refine sM.use (by simp) ?_
      refine hB _ ?_
      clear hB B
      refine vcOps_split 13 fun B hB => ?_
      simp [hP]
      refine sR.use (by simp) ?_
      refine hB _ ?_
      clear hB B
      refine vcOps_split 1 fun B hB => ?_
      simp
      refine sE.use (by simp) ?_
      refine hB _ ?_
      clear hB B
      simp
      refine kr _ (AW.ret ?_)
      simp [Try.f16]
      exact Fin.refl ⟨by simp [hP], rfl⟩
    · have hP' : ¬ (P.length : Int) = (next.length : Int) := by omega
      refine AW.seq fun _ kr => AW.regionAt 2 [] Θ_ok fun B hB => ?_
      simp
      refine sM.use (by simp) ?_
      refine hB _ ?_
      clear hB B
      simp [hP, hP']
      refine kr _ (AW.ret ?_)
      simp [Try.f16]
      exact Fin.refl ⟨by simp [hP], rfl⟩

theorem part_len {next : List (List Int)} {a : List Bool} {out : List (List Nat)} (D : PartsOk (kE next) (kS next a) out) (hn : next.length ≤ 12000) {y : Nat} (hy : y < out.length) : out[y].length ≤ 12000 := by
  have h1 := nodup_lt_len (n := next.length) (l := out[y]) (by
    have nd := D.nd
    obtain ⟨A, B, e⟩ := List.append_of_mem (List.getElem_mem hy)
    generalize out[y] = p at *
    rw [e, List.flatten_append, List.flatten_cons, List.nodup_append, List.nodup_append] at nd
    exact nd.2.1.1) fun x hx => (IsPart.sub (D.comp _ (List.getElem_mem hy)) hx).1
  omega
theorem few_len {next : List (List Int)} {a : List Bool} {out : List (List Nat)} (D : PartsOk (kE next) (kS next a) out) (hn : next.length ≤ 12000) : out.length ≤ 12000 := by
  have h1 := flat_few out D.ne
  have h2 := D.few
  omega
def anyO (A : List (List Bool)) (out : List (List Nat)) (y : Nat) : Bool := (out.take y).any fun p => meetP p A
theorem anyO_step (A : List (List Bool)) (out : List (List Nat)) {y : Nat} (hy : y < out.length) : anyO A out (y + 1) = (anyO A out y || meetP out[y] A) := by
  unfold anyO; rw [List.take_succ_eq_append_getElem hy, List.any_append]; simp
theorem anyO_mono {A : List (List Bool)} {out : List (List Nat)} {y : Nat} (hy : y < out.length) (h : meetP out[y] A = true) : anyO A out out.length = true := by
  unfold anyO; rw [List.take_length, List.any_eq_true]; exact ⟨_, List.getElem_mem hy, h⟩
open Classical in
theorem anyO_wi {next : List (List Int)} {from_ r : List Bool} {A : List (List Bool)} {out : List (List Nat)} (D : PartsOk (kE next) (kS next (wiP (reachL (nG next) from_) r)) out) : anyO A out out.length = meetsB next from_ (wiL next r) A := by
  rw [kS_wiP next _ r (by simp [reachL])] at D
  have := meets_parts D A
  unfold anyO meetsB
  rw [List.take_length, Bool.eq_iff_iff, this, decide_eq_true_iff]
  exact Iff.rfl
open Classical in
theorem anyO_full {next : List (List Int)} {from_ : List Bool} {A : List (List Bool)} {out : List (List Nat)} (D : PartsOk (kE next) (kS next (reachL (nG next) from_)) out) : anyO A out out.length = meetsB next from_ (fullL next) A := by
  rw [kS_full next _ (by simp [reachL])] at D
  have := meets_parts D A
  unfold anyO meetsB
  rw [List.take_length, Bool.eq_iff_iff, this, decide_eq_true_iff]
  exact Iff.rfl

theorem proof_Fair (next : List (List Int)) (hl : next.length ≤ 17592186044416) (hr : ∀ l ∈ next, l.length ≤ 1000000000) (from_ : List Bool) (A E : List (List Bool)) (hA : A.length ≤ 17592186044416) (hE : E.length ≤ 17592186044416) :
    Pure Try.prog 12 [.ro false (rows next), .ro false (bools from_), .ro false (bools2 A), .ro false (bools2 E)] (.bool (mayN next && fairB next from_ A E)) := by
  have sM := proof_may next hl (fun l h => Nat.le_trans (hr l h) (by decide))
  intro h
  refine AC.body Θ_ok Try.func12 rfl rfl (Nat.le_of_ble_eq_true rfl) ?_
  refine AW.seq fun _ k1 => AW.region [] Θ_ok ?_
  simp
  refine k1 _ ?_
  refine AW.seq fun _ k2 => ?_
  cases hm : mayN next with
  | false =>
    rw [hm] at sM
    refine AW.seq fun _ k3 => AW.region [] Θ_ok ?_
    simp
    refine sM.use (by simp) ?_
    try simp
    refine k3 _ ?_
    refine AW.cond true (by simp [Int.natCast_inj]) (fun _ => ?_) (fun h => by cases h)
    refine AW.seq fun _ kr => AW.region [] Θ_ok ?_
    simp
    refine kr _ (AW.ret ?_)
    simp [Try.f12]
    exact Fin.refl ⟨rfl, rfl⟩
  | true =>
    rw [hm] at sM
    have ok := mayN_ok hm hr
    have hn := ok.len
    have sR := proof_reach next ok from_
    have lL : (reachL (nG next) from_).length = next.length := by simp [reachL]
    refine AW.seq fun _ k3 => AW.region [] Θ_ok ?_
    simp
    refine sM.use (by simp) ?_
    try simp
    refine k3 _ ?_
    refine AW.cond false (by simp [Int.natCast_inj]) (fun h => by cases h) (fun _ => ?_)
    refine AW.skip ?_
    simp
    refine k2 _ ?_
    refine AW.seq fun _ k4 => AW.region [] Θ_ok ?_
    simp
    refine sR.use (by simp) ?_
    try simp
    refine k4 _ ?_
    refine AW.seq fun _ k5 => ?_
    refine AW.seq fun _ k6 => AW.region [] Θ_ok ?_
    simp
    refine k6 _ ?_
    refine AW.block ?_
    refine AW.loopI (X := Nat) (fun x => x ≤ E.length ∧ metA next from_ A E x = false) (fun x => ⟨41, [(0, .ro false (rows next)), (2, .ro false (bools2 A)), (9, .ro true (bools (reachL (nG next) from_))), (20, .ro false (bools2 E)), (21, .int .i64 E.length), (22, .int .i64 x)], h⟩) (fun x => E.length - x) 0 ⟨Nat.zero_le _, metA_zero _ _ _ _⟩ (GStep.eq (by simp) (subH.refl _)) fun x hx => ?_
    obtain ⟨hx, hno⟩ := hx
    refine AW.seq fun _ k7 => AW.region [] Θ_ok ?_
    simp
    refine k7 _ ?_
    by_cases hlt : x < E.length
    · have inc := wrap_succ (show x < 9223372036854775807 by omega)
      have st := metA_step next from_ A E hlt
      have mono := metA_mono (next := next) (from_ := from_) (A := A) hlt
      rw [hno, Bool.false_or] at st
      obtain ⟨r, hr2⟩ : ∃ r, r = E[x] := ⟨_, rfl⟩
      rw [← hr2] at st mono
      have sW := proof_without (reachL (nG next) from_) r (by omega)
      have sP := proof_parts next ok (wiP (reachL (nG next) from_) r) (by rw [wiP_len]; exact lL) h
      have any := fun out => anyO_wi (next := next) (from_ := from_) (r := r) (A := A) (out := out)
      generalize meetsB next from_ (wiL next r) A = b at st mono any
      generalize wiP (reachL (nG next) from_) r = WL at sW sP any
      generalize reachL (nG next) from_ = RL at *
      refine AW.seq fun _ k8 => AW.cond true (by simp [Int.natCast_inj, hlt]) (fun _ => ?_) (fun h => by cases h)
      refine AW.skip ?_
      simp
      refine k8 _ ?_
      refine AW.seq fun _ k9 => ?_
      refine AW.block ?_
      refine AW.seq fun _ k10 => AW.region [] Θ_ok ?_
      simp [hlt, ← hr2]
      refine k10 _ ?_
      refine AW.seq fun _ k11 => AW.regionAt 4 [] Θ_ok fun B hB => ?_
      simp
      refine sW.use (by simp) ?_
      refine hB _ ?_
      clear hB B
      refine vcOps_split 1 fun B hB => ?_
      simp
      refine (sP.wk (by simp)).mono ?_
      rintro r' h' ⟨out, rfl, D, rfl⟩
      replace any := any out D
      have lo := few_len D hn
      refine hB _ ?_
      clear hB B
      simp
      refine k11 _ ?_
      refine AW.block ?_
      refine AW.loopI (X := Nat) (fun y => y ≤ out.length ∧ anyO A out y = false) (fun y => ⟨41, [(0, .ro false (rows next)), (2, .ro false (bools2 A)), (9, .ro true (bools RL)), (20, .ro false (bools2 E)), (21, .int .i64 E.length), (22, .int .i64 x), (30, .ro false (rows (out.map nI))), (31, .int .i64 out.length), (32, .int .i64 y)], h'⟩) (fun y => out.length - y) 0 ⟨Nat.zero_le _, rfl⟩ (GStep.eq (by simp [rows]) (subH.refl _)) fun y hy => ?_
      obtain ⟨hy, hnoy⟩ := hy
      refine AW.seq fun _ k12 => AW.region [] Θ_ok ?_
      simp
      refine k12 _ ?_
      by_cases hly : y < out.length
      · have incy := wrap_succ (show y < 9223372036854775807 by omega)
        have sQ := proof_meets out[y] A (part_len D hn hly) hA
        have sty := anyO_step A out hly
        have moy := anyO_mono (A := A) hly
        rw [hnoy, Bool.false_or] at sty
        obtain ⟨p, hp⟩ : ∃ p, p = out[y] := ⟨_, rfl⟩
        rw [← hp] at sQ sty moy
        generalize meetP p A = c at sQ sty moy
        refine AW.seq fun _ k13 => AW.cond true (by simp [Int.natCast_inj, hly]) (fun _ => ?_) (fun h => by cases h)
        refine AW.skip ?_
        simp
        refine k13 _ ?_
        refine AW.seq fun _ k14 => ?_
        refine AW.block ?_
        refine AW.seq fun _ k15 => AW.region [] Θ_ok ?_
        simp [hly, ← hp]
        refine k15 _ ?_
        refine AW.seq fun _ k16 => AW.region [] Θ_ok ?_
        simp
        refine sQ.use (by simp) ?_
        try simp
        refine k16 _ ?_
        cases c with
        | true =>
          have hb : b = true := by rw [← any]; exact moy rfl
          refine AW.cond true (by simp [Int.natCast_inj]) (fun _ => ?_) (fun h => by cases h)
          refine AW.seq fun _ kr => AW.region [] Θ_ok ?_
          simp
          refine kr _ (AW.ret ?_)
          simp [Try.f12]
          exact Fin.refl ⟨by simp [fairB, mono hb], rfl⟩
        | false =>
          refine AW.cond false (by simp [Int.natCast_inj]) (fun h => by cases h) (fun _ => ?_)
          refine AW.skip ?_
          simp
          refine k14 _ ?_
          refine AW.region [] Θ_ok ?_
          simp
          exact ⟨y + 1, ⟨hly, sty⟩, by omega, GStep.eq (by simp [incy, rows]) (subH.refl _)⟩
      · obtain rfl : y = out.length := by omega
        have hb : b = false := by rw [← any]; exact hnoy
        refine AW.seq fun _ k13 => AW.cond false (by simp [Int.natCast_inj]) (fun h => by cases h) (fun _ => ?_)
        refine AW.exit ?_
        simp
        refine k9 _ ?_
        refine AW.region [] Θ_ok ?_
        simp
        exact ⟨x + 1, ⟨hlt, by rw [st, hb]⟩, by omega, GStep.eq (by simp [inc]) (subH.refl _)⟩
    · obtain rfl : x = E.length := by omega
      refine AW.seq fun _ k8 => AW.cond false (by simp [Int.natCast_inj]) (fun h => by cases h) (fun _ => ?_)
      refine AW.exit ?_
      simp
      refine k5 _ ?_
      refine AW.seq fun _ kr => AW.region [] Θ_ok ?_
      simp
      refine kr _ (AW.ret ?_)
      simp [Try.f12]
      exact Fin.refl ⟨by simp [fairB, hno, hm], rfl⟩

theorem proof_Unfair (next : List (List Int)) (hl : next.length ≤ 17592186044416) (hr : ∀ l ∈ next, l.length ≤ 1000000000) (from_ : List Bool) (A E : List (List Bool)) (hA : A.length ≤ 17592186044416) (hE : E.length ≤ 17592186044416) :
    Pure Try.prog 14 [.ro false (rows next), .ro false (bools from_), .ro false (bools2 A), .ro false (bools2 E)] (.bool (mayN next && unfairB next from_ A E)) := by
  have sM := proof_may next hl (fun l h => Nat.le_trans (hr l h) (by decide))
  intro h
  refine AC.body Θ_ok Try.func14 rfl rfl (Nat.le_of_ble_eq_true rfl) ?_
  refine AW.seq fun _ k1 => AW.region [] Θ_ok ?_
  simp
  refine k1 _ ?_
  refine AW.seq fun _ k2 => ?_
  cases hm : mayN next with
  | false =>
    rw [hm] at sM
    refine AW.seq fun _ k3 => AW.region [] Θ_ok ?_
    simp
    refine sM.use (by simp) ?_
    try simp
    refine k3 _ ?_
    refine AW.cond true (by simp [Int.natCast_inj]) (fun _ => ?_) (fun h => by cases h)
    refine AW.seq fun _ kr => AW.region [] Θ_ok ?_
    simp
    refine kr _ (AW.ret ?_)
    simp [Try.f14]
    exact Fin.refl ⟨rfl, rfl⟩
  | true =>
    rw [hm] at sM
    have ok := mayN_ok hm hr
    have hn := ok.len
    have sR := proof_reach next ok from_
    have lL : (reachL (nG next) from_).length = next.length := by simp [reachL]
    refine AW.seq fun _ k3 => AW.region [] Θ_ok ?_
    simp
    refine sM.use (by simp) ?_
    try simp
    refine k3 _ ?_
    refine AW.cond false (by simp [Int.natCast_inj]) (fun h => by cases h) (fun _ => ?_)
    refine AW.skip ?_
    simp
    refine k2 _ ?_
    refine AW.seq fun _ k4 => AW.region [] Θ_ok ?_
    simp
    refine sR.use (by simp) ?_
    try simp
    refine k4 _ ?_
    refine AW.seq fun _ k5 => ?_
    refine AW.seq fun _ k6 => AW.region [] Θ_ok ?_
    simp
    refine k6 _ ?_
    refine AW.block ?_
    refine AW.loopI (X := Nat) (fun x => x ≤ A.length ∧ metA next from_ [] A x = false) (fun x => ⟨46, [(0, .ro false (rows next)), (3, .ro false (bools2 E)), (9, .ro true (bools (reachL (nG next) from_))), (20, .ro false (bools2 A)), (21, .int .i64 A.length), (22, .int .i64 x)], h⟩) (fun x => A.length - x) 0 ⟨Nat.zero_le _, metA_zero _ _ _ _⟩ (GStep.eq (by simp) (subH.refl _)) fun x hx => ?_
    obtain ⟨hx, hno⟩ := hx
    refine AW.seq fun _ k7 => AW.region [] Θ_ok ?_
    simp
    refine k7 _ ?_
    by_cases hlt : x < A.length
    · have inc := wrap_succ (show x < 9223372036854775807 by omega)
      have st := metA_step next from_ [] A hlt
      have mono := metA_mono (next := next) (from_ := from_) (A := []) hlt
      rw [hno, Bool.false_or] at st
      obtain ⟨r, hr2⟩ : ∃ r, r = A[x] := ⟨_, rfl⟩
      rw [← hr2] at st mono
      have sW := proof_without (reachL (nG next) from_) r (by omega)
      have sP := proof_parts next ok (wiP (reachL (nG next) from_) r) (by rw [wiP_len]; exact lL) h
      have any := fun out => anyO_wi (next := next) (from_ := from_) (r := r) (A := []) (out := out)
      generalize meetsB next from_ (wiL next r) [] = b at st mono any
      generalize wiP (reachL (nG next) from_) r = WL at sW sP any
      generalize reachL (nG next) from_ = RL at *
      refine AW.seq fun _ k8 => AW.cond true (by simp [Int.natCast_inj, hlt]) (fun _ => ?_) (fun h => by cases h)
      refine AW.skip ?_
      simp
      refine k8 _ ?_
      refine AW.seq fun _ k9 => ?_
      refine AW.block ?_
      refine AW.seq fun _ k10 => AW.region [] Θ_ok ?_
      simp [hlt, ← hr2]
      refine k10 _ ?_
      refine AW.seq fun _ k11 => AW.regionAt 4 [] Θ_ok fun B hB => ?_
      simp
      refine sW.use (by simp) ?_
      refine hB _ ?_
      clear hB B
      refine vcOps_split 1 fun B hB => ?_
      simp
      refine (sP.wk (by simp)).mono ?_
      rintro r' h' ⟨out, rfl, D, rfl⟩
      replace any := any out D
      refine hB _ ?_
      clear hB B
      simp
      refine k11 _ ?_
      by_cases hc : 0 < out.length
      · have hb : b = true := by
          rw [← any]
          cases out with
          | nil => simp at hc
          | cons p l => simp [anyO, meetP]
        refine AW.cond true (by simp [Int.natCast_inj, hc]) (fun _ => ?_) (fun h => by cases h)
        refine AW.seq fun _ kr => AW.region [] Θ_ok ?_
        simp
        refine kr _ (AW.ret ?_)
        simp [Try.f14]
        exact Fin.refl ⟨by simp [unfairB, mono hb], rfl⟩
      · have hb : b = false := by
          obtain rfl : out = [] := List.length_eq_zero_iff.1 (by omega)
          rw [← any]; rfl
        refine AW.cond false (by simp [Int.natCast_inj, hc]) (fun h => by cases h) (fun _ => ?_)
        refine AW.skip ?_
        simp
        refine k9 _ ?_
        refine AW.region [] Θ_ok ?_
        simp
        exact ⟨x + 1, ⟨hlt, by rw [st, hb]⟩, by omega, GStep.eq (by simp [inc]) (subH.refl _)⟩
    · obtain rfl : x = A.length := by omega
      have sP := proof_parts next ok (reachL (nG next) from_) lL h
      have any := fun out => anyO_full (next := next) (from_ := from_) (A := E) (out := out)
      refine AW.seq fun _ k8 => AW.cond false (by simp [Int.natCast_inj]) (fun h => by cases h) (fun _ => ?_)
      refine AW.exit ?_
      simp
      refine k5 _ ?_
      refine AW.seq fun _ k12 => ?_
      refine AW.seq fun _ k13 => AW.regionAt 3 [] Θ_ok fun B hB => ?_
      simp
      refine (sP.wk (by simp)).mono ?_
      rintro r' h' ⟨out, rfl, D, rfl⟩
      replace any := any out D
      have lo := few_len D hn
      refine hB _ ?_
      clear hB B
      simp
      refine k13 _ ?_
      refine AW.block ?_
      refine AW.loopI (X := Nat) (fun y => y ≤ out.length ∧ anyO E out y = false) (fun y => ⟨46, [(3, .ro false (bools2 E)), (36, .ro false (rows (out.map nI))), (37, .int .i64 out.length), (38, .int .i64 y)], h'⟩) (fun y => out.length - y) 0 ⟨Nat.zero_le _, rfl⟩ (GStep.eq (by simp [rows]) (subH.refl _)) fun y hy => ?_
      obtain ⟨hy, hnoy⟩ := hy
      refine AW.seq fun _ k14 => AW.region [] Θ_ok ?_
      simp
      refine k14 _ ?_
      by_cases hly : y < out.length
      · have incy := wrap_succ (show y < 9223372036854775807 by omega)
        have sQ := proof_meets out[y] E (part_len D hn hly) hE
        have sty := anyO_step E out hly
        have moy := anyO_mono (A := E) hly
        rw [hnoy, Bool.false_or] at sty
        obtain ⟨p, hp⟩ : ∃ p, p = out[y] := ⟨_, rfl⟩
        rw [← hp] at sQ sty moy
        generalize meetP p E = c at sQ sty moy
        refine AW.seq fun _ k15 => AW.cond true (by simp [Int.natCast_inj, hly]) (fun _ => ?_) (fun h => by cases h)
        refine AW.skip ?_
        simp
        refine k15 _ ?_
        refine AW.seq fun _ k16 => ?_
        refine AW.block ?_
        refine AW.seq fun _ k17 => AW.region [] Θ_ok ?_
        simp [hly, ← hp]
        refine k17 _ ?_
        refine AW.seq fun _ k18 => AW.region [] Θ_ok ?_
        simp
        refine sQ.use (by simp) ?_
        try simp
        refine k18 _ ?_
        cases c with
        | true =>
          have hb := any.symm.trans (moy rfl)
          refine AW.cond true (by simp [Int.natCast_inj]) (fun _ => ?_) (fun h => by cases h)
          refine AW.seq fun _ kr => AW.region [] Θ_ok ?_
          simp
          refine kr _ (AW.ret ?_)
          simp [Try.f14]
          exact Fin.refl ⟨by simp [unfairB, hb], rfl⟩
        | false =>
          refine AW.cond false (by simp [Int.natCast_inj]) (fun h => by cases h) (fun _ => ?_)
          refine AW.skip ?_
          simp
          refine k16 _ ?_
          refine AW.region [] Θ_ok ?_
          simp
          exact ⟨y + 1, ⟨hly, sty⟩, by omega, GStep.eq (by simp [incy, rows]) (subH.refl _)⟩
      · obtain rfl : y = out.length := by omega
        have hb := any.symm.trans hnoy
        refine AW.seq fun _ k15 => AW.cond false (by simp [Int.natCast_inj]) (fun h => by cases h) (fun _ => ?_)
        refine AW.exit ?_
        simp
        refine k12 _ ?_
        refine AW.seq fun _ kr => AW.region [] Θ_ok ?_
        simp
        refine kr _ (AW.ret ?_)
        simp [Try.f14]
        exact Fin.refl ⟨by simp [unfairB, hb, hno, hm], rfl⟩
end Go.Par

set_option linter.unusedSimpArgs false
set_option linter.unusedVariables false
set_option maxRecDepth 8000
set_option maxHeartbeats 2000000
namespace Go.Par
open Go.Proofs

theorem r9_mayN (next : List (List Int)) (hl : next.length ≤ 17592186044416) (hr : ∀ l ∈ next, l.length ≤ 17592186044416) : Pure Try.prog 30 [.ro false (rows next)] (.bool (mayN next)) := by
  intro h
  refine AC.body Θ_ok Try.func30 rfl rfl (Nat.le_of_ble_eq_true rfl) ?_
  refine AW.seq fun _ k1 => AW.region [] Θ_ok ?_
  simp
  refine k1 _ ?_
  refine AW.seq fun _ k2 => ?_
  refine AW.seq fun _ k3 => AW.region [] Θ_ok ?_
  simp
  refine k3 _ ?_
  by_cases hc : next.length ≤ 12000
  · have c1 : ¬ (12000 : Int) < next.length := by omega
    refine AW.cond false (by simp [Int.natCast_inj, c1]) (fun h => by cases h) (fun _ => ?_)
    refine AW.skip ?_
    simp
    refine k2 _ ?_
    refine AW.seq fun _ k4 => ?_
    refine AW.seq fun _ k5 => AW.region [] Θ_ok ?_
    simp
    refine k5 _ ?_
    refine AW.block ?_
    refine AW.loopI (X := Nat) (fun x => x ≤ next.length ∧ ∀ l ∈ next.take x, ∀ w ∈ l, okW next.length w = true) (fun x => ⟨32, [(0, .ro false (rows next)), (10, .ro false (rows next)), (11, .int .i64 next.length), (12, .int .i64 x)], h⟩) (fun x => next.length - x) 0 ⟨Nat.zero_le _, fun l hl => by simp at hl⟩ (GStep.eq (by simp) (subH.refl _)) fun x hx => ?_
    obtain ⟨hx, hg⟩ := hx
    refine AW.seq fun _ k6 => AW.region [] Θ_ok ?_
    simp
    refine k6 _ ?_
    by_cases hlt : x < next.length
    · have inc := wrap_succ (show x < 9223372036854775807 by omega)
      have hrl := hr _ (List.getElem_mem hlt)
      refine AW.seq fun _ k7 => AW.cond true (by simp [Int.natCast_inj, hlt]) (fun _ => ?_) (fun h => by cases h)
      refine AW.skip ?_
      simp
      refine k7 _ ?_
      refine AW.seq fun _ k8 => ?_
      refine AW.block ?_
      refine AW.seq fun _ k9 => AW.region [] Θ_ok ?_
      simp [hlt]
      refine k9 _ ?_
      refine AW.seq fun _ k10 => AW.region [] Θ_ok ?_
      simp
      refine k10 _ ?_
      refine AW.block ?_
      refine AW.loopI (X := Nat) (fun y => y ≤ next[x].length ∧ ∀ w ∈ next[x].take y, okW next.length w = true) (fun y => ⟨32, [(0, .ro false (rows next)), (10, .ro false (rows next)), (11, .int .i64 next.length), (12, .int .i64 x), (16, .ro false (ints next[x])), (17, .int .i64 next[x].length), (18, .int .i64 y)], h⟩) (fun y => next[x].length - y) 0 ⟨Nat.zero_le _, fun w hw => by simp at hw⟩ (GStep.eq (by simp) (subH.refl _)) fun y hy => ?_
      obtain ⟨hy, hgy⟩ := hy
      refine AW.seq fun _ k11 => AW.region [] Θ_ok ?_
      simp
      refine k11 _ ?_
      by_cases hly : y < next[x].length
      · have incy := wrap_succ (show y < 9223372036854775807 by omega)
        have hno := mayN_no hlt hly
        have hst : ∀ w ∈ next[x].take (y + 1), w ∈ next[x].take y ∨ w = next[x][y] := fun w hw => by
          rwa [List.take_succ_eq_append_getElem hly, List.mem_append, List.mem_singleton] at hw
        obtain ⟨w, hw⟩ : ∃ w, next[x][y] = w := ⟨_, rfl⟩
        rw [hw] at hno
        simp only [hw] at hst
        refine AW.seq fun _ k12 => AW.cond true (by simp [Int.natCast_inj, hly]) (fun _ => ?_) (fun h => by cases h)
        refine AW.skip ?_
        simp
        refine k12 _ ?_
        refine AW.seq fun _ k13 => ?_
        refine AW.block ?_
        have hw0 : okW next.length w = (decide (0 ≤ w) && decide (w < next.length)) := rfl
        refine AW.seq fun _ k14 => AW.region [] Θ_ok ?_
        simp [hly, hw]
        refine k14 _ ?_
        have bad : okW next.length w = false → Fin (.bool false) h fun r h' => r = .bool (mayN next) ∧ h' = h := fun q => Fin.refl ⟨by rw [hno q], rfl⟩
        by_cases h0 : 0 ≤ w
        · by_cases h1 : w < (next.length : Int)
          · refine AW.seq fun _ k15 => AW.region [] Θ_ok ?_
            simp [Int.not_lt.2 h0, h0, Int.not_le.2 h1, h1]
            refine k15 _ ?_
            refine AW.cond false (by simp [Int.natCast_inj]) (fun h => by cases h) (fun _ => ?_)
            refine AW.skip ?_
            simp
            refine k13 _ ?_
            refine AW.region [] Θ_ok ?_
            simp
            refine ⟨y + 1, ⟨hly, fun u hu => ?_⟩, by omega, GStep.eq (by simp [incy]) (subH.refl _)⟩
            rcases hst u hu with q | q
            · exact hgy u q
            · rw [q, hw0]; simp [h0, h1]
          · refine AW.seq fun _ k15 => AW.region [] Θ_ok ?_
            simp [Int.not_lt.2 h0, h0, Int.not_lt.1 h1, h1]
            refine k15 _ ?_
            refine AW.cond true (by simp [Int.natCast_inj]) (fun _ => ?_) (fun h => by cases h)
            refine AW.seq fun _ kr => AW.region [] Θ_ok ?_
            simp
            refine kr _ (AW.ret ?_)
            simp [Try.f30]
            exact bad (by rw [hw0]; simp [h0, h1])
        · refine AW.seq fun _ k15 => AW.region [] Θ_ok ?_
          simp [Int.not_le.1 h0, h0]
          refine k15 _ ?_
          refine AW.cond true (by simp [Int.natCast_inj]) (fun _ => ?_) (fun h => by cases h)
          refine AW.seq fun _ kr => AW.region [] Θ_ok ?_
          simp
          refine kr _ (AW.ret ?_)
          simp [Try.f30]
          exact bad (by rw [hw0]; simp [h0])
      · obtain rfl : y = next[x].length := by omega
        refine AW.seq fun _ k12 => AW.cond false (by simp [Int.natCast_inj]) (fun h => by cases h) (fun _ => ?_)
        refine AW.exit ?_
        simp
        refine k8 _ ?_
        refine AW.region [] Θ_ok ?_
        simp
        refine ⟨x + 1, ⟨hlt, fun l hl => ?_⟩, by omega, GStep.eq (by simp [inc]) (subH.refl _)⟩
        rw [List.take_succ_eq_append_getElem hlt, List.mem_append, List.mem_singleton] at hl
        rcases hl with q | q
        · exact hg l q
        · rw [q]; rw [List.take_length] at hgy; exact hgy
    · obtain rfl : x = next.length := by omega
      refine AW.seq fun _ k7 => AW.cond false (by simp [Int.natCast_inj]) (fun h => by cases h) (fun _ => ?_)
      refine AW.exit ?_
      simp
      refine k4 _ ?_
      refine AW.seq fun _ kr => AW.region [] Θ_ok ?_
      simp
      refine kr _ (AW.ret ?_)
      simp [Try.f30]
      refine Fin.refl ⟨?_, rfl⟩
      rw [List.take_length] at hg
      have : mayN next = true := by simp only [mayN, hc, decide_true, Bool.true_and, List.all_eq_true]; exact hg
      rw [this]
  · have c1 : (12000 : Int) < next.length := by omega
    refine AW.cond true (by simp [Int.natCast_inj, c1]) (fun _ => ?_) (fun h => by cases h)
    refine AW.seq fun _ kr => AW.region [] Θ_ok ?_
    simp
    refine kr _ (AW.ret ?_)
    simp [Try.f30]
    exact Fin.refl ⟨by simp [mayN, hc], rfl⟩

theorem r9_FairN (next : List (List Int)) (hl : next.length ≤ 17592186044416) (hr : ∀ l ∈ next, l.length ≤ 1000000000) (from_ : List Bool) (A E : List (List Bool)) (hA : A.length ≤ 17592186044416) (hE : E.length ≤ 17592186044416) :
    Pure Try.prog 13 [.ro false (rows next), .ro false (bools from_), .ro false (bools2 A), .ro false (bools2 E)] (.bool (mayN next && fairB next from_ A E)) := by
  cases hm : mayN next with
  | true =>
    rw [Bool.true_and]
    exact r9_Fair next (mayN_ok hm hr) from_ A E hA hE
  | false =>
    have sM := r9_mayN next hl (fun l h => Nat.le_trans (hr l h) (by decide))
    rw [hm] at sM
    intro h
    refine AC.body Θ_ok Try.func13 rfl rfl (Nat.le_of_ble_eq_true rfl) ?_
    refine AW.seq fun _ k1 => AW.region [] Θ_ok ?_
    simp
    refine k1 _ ?_
    refine AW.seq fun _ k1 => ?_
    refine AW.seq fun _ k2 => AW.region [] Θ_ok ?_
    simp
    refine sM.use (by simp) ?_
    try simp
    refine k2 _ ?_
    refine AW.cond true (by simp [Int.natCast_inj]) (fun _ => ?_) (fun h => by cases h)
    refine AW.seq fun _ kr => AW.region [] Θ_ok ?_
    simp
    refine kr _ (AW.ret ?_)
    simp [Try.f13]
    exact Fin.refl ⟨rfl, rfl⟩
theorem r9_UnfairN (next : List (List Int)) (hl : next.length ≤ 17592186044416) (hr : ∀ l ∈ next, l.length ≤ 1000000000) (from_ : List Bool) (A E : List (List Bool)) (hA : A.length ≤ 17592186044416) (hE : E.length ≤ 17592186044416) :
    Pure Try.prog 15 [.ro false (rows next), .ro false (bools from_), .ro false (bools2 A), .ro false (bools2 E)] (.bool (mayN next && unfairB next from_ A E)) := by
  cases hm : mayN next with
  | true =>
    rw [Bool.true_and]
    exact r9_Unfair next (mayN_ok hm hr) from_ A E hA hE
  | false =>
    have sM := r9_mayN next hl (fun l h => Nat.le_trans (hr l h) (by decide))
    rw [hm] at sM
    intro h
    refine AC.body Θ_ok Try.func15 rfl rfl (Nat.le_of_ble_eq_true rfl) ?_
    refine AW.seq fun _ k1 => AW.region [] Θ_ok ?_
    simp
    refine k1 _ ?_
    refine AW.seq fun _ k1 => ?_
    refine AW.seq fun _ k2 => AW.regionAt 2 [] Θ_ok fun B hB => ?_
    simp
    refine sM.use (by simp) ?_
    refine hB _ ?_
    clear hB B
    simp
    refine k2 _ ?_
    refine AW.cond true (by simp [Int.natCast_inj]) (fun _ => ?_) (fun h => by cases h)
    refine AW.seq fun _ kr => AW.region [] Θ_ok ?_
    simp
    refine kr _ (AW.ret ?_)
    simp [Try.f15]
    exact Fin.refl ⟨rfl, rfl⟩

/-! ### light -/
def lenS {α : Type} (l : List (List α)) : Nat := (l.map List.length).sum
theorem lenS_take {α : Type} (l : List (List α)) {x : Nat} (hx : x < l.length) : lenS (l.take (x + 1)) = lenS (l.take x) + l[x].length := by
  unfold lenS; rw [List.take_succ_eq_append_getElem hx, List.map_append, List.sum_append]; simp only [List.map_cons, List.map_nil, List.sum_cons, List.sum_nil, Nat.add_zero]
theorem lenS_mem {α : Type} : ∀ {l : List (List α)} {r : List α}, r ∈ l → r.length ≤ lenS l
  | [], r, h => by cases h
  | a :: l, r, h => by
    unfold lenS
    rw [List.map_cons, List.sum_cons]
    rcases List.mem_cons.1 h with e | q
    · rw [e]; omega
    · have := lenS_mem q
      unfold lenS at this; omega
theorem lenS_le {α : Type} (l : List (List α)) (m : Nat) (h : ∀ r ∈ l, r.length ≤ m) : lenS l ≤ l.length * m := by
  induction l with
  | nil => simp [lenS]
  | cons a l ih =>
    have h1 := ih fun r hr => h r (by simp [hr])
    have h2 := h a (by simp)
    unfold lenS at h1 ⊢
    rw [List.map_cons, List.sum_cons, List.length_cons, Nat.succ_mul]; omega
theorem lenS_takeLe {α : Type} (l : List (List α)) (x : Nat) : lenS (l.take x) ≤ lenS l := by
  have : l.take x ++ l.drop x = l := List.take_append_drop x l
  have e : lenS l = lenS (l.take x) + lenS (l.drop x) := by
    conv => lhs; rw [← this]
    unfold lenS; rw [List.map_append, List.sum_append]
  omega
def lenR (R : List (List (List Bool))) : Nat := (R.map lenS).sum
theorem lenR_take (R : List (List (List Bool))) {x : Nat} (hx : x < R.length) : lenR (R.take (x + 1)) = lenR (R.take x) + lenS R[x] := by
  unfold lenR; rw [List.take_succ_eq_append_getElem hx, List.map_append, List.sum_append]; simp only [List.map_cons, List.map_nil, List.sum_cons, List.sum_nil, Nat.add_zero]
def light17 (next : List (List Int)) (from_ : List Bool) (R : List (List (List Bool))) : Bool :=
  R.all (fun A => decide (A.length ≤ 8)) && decide (next.length + lenS next + lenR R + from_.length ≤ 1500) && decide (next.length ≤ 120)
def bools3 (R : List (List (List Bool))) : List AV := R.map fun A => .ro false (bools2 A)

structure LiX where
  x : Nat
  z : Int
/-- The sum is right, if there are few rows. -/
def LiOk (next : List (List Int)) (z : Int) (n : Nat) : Prop := next.length ≤ 120 → z = n
theorem LiOk.add {next : List (List Int)} {z : Int} {n : Nat} (h : LiOk next z n) (m k : Nat) (hk : next.length ≤ 120 → k = n + m ∧ k < 9223372036854775808) : LiOk next (IntKind.i64.wrap (z + m)) k := fun q => by
  obtain ⟨e, b⟩ := hk q
  rw [h q, show ((n : Int) + m) = ((k : Nat) : Int) by omega]
  exact wrap_nat b

theorem l17_light (next : List (List Int)) (hl : next.length ≤ 17592186044416) (hr : ∀ l ∈ next, l.length ≤ 17592186044416) (from_ : List Bool) (hf : from_.length ≤ 140737488355328) (R : List (List (List Bool))) (hR : R.length ≤ 2) (hR2 : ∀ A ∈ R, ∀ r ∈ A, r.length ≤ 140737488355328) (hR3 : ∀ A ∈ R, A.length ≤ 17592186044416) :
    Pure Try.prog 10 [.ro false (rows next), .ro false (bools from_), .ro false (bools3 R)] (.bool (light17 next from_ R)) := by
  have bN : next.length ≤ 120 → lenS next ≤ 120 * 17592186044416 := fun q => Nat.le_trans (lenS_le next _ hr) (Nat.mul_le_mul_right _ q)
  intro h
  refine AC.body Θ_ok Try.func10 rfl rfl (Nat.le_of_ble_eq_true rfl) ?_
  refine AW.seq fun _ k1 => AW.region [] Θ_ok ?_
  simp
  refine k1 _ ?_
  refine AW.seq fun _ k2 => AW.region [] Θ_ok ?_
  simp
  refine k2 _ ?_
  refine AW.seq fun _ k3 => ?_
  refine AW.seq fun _ k4 => AW.region [] Θ_ok ?_
  simp
  refine k4 _ ?_
  refine AW.block ?_
  refine AW.loopI (X := LiX) (fun t => t.x ≤ next.length ∧ LiOk next t.z (next.length + lenS (next.take t.x))) (fun t => ⟨58, [(0, .ro false (rows next)), (1, .ro false (bools from_)), (2, .ro false (bools3 R)), (7, .int .i64 t.z), (16, .ro false (rows next)), (17, .int .i64 next.length), (18, .int .i64 t.x)], h⟩) (fun t => next.length - t.x) ⟨0, next.length⟩ ⟨Nat.zero_le _, fun _ => by simp [lenS]⟩ (GStep.eq (by simp) (subH.refl _)) ?_
  rintro ⟨x, z⟩ ⟨hx, hz⟩
  simp only at hx hz ⊢
  refine AW.seq fun _ k5 => AW.region [] Θ_ok ?_
  simp
  refine k5 _ ?_
  by_cases hlt : x < next.length
  · have inc := wrap_succ (show x < 9223372036854775807 by omega)
    have st := lenS_take next hlt
    have sl := lenS_takeLe next (x + 1)
    refine AW.seq fun _ k6 => AW.cond true (by simp [Int.natCast_inj, hlt]) (fun _ => ?_) (fun h => by cases h)
    refine AW.skip ?_
    simp
    refine k6 _ ?_
    refine AW.seq fun _ k7 => ?_
    refine AW.block ?_
    refine AW.seq fun _ k8 => AW.region [] Θ_ok ?_
    simp [hlt]
    refine k8 _ ?_
    refine AW.region [] Θ_ok ?_
    simp
    refine k7 _ ?_
    refine AW.region [] Θ_ok ?_
    simp
    exact ⟨⟨x + 1, IntKind.i64.wrap (z + next[x].length)⟩, ⟨hlt, hz.add next[x].length _ fun q => ⟨by simp only [st]; omega, by have := bN q; simp only; omega⟩⟩, by simp only; omega, GStep.eq (by simp [inc]) (subH.refl _)⟩
  · obtain rfl : x = next.length := by omega
    rw [List.take_length] at hz
    refine AW.seq fun _ k6 => AW.cond false (by simp [Int.natCast_inj]) (fun h => by cases h) (fun _ => ?_)
    refine AW.exit ?_
    simp
    refine k3 _ ?_
    refine AW.seq fun _ k9 => ?_
    refine AW.seq fun _ k10 => AW.region [] Θ_ok ?_
    simp
    refine k10 _ ?_
    refine AW.block ?_
    refine AW.loopI (X := LiX) (fun t => t.x ≤ R.length ∧ LiOk next t.z (next.length + lenS next + lenR (R.take t.x)) ∧ ∀ A ∈ R.take t.x, A.length ≤ 8) (fun t => ⟨58, [(0, .ro false (rows next)), (1, .ro false (bools from_)), (7, .int .i64 t.z), (27, .ro false (bools3 R)), (28, .int .i64 R.length), (29, .int .i64 t.x)], h⟩) (fun t => R.length - t.x) ⟨0, z⟩ ⟨Nat.zero_le _, by simpa [lenR] using hz, fun A hA => by simp at hA⟩ (GStep.eq (by simp [bools3]) (subH.refl _)) ?_
    clear hz hx hlt z
    rintro ⟨x, z⟩ ⟨hx, hz, h8⟩
    simp only at hx hz h8 ⊢
    refine AW.seq fun _ k11 => AW.region [] Θ_ok ?_
    simp
    refine k11 _ ?_
    have bR : ∀ y, y ≤ R.length → (∀ A ∈ R.take y, A.length ≤ 8) → lenR (R.take y) ≤ y * 1125899906842624 := fun y => by
      induction y with
      | zero => intro _ _; simp [lenR]
      | succ y ih =>
        intro hy h8
        have hm : ∀ A, A ∈ R.take (y + 1) ↔ A ∈ R.take y ∨ A = R[y] := fun A => by rw [List.take_succ_eq_append_getElem (show y < R.length by omega), List.mem_append, List.mem_singleton]
        have i := ih (by omega) fun A hA => h8 A ((hm A).2 (.inl hA))
        rw [lenR_take R (show y < R.length by omega)]
        have h1 := lenS_le R[y] _ (hR2 _ (List.getElem_mem (show y < R.length by omega)))
        have h2 := h8 R[y] ((hm _).2 (.inr rfl))
        have h3 : R[y].length * 140737488355328 ≤ 8 * 140737488355328 := Nat.mul_le_mul_right _ h2
        rw [Nat.succ_mul]; omega
    by_cases hlt : x < R.length
    · have inc := wrap_succ (show x < 9223372036854775807 by omega)
      have st := lenR_take R hlt
      have hm : ∀ A, A ∈ R.take (x + 1) ↔ A ∈ R.take x ∨ A = R[x] := fun A => by rw [List.take_succ_eq_append_getElem hlt, List.mem_append, List.mem_singleton]
      have b1 := bR x hx h8
      have b2 := hR2 _ (List.getElem_mem hlt)
      have b3 := hR3 _ (List.getElem_mem hlt)
      have hall := List.getElem_mem hlt
      have e3 : ∀ q, (bools3 R)[x]'q = .ro false (bools2 R[x]) := fun q => by simp [bools3]
      have e3' : (bools3 R)[x]? = some (.ro false (bools2 R[x])) := by simp [bools3, hlt]
      have l3 : (bools3 R).length = R.length := by simp [bools3]
      obtain ⟨A, hA⟩ : ∃ A, R[x] = A := ⟨_, rfl⟩
      rw [hA] at st b2 b3 hall e3'
      simp only [hA] at hm e3
      refine AW.seq fun _ k12 => AW.cond true (by simp [Int.natCast_inj, hlt]) (fun _ => ?_) (fun h => by cases h)
      refine AW.skip ?_
      simp
      refine k12 _ ?_
      refine AW.seq fun _ k13 => ?_
      refine AW.block ?_
      refine AW.seq fun _ k14 => AW.region [] Θ_ok ?_
      simp [hlt, e3, e3', l3]
      refine k14 _ ?_
      refine AW.seq fun _ k15 => ?_
      refine AW.seq fun _ k16 => AW.region [] Θ_ok ?_
      simp
      refine k16 _ ?_
      by_cases hc : A.length ≤ 8
      · have hc' : ¬ (8 : Int) < A.length := by omega
        refine AW.cond false (by simp [Int.natCast_inj, hc']) (fun h => by cases h) (fun _ => ?_)
        refine AW.skip ?_
        simp
        refine k15 _ ?_
        refine AW.seq fun _ k17 => AW.region [] Θ_ok ?_
        simp
        refine k17 _ ?_
        refine AW.block ?_
        refine AW.loopI (X := LiX) (fun t => t.x ≤ A.length ∧ LiOk next t.z (next.length + lenS next + lenR (R.take x) + lenS (A.take t.x))) (fun t => ⟨58, [(0, .ro false (rows next)), (1, .ro false (bools from_)), (7, .int .i64 t.z), (27, .ro false (bools3 R)), (28, .int .i64 R.length), (29, .int .i64 x), (36, .ro false (bools2 A)), (37, .int .i64 A.length), (38, .int .i64 t.x)], h⟩) (fun t => A.length - t.x) ⟨0, z⟩ ⟨Nat.zero_le _, by simpa [lenS] using hz⟩ (GStep.eq (by simp [l3]) (subH.refl _)) ?_
        rintro ⟨y, z⟩ ⟨hy, hz⟩
        simp only at hy hz ⊢
        refine AW.seq fun _ k18 => AW.region [] Θ_ok ?_
        simp
        refine k18 _ ?_
        by_cases hly : y < A.length
        · have incy := wrap_succ (show y < 9223372036854775807 by omega)
          have sty := lenS_take A hly
          have sl := lenS_takeLe A (y + 1)
          have bA := lenS_le A _ b2
          have bA2 : A.length * 140737488355328 ≤ 8 * 140737488355328 := Nat.mul_le_mul_right _ hc
          have bx : x * 1125899906842624 ≤ 2 * 1125899906842624 := Nat.mul_le_mul_right _ (by omega)
          refine AW.seq fun _ k19 => AW.cond true (by simp [Int.natCast_inj, hly]) (fun _ => ?_) (fun h => by cases h)
          refine AW.skip ?_
          simp
          refine k19 _ ?_
          refine AW.seq fun _ k20 => ?_
          refine AW.block ?_
          refine AW.seq fun _ k21 => AW.region [] Θ_ok ?_
          simp [hly]
          refine k21 _ ?_
          refine AW.region [] Θ_ok ?_
          simp
          refine k20 _ ?_
          refine AW.region [] Θ_ok ?_
          simp
          exact ⟨⟨y + 1, IntKind.i64.wrap (z + A[y].length)⟩, ⟨hly, hz.add A[y].length _ fun q => ⟨by simp only [sty]; omega, by have := bN q; simp only; omega⟩⟩, by simp only; omega, GStep.eq (by simp [incy]) (subH.refl _)⟩
        · obtain rfl : y = A.length := by omega
          rw [List.take_length] at hz
          refine AW.seq fun _ k19 => AW.cond false (by simp [Int.natCast_inj]) (fun h => by cases h) (fun _ => ?_)
          refine AW.exit ?_
          simp
          refine k13 _ ?_
          refine AW.region [] Θ_ok ?_
          simp
          refine ⟨⟨x + 1, z⟩, ⟨hlt, by rw [st]; rw [Nat.add_assoc] at hz; simpa [Nat.add_assoc] using hz, fun B hB => ?_⟩, by simp only; omega, GStep.eq (by simp [inc]) (subH.refl _)⟩
          rcases (hm B).1 hB with q | q
          · exact h8 B q
          · rw [q]; exact hc
      · have hc' : (8 : Int) < A.length := by omega
        refine AW.cond true (by simp [Int.natCast_inj, hc']) (fun _ => ?_) (fun h => by cases h)
        refine AW.seq fun _ kr => AW.region [] Θ_ok ?_
        simp
        refine kr _ (AW.ret ?_)
        simp [Try.f10]
        refine Fin.refl ⟨?_, rfl⟩
        have : R.all (fun A => decide (A.length ≤ 8)) = false := by
          cases hq : R.all (fun A => decide (A.length ≤ 8)) with
          | false => rfl
          | true =>
            have := (List.all_eq_true.1 hq) A hall
            simp at this; omega
        simp [light17, this]
    · obtain rfl : x = R.length := by omega
      have b1 := bR R.length (Nat.le_refl _) h8
      rw [List.take_length] at hz h8 b1
      have bx : R.length * 1125899906842624 ≤ 2 * 1125899906842624 := Nat.mul_le_mul_right _ (by omega)
      have hz2 := hz.add from_.length _ fun q => ⟨rfl, by have := bN q; omega⟩
      have h8' : R.all (fun A => decide (A.length ≤ 8)) = true := by
        rw [List.all_eq_true]; intro A hA; simpa using h8 A hA
      refine AW.seq fun _ k12 => AW.cond false (by simp [Int.natCast_inj]) (fun h => by cases h) (fun _ => ?_)
      refine AW.exit ?_
      simp
      refine k9 _ ?_
      obtain ⟨w, hw⟩ : ∃ w, IntKind.i64.wrap (z + from_.length) = w := ⟨_, rfl⟩
      rw [hw] at hz2
      by_cases hq : next.length ≤ 120
      · have hwz := hz2 hq
        have hq' : (next.length : Int) ≤ 120 := by omega
        by_cases hc : w ≤ 1500
        · refine AW.seq fun _ kr => AW.region [] Θ_ok ?_
          simp [hw, hc, hq, hq']
          refine kr _ (AW.ret ?_)
          simp [Try.f10]
          refine Fin.refl ⟨?_, rfl⟩
          have : next.length + lenS next + lenR R + from_.length ≤ 1500 := by omega
          simp [light17, h8', this, hq]
        · refine AW.seq fun _ kr => AW.region [] Θ_ok ?_
          simp [hw, hc]
          refine kr _ (AW.ret ?_)
          simp [Try.f10]
          refine Fin.refl ⟨?_, rfl⟩
          have : ¬ next.length + lenS next + lenR R + from_.length ≤ 1500 := by omega
          simp [light17, this]
      · have hq' : ¬ (next.length : Int) ≤ 120 := by omega
        by_cases hc : w ≤ 1500
        · refine AW.seq fun _ kr => AW.region [] Θ_ok ?_
          simp [hw, hc, hq, hq']
          refine kr _ (AW.ret ?_)
          simp [Try.f10]
          exact Fin.refl ⟨by simp [light17, hq], rfl⟩
        · refine AW.seq fun _ kr => AW.region [] Θ_ok ?_
          simp [hw, hc]
          refine kr _ (AW.ret ?_)
          simp [Try.f10]
          exact Fin.refl ⟨by simp [light17, hq], rfl⟩
end Go.Par

set_option linter.unusedSimpArgs false
set_option linter.unusedVariables false
set_option maxRecDepth 8000
set_option maxHeartbeats 2000000
namespace Go.Par
open Go.Proofs

theorem has_reachL {next : List (List Int)} {f : List Bool} {v : Nat} : hasN (reachL (nG next) f) v = true ↔ v < next.length ∧ Reaches (nG next) f v := by
  constructor
  · exact hasN_reach
  · rintro ⟨h1, h2⟩
    unfold reachL hasN
    rw [getD_tab, if_pos (by simpa using h1)]
    simpa using h2
theorem kS_reachL {next : List (List Int)} {f : List Bool} {v : Nat} : kS next (reachL (nG next) f) v ↔ v < next.length ∧ Reaches (nG next) f v := by
  unfold kS; rw [has_reachL]; exact ⟨fun h => h.2, fun h => ⟨h.1, h⟩⟩
def nx2 : List (List Int) := [[1], [0]]
theorem nx2_E {u v : Nat} (h : kE nx2 u v) : (u = 0 ∧ v = 1) ∨ (u = 1 ∧ v = 0) := by
  obtain ⟨h1, h2⟩ := h
  match u, h1 with
  | 0, _ => simp [nx2] at h2; left; omega
  | 1, _ => simp [nx2] at h2; right; omega
  | u + 2, h1 => simp [nx2] at h1; omega
theorem nx2_may : mayN nx2 = true := by decide
theorem nx2_01 : kE nx2 0 1 := ⟨by decide, by decide⟩
theorem nx2_10 : kE nx2 1 0 := ⟨by decide, by decide⟩
theorem nx2_S (v : Nat) (hv : v < 2) : kS nx2 (reachL (nG nx2) [true]) v := by
  have r0 : Reaches (nG nx2) [true] 0 := .start 0 (by decide) rfl
  have r1 : Reaches (nG nx2) [true] 1 := .step 0 1 r0 (by decide)
  refine kS_reachL.2 ⟨hv, ?_⟩
  match v, hv with
  | 0, _ => exact r0
  | 1, _ => exact r1
theorem nx2_even1 : evB nx2 [1, 2] (reachL (nG nx2) [true]) = true := by
  have : ¬ BadW (kE nx2) (kS nx2 (reachL (nG nx2) [true])) (prF2 [1, 2]) := by
    rintro ⟨w, h1, h2⟩
    obtain ⟨x, hx, e, _⟩ := h2.head
    rcases nx2_E e with ⟨rfl, rfl⟩ | ⟨rfl, rfl⟩
    · have := hx.2; revert this; decide
    · exact h1 (by decide)
  simp [evB, this]
theorem nx2_even2 : evB nx2 [3, 2] (reachL (nG nx2) [true]) = false := by
  have : BadW (kE nx2) (kS nx2 (reachL (nG nx2) [true])) (prF2 [3, 2]) :=
    ⟨0, by decide, .cons ⟨nx2_S 0 (by decide), by decide⟩ nx2_01 (.one ⟨nx2_S 1 (by decide), by decide⟩ ⟨nx2_S 0 (by decide), by decide⟩ nx2_10)⟩
  simp [evB, this]
theorem meetsB_no {next : List (List Int)} {f i : List Bool} {rs : List (List Bool)} (h : ¬ MeetsP next f i rs) : meetsB next f i rs = false := by
  cases q : meetsB next f i rs with
  | false => rfl
  | true => exact absurd (meetsB_true q) h
theorem meetsB_yes {next : List (List Int)} {f i : List Bool} {rs : List (List Bool)} (h : MeetsP next f i rs) : meetsB next f i rs = true := by
  classical
  unfold meetsB; simpa using h
theorem nx2_fair1 : fairB nx2 [true] [] [[true]] = true := by
  have : meetsB nx2 [true] (wiL nx2 [true]) [] = false := meetsB_no fun ⟨v, hv, _⟩ => by
    have no : ¬ kS nx2 (r9andL (reachL (nG nx2) [true]) (wiL nx2 [true])) 0 := fun h => by
      have := (hasN_and _ _ _ h.2).2
      revert this; decide
    obtain ⟨x, hx, e, _⟩ := hv.head
    rcases nx2_E e with ⟨rfl, rfl⟩ | ⟨rfl, rfl⟩
    · exact no hv.fst
    · exact no hx
  simp [fairB, metA, this]
theorem nx2_all (v : Nat) (hv : v < 2) : kS nx2 (r9andL (reachL (nG nx2) [true]) (wiL nx2 [])) v := by
  rw [show wiL nx2 [] = fullL nx2 by decide, ← kS_full nx2 _ (by simp [reachL])]
  exact nx2_S v hv
theorem nx2_fair2 : fairB nx2 [true] [] [[]] = false := by
  have : meetsB nx2 [true] (wiL nx2 []) [] = true := meetsB_yes ⟨0, .cons (nx2_all 0 (by decide)) nx2_01 (.one (nx2_all 1 (by decide)) (nx2_all 0 (by decide)) nx2_10), fun r hr => by cases hr⟩
  simp [fairB, metA, this]
theorem nx2_unfair : unfairB nx2 [true] [] [[]] = true := by
  have : meetsB nx2 [true] (fullL nx2) [[]] = false := meetsB_no fun ⟨v, hv, h⟩ => by
    obtain ⟨w, h1, _⟩ := h [] (by simp)
    simp [hasN] at h1
  simp [unfairB, metA, this]

theorem l17_awake : Pure Try.prog 11 [] (.bool true) := by
  have e1 := proof_Even nx2 (by decide) (by decide) [1, 2] [true]
  have e2 := proof_Even nx2 (by decide) (by decide) [3, 2] [true]
  have f1 := proof_Fair nx2 (by decide) (by decide) [true] [] [[true]] (by decide) (by decide)
  have f2 := proof_Fair nx2 (by decide) (by decide) [true] [] [[]] (by decide) (by decide)
  have u1 := proof_Unfair nx2 (by decide) (by decide) [true] [] [[]] (by decide) (by decide)
  rw [nx2_may, nx2_even1, show decide (List.length [(1 : Int), 2] = nx2.length) = true by decide] at e1
  rw [nx2_may, nx2_even2] at e2
  rw [nx2_may, nx2_fair1] at f1
  rw [nx2_may, nx2_fair2] at f2
  rw [nx2_may, nx2_unfair] at u1
  simp only [Bool.and_true, Bool.and_false, Bool.true_and] at e1 e2 f1 f2 u1
  intro h
  refine AC.body Θ_ok Try.func11 rfl rfl (Nat.le_of_ble_eq_true rfl) ?_
  refine AW.seq fun _ k1 => AW.region [] Θ_ok ?_
  simp
  refine k1 _ ?_
  refine AW.seq fun _ k1 => AW.region [] Θ_ok ?_
  simp
  refine ⟨rfl, k1 _ ?_⟩
  refine AW.seq fun _ k1 => AW.region [] Θ_ok ?_
  simp
  refine k1 _ ?_
  refine AW.seq fun _ kr => AW.regionAt 4 [] Θ_ok fun B hB => ?_
  simp
  refine ⟨rfl, ?_⟩
  refine e1.use (by simp [nx2, rows, ints, bools]) ?_
  refine hB _ ?_
  clear hB B
  refine vcOps_split 5 fun B hB => ?_
  simp
  refine ⟨rfl, ?_⟩
  refine e2.use (by simp [nx2, rows, ints, bools]) ?_
  refine hB _ ?_
  clear hB B
  refine vcOps_split 8 fun B hB => ?_
  simp
  refine f1.use (by simp [nx2, rows, ints, bools, bools2]) ?_
  refine hB _ ?_
  clear hB B
  refine vcOps_split 6 fun B hB => ?_
  simp
  refine f2.use (by simp [nx2, rows, ints, bools, bools2]) ?_
  refine hB _ ?_
  clear hB B
  refine vcOps_split 7 fun B hB => ?_
  simp
  refine u1.use (by simp [nx2, rows, ints, bools, bools2]) ?_
  refine hB _ ?_
  clear hB B
  simp
  refine kr _ (AW.ret ?_)
  simp [Try.f11]
  exact Fin.refl ⟨rfl, rfl⟩
end Go.Par
