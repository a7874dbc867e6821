/- The lifter: next. -/
import Derived.Test.YtihlpchiomkinaaSpB
set_option linter.unusedSimpArgs false
set_option linter.unusedVariables false
set_option maxRecDepth 8000
set_option maxHeartbeats 1000000
namespace Go.Par
open Go.Proofs
theorem zM_yM' {p : Nat} (hp : p ≤ 5) {a b c : Int} : zM p 3 a b c = yM p (p / 2) a b c := by
  have : p = 0 ∨ p = 1 ∨ p = 2 ∨ p = 3 ∨ p = 4 ∨ p = 5 := by omega
  rcases this with rfl | rfl | rfl | rfl | rfl | rfl <;> simp [zM, zc, yM]
theorem obL_drop (g : G) (P : List Int) (mo : Mo) (k : LN) (n : Nat) {x : Nat} (h : x < 3) : (obL g P mo k n).cells.drop (3 + x) = .int .i64 (moA mo x) :: (obL g P mo k n).cells.drop (3 + x + 1) := by
  rcases three h with rfl | rfl | rfl <;> rfl

theorem small_next {C : List AV} (mo : Mo) (hC : ∀ x, x < 3 → C.drop (3 + x) = .int .i64 (moA mo x) :: C.drop (3 + x + 1)) (ok : mo.ok) (p : Nat) (hp : p ≤ 5) (m : Ms) (hm : msOk mo m) : Pure Try.prog 93 [.rop C, avM m, .int .i64 p] (avM (nextM mo p m)) := by
  obtain ⟨oa, ob, oc⟩ := ok
  intro h
  refine AC.body Θ_ok Try.func93 rfl rfl (Nat.le_of_ble_eq_true rfl) ?_
  refine AW.seq fun _ k1 => AW.region [4, 6] Θ_ok ?_
  cases m with
  | none =>
    simp [newA]
    refine fun o ho r hr => k1 _ ?_
    rw [obM_mk] at hr
    rw [obM_mk, obM_mk]
    have N1 := HL.new (l := []) ⟨List.nodup_nil, fun o ho => by cases ho⟩ ho (h0 := h)
    have N : NXN h o r := HL.new (l := [(o, obM 69 ⟨0, 0, 0, true⟩)]) N1 hr
    rw [show upd (upd h o (some (obM 69 ⟨0, 0, 0, true⟩))) r (some (obM 69 ⟨0, 0, 0, false⟩)) = NXH h 69 o r ⟨0, 0, 0, true⟩ ⟨0, 0, 0, false⟩ from rfl]
    have go := NXH.go (ty := 69) N ⟨0, 0, 0, true⟩ ⟨0, 0, 0, false⟩
    have gr := NXH.gr (ty := 69) N ⟨0, 0, 0, true⟩ ⟨0, 0, 0, false⟩
    have pr := NXH.putR (ty := 69) N ⟨0, 0, 0, true⟩ ⟨0, 0, 0, false⟩ ⟨0, 0, 0, true⟩
    have gr2 := NXH.gr (ty := 69) N ⟨0, 0, 0, true⟩ ⟨0, 0, 0, true⟩
    refine AW.seq fun _ k1 => ?_
    refine AW.seq fun _ k2 => AW.region [] Θ_ok ?_
    simp [go]
    refine k2 _ ?_
    refine AW.cond true (by simp [Int.natCast_inj, go]) (fun _ => ?_) (fun h => by cases h)
    refine AW.seq fun _ kr => AW.region [] Θ_ok ?_
    simp [go, gr, setAt, obM_mk, pr]
    refine kr _ (AW.ret ?_)
    simp [Try.f93, gr2]
    refine Fin.gv (GV.sub (HL.sub N)) (Fin.refl ⟨rfl, rfl⟩)
  | some t =>
    obtain ⟨a, b, c⟩ := t
    simp [newA]
    refine fun o ho r hr => k1 _ ?_
    rw [obM_mk] at hr
    rw [obM_mk, obM_mk]
    have N1 := HL.new (l := []) ⟨List.nodup_nil, fun o ho => by cases ho⟩ ho (h0 := h)
    have N : NXN h o r := HL.new (l := [(o, obM 69 ⟨a, b, c, false⟩)]) N1 hr
    rw [show upd (upd h o (some (obM 69 ⟨a, b, c, false⟩))) r (some (obM 69 ⟨0, 0, 0, false⟩)) = NXH h 69 o r (zM p 0 a b c) ⟨0, 0, 0, false⟩ by rw [zM_zero]; rfl]
    have hne : o ≠ r := fun e => by
      have := N.nd
      simp [e] at this
    simp only [msOk] at hm
    clear ho hr N1
    have fin : ∀ A : M4, avM (nextM mo p (some (a, b, c))) = .agg A.l → ∀ Q : AV → Heap → Prop, Q (avM (nextM mo p (some (a, b, c)))) h → Fin (.agg A.l) (NXH h 69 o r A A) Q := fun A e Q q => Fin.gv (GV.sub (HL.sub N)) (Fin.refl (by rw [← e]; exact q))
    refine AW.seq fun _ k1 => ?_
    have g0 := NXH.go (ty := 69) N (zM p 0 a b c) ⟨0, 0, 0, false⟩
    rw [zM_zero] at g0
    rw [zM_zero]
    refine AW.seq fun _ k2 => AW.region [] Θ_ok ?_
    simp [g0]
    refine k2 _ ?_
    refine AW.cond false (by simp [Int.natCast_inj]) (fun h => by cases h) (fun _ => ?_)
    refine AW.skip ?_
    simp
    refine k1 _ ?_
    have td : (p : Int).tdiv 2 = ((p / 2 : Nat) : Int) := by rw [Int.tdiv_eq_ediv_of_nonneg (by omega)]; omega
    have wd : IntKind.i64.wrap ((p : Int) / 2) = (p : Int) / 2 := wrap_id (by omega) (by omega)
    have mn : ¬ (3 : Int) < (p : Int) / 2 := by omega
    refine AW.seq fun _ k1 => AW.region [] Θ_ok ?_
    simp [td, wd]
    refine k1 _ ?_
    refine AW.seq fun _ k1 => ?_
    refine AW.seq fun _ k2 => AW.region [] Θ_ok ?_
    simp [mn]
    refine k2 _ ?_
    refine AW.block ?_
    refine AW.loopI (X := Nat) (fun x => x ≤ p / 2) (fun x => ⟨54, [(0, .rop C), (2, .int .i64 p), (4, .ptr o 0), (6, .ptr r 0), (7, .int .i64 ((p / 2 : Nat) : Int)), (15, .int .i64 ((p / 2 : Nat) : Int)), (16, .int .i64 x)], NXH h 69 o r (yM p x a b c) ⟨0, 0, 0, false⟩⟩) (fun x => p / 2 - x) 0 (Nat.zero_le _) (GStep.eq (by simp [mn]) (subH_of_eq (by simp [yM, zM_zero]))) fun x hx => ?_
    refine AW.seq fun _ k2 => AW.region [] Θ_ok ?_
    simp
    refine k2 _ ?_
    by_cases hlt2 : x < p / 2
    · have inc := wrap_succ (show x < 9223372036854775807 by omega)
      have hlt : x < 3 := by omega
      have hlt' : (x : Int) < 3 := by omega
      have hlt3 : (x : Int) < (p : Int) / 2 := by omega
      have gx := NXH.go (ty := 69) N (yM p x a b c) ⟨0, 0, 0, false⟩
      have sx := M4.set 69 (yM p x a b c) hlt 0
      have lx := M4.len 69 (yM p x a b c)
      have ox := NXH.putO (ty := 69) N (yM p x a b c) ⟨0, 0, 0, false⟩ ((yM p x a b c).put x 0)
      refine AW.seq fun _ k2 => AW.cond true (by simp [Int.natCast_inj, hlt2, hlt3]) (fun _ => ?_) (fun h => by cases h)
      refine AW.skip ?_
      simp
      refine k2 _ ?_
      refine AW.seq fun _ k2 => ?_
      refine AW.block ?_
      refine AW.seq fun _ k3 => AW.region [] Θ_ok ?_
      simp
      refine k3 _ ?_
      refine AW.region [] Θ_ok ?_
      simp [hlt, hlt', gx, sx, lx, ox]
      refine ⟨by omega, k2 _ ?_⟩
      refine AW.region [] Θ_ok ?_
      simp
      exact ⟨x + 1, by omega, by omega, GStep.eq (by simp [inc]) (subH_of_eq (by simp only [yM_put hlt]))⟩
    obtain rfl : x = p / 2 := by omega
    refine AW.seq fun _ k2 => AW.cond false (by simp [Int.natCast_inj]) (fun h => by cases h) (fun _ => ?_)
    refine AW.exit ?_
    simp
    refine k1 _ ?_
    have tm : (p : Int).tmod 2 = ((p % 2 : Nat) : Int) := by rw [Int.tmod_eq_emod_of_nonneg (by omega)]; omega
    have hre : ∀ A B : M4, upd (NXH h 69 o r A B) r (some (obM 69 A)) = NXH h 69 o r A A := fun A B => NXH.putR N A B A
    have hgo : ∀ A B : M4, NXH h 69 o r A B o = some (obM 69 A) := fun A B => NXH.go N A B
    have hgr : ∀ A B : M4, NXH h 69 o r A B r = some (obM 69 B) := fun A B => NXH.gr N A B
    rw [← zM_yM' hp]
    refine AW.seq fun _ k1 => ?_
    by_cases he : p % 2 = 0
    · rw [he] at tm
      have e := next_even (mo := mo) (a := a) (b := b) (c := c) hp he
      generalize zM p 3 a b c = A at *
      refine AW.seq fun _ k2 => AW.region [] Θ_ok ?_
      simp [tm]
      refine k2 _ ?_
      refine AW.cond true (by simp [Int.natCast_inj]) (fun _ => ?_) (fun h => by cases h)
      refine AW.seq fun _ kr => AW.region [] Θ_ok ?_
      simp [hgo, hgr, M4.len, M4.take, M4.llen, M4.one, M4.over0, M4.mkL, hre]
      refine kr _ (AW.ret ?_)
      simp [Try.f93, hgr, M4.take, M4.llen, M4.mkL, hre, List.take_of_length_le]
      refine ⟨Nat.le_of_eq rfl, fin A e.symm _ ?_⟩
      exact ⟨rfl, rfl⟩
    have ho1 : p % 2 = 1 := by omega
    rw [ho1] at tm
    refine AW.seq fun _ k2 => AW.region [] Θ_ok ?_
    simp [tm]
    refine k2 _ ?_
    refine AW.cond false (by simp [Int.natCast_inj]) (fun h => by cases h) (fun _ => ?_)
    refine AW.skip ?_
    simp
    refine k1 _ ?_
    refine AW.seq fun _ k1 => ?_
    rw [zM_yM hp ho1]
    refine AW.block ?_
    refine AW.loopI (X := Nat) (fun x => p / 2 ≤ x ∧ x ≤ 3 ∧ ∀ k, p / 2 ≤ k → k < x → ¬ M4.at ⟨a, b, c, false⟩ k < moA mo k) (fun x => ⟨54, [(0, .rop C), (4, .ptr o 0), (6, .ptr r 0), (7, .int .i64 x)], NXH h 69 o r (yM p x a b c) ⟨0, 0, 0, false⟩⟩) (fun x => 3 - x) (p / 2) ⟨Nat.le_refl _, by omega, fun k h1 h2 => by omega⟩ (GStep.eq (by simp) (subH.refl _)) fun x hx => ?_
    obtain ⟨hpx, hx, hfull⟩ := hx
    refine AW.seq fun _ k2 => ?_
    refine AW.seq fun _ k3 => AW.region [] Θ_ok ?_
    simp
    refine k3 _ ?_
    by_cases hlt : x < 3
    · have inc := wrap_succ (show x < 9223372036854775807 by omega)
      have hlt' : (x : Int) < 3 := by omega
      have dx := M4.drop 69 (yM p x a b c) hlt
      have dm := hC x hlt
      have ex := yM_at (p := p) (a := a) (b := b) (c := c) hlt
      have sx := M4.set 69 (yM p x a b c) hlt 0
      have sx2 := M4.set 69 (yM p x a b c) hlt (M4.at ⟨a, b, c, false⟩ x + 1)
      have px := NXH.putO (ty := 69) N (yM p x a b c) ⟨0, 0, 0, false⟩ ((yM p x a b c).put x 0)
      have px2 := NXH.putO (ty := 69) N (yM p x a b c) ⟨0, 0, 0, false⟩ ((yM p x a b c).put x (M4.at ⟨a, b, c, false⟩ x + 1))
      have yx := yM_put (p := p) (a := a) (b := b) (c := c) hlt
      have nx' := next_at (mo := mo) (a := a) (b := b) (c := c) hp ho1 hlt hpx hfull
      have hw : IntKind.i64.wrap (M4.at ⟨a, b, c, false⟩ x + 1) = M4.at ⟨a, b, c, false⟩ x + 1 := by
        refine wrap_id ?_ ?_ <;> unfold M4.at <;> (repeat' split) <;> simp only <;> omega
      obtain ⟨q, hq⟩ : ∃ q, q = M4.at ⟨a, b, c, false⟩ x := ⟨_, rfl⟩
      obtain ⟨Y, hY⟩ : ∃ Y, Y = yM p x a b c := ⟨_, rfl⟩
      rw [← hq] at ex sx2 px2 nx' hw
      rw [← hY] at dx ex sx sx2 px px2 yx nx' ⊢
      refine AW.cond true (by simp [Int.natCast_inj, hlt, hlt']) (fun _ => ?_) (fun h => by cases h)
      refine AW.skip ?_
      simp
      refine k2 _ ?_
      refine AW.seq fun _ k3 => ?_
      refine AW.block ?_
      refine AW.seq fun _ k4 => ?_
      refine AW.seq fun _ k5 => AW.draw [] 11 [] Θ_ok mixed (by kernel_rfl) (by kernel_rfl) ?_
      simp [vcDraw, vcPre, vcTail, callA, isAlloc, isLoad, effOp, obl, obA, mkOK, valA, hgo, dx, dm, ex, hlt, hlt']
      refine k5 _ ?_
      by_cases c1 : q < moA mo x
      · refine AW.cond true (by simp [Int.natCast_inj, c1]) (fun _ => ?_) (fun h => by cases h)
        refine AW.seq fun _ kr => AW.region [] Θ_ok ?_
        simp [hgo, dx, ex, hw, hlt, hlt', M4.len, sx2, px2]
        refine ⟨by omega, kr _ ?_⟩
        generalize Y.put x (q + 1) = A at *
        refine AW.seq fun _ kr => AW.region [] Θ_ok ?_
        simp [hgo, hgr, M4.len, M4.take, M4.llen, M4.one, M4.over0, M4.mkL, hre]
        refine kr _ (AW.ret ?_)
        simp [Try.f93, hgr, M4.take, M4.llen, M4.mkL, hre, List.take_of_length_le]
        refine ⟨Nat.le_of_eq rfl, fin A (nx' c1).symm _ ?_⟩
        exact ⟨rfl, rfl⟩
      · have c2 := Int.not_lt.1 c1
        refine AW.cond false (by simp [Int.natCast_inj, c1, c2]) (fun h => by cases h) (fun _ => ?_)
        refine AW.skip ?_
        simp
        refine k4 _ ?_
        refine AW.region [] Θ_ok ?_
        simp [hgo, M4.len, sx, px, hlt, hlt']
        refine ⟨by omega, k3 _ ?_⟩
        refine AW.region [] Θ_ok ?_
        simp
        exact ⟨x + 1, ⟨by omega, by omega, fun k h1 h2 => by
          by_cases e : k = x
          · subst e; rw [← hq]; exact Int.not_lt.1 c1
          · exact Int.not_lt.1 (hfull k h1 (by omega))⟩, by omega, GStep.eq (by simp [inc]) (subH_of_eq (by simp only [yx]))⟩
    obtain rfl : x = 3 := by omega
    refine AW.cond false (by simp [Int.natCast_inj]) (fun h => by cases h) (fun _ => ?_)
    refine AW.exit ?_
    simp
    refine k1 _ ?_
    have e := next_top (mo := mo) (a := a) (b := b) (c := c) hp ho1 hfull
    generalize yM p 3 a b c = Y at *
    have ht : ∀ A B : M4, upd (NXH h 69 o r A B) r (some (obM 69 ⟨0, 0, 0, true⟩)) = NXH h 69 o r A ⟨0, 0, 0, true⟩ := fun A B => NXH.putR N A B _
    refine AW.seq fun _ kr => AW.region [] Θ_ok ?_
    simp [hgo, hgr, setAt, fillA, obM_mk, ht]
    refine kr _ (AW.ret ?_)
    simp [Try.f93, hgr]
    exact Fin.gv (GV.sub (HL.sub N)) (Fin.refl ⟨by rw [← e]; rfl, rfl⟩)
end Go.Par
