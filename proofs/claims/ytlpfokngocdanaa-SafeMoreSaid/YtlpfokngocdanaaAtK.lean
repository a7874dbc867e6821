import Derived.Test.YtlpfokngocdanaaAtJ
set_option linter.unusedSimpArgs false
set_option linter.unusedVariables false
set_option maxRecDepth 8000
set_option maxHeartbeats 1000000
namespace Go.Par
open Go.Proofs

theorem l13_light (g : G) (hf : g.fits) (s : List Bool) : Pure Try.prog 29 [g.av, .ro false (bools s)] (.bool (light12 g s)) := by
  unfold light12
  intro h
  refine AC.body Θ_ok Try.func29 rfl rfl (Nat.le_of_ble_eq_true rfl) ?_
  refine AW.seq fun _ k1 => AW.region [] Θ_ok ?_
  simp
  refine k1 _ ?_
  by_cases h1 : heavyE g = 0
  · by_cases h2 : s.length ≤ 300
    · have h3 : (s.length : Int) ≤ 300 := by omega
      refine AW.seq fun _ k1 => AW.regionAt 2 [] Θ_ok fun B hB => ?_
      simp
      refine (l9_Heavy g hf).use (by simp [G.av]) ?_
      refine hB _ ?_
      clear hB B
      simp [h1, h2, h3]
      refine k1 _ (AW.ret ?_)
      simp [Try.f29]
      exact Fin.refl ⟨by simp [h1, h2], rfl⟩
    · have h3 : ¬ (s.length : Int) ≤ 300 := by omega
      refine AW.seq fun _ k1 => AW.regionAt 2 [] Θ_ok fun B hB => ?_
      simp
      refine (l9_Heavy g hf).use (by simp [G.av]) ?_
      refine hB _ ?_
      clear hB B
      simp [h1, h2, h3]
      refine k1 _ (AW.ret ?_)
      simp [Try.f29]
      exact Fin.refl ⟨by simp [h1, h2], rfl⟩
  · refine AW.seq fun _ k1 => AW.regionAt 2 [] Θ_ok fun B hB => ?_
    simp
    refine (l9_Heavy g hf).use (by simp [G.av]) ?_
    refine hB _ ?_
    clear hB B
    simp [h1]
    refine k1 _ (AW.ret ?_)
    simp [Try.f29]
    exact Fin.refl ⟨by simp [h1], rfl⟩

def ring13 : G := ⟨[0, 1, 1], [[1], [0, 2], []]⟩
theorem ring13_fits : ring13.fits := ⟨by decide, by decide, by decide⟩
theorem ring13_ok : okP ring13 1 := ⟨rfl, .inr rfl⟩
theorem ring13_keep : keepL ring13 1 [true, true, true] = [true, true, false] := by
  rw [keepL, reg_lev]; rfl
theorem ring13_keepA : keepA ring13 1 [true, true, true] = .ro true (bools [true, true, false]) := by rw [keepA, if_pos ring13_ok, ring13_keep]
theorem ring13_wayA : kwayA ring13 1 [true, true, true] = .ro true (ints [-1, 0, -1]) := by
  rw [kwayA, if_pos ring13_ok, kwayL, ring13_keep]; rfl

theorem l13_awake : Pure Try.prog 30 [] (.bool true) := by
  obtain ⟨a, ha⟩ : ∃ a, a = ([true, true, false] : List Bool) := ⟨_, rfl⟩
  obtain ⟨b, hb⟩ : ∃ b, b = ([-1, 0, -1] : List Int) := ⟨_, rfl⟩
  have al : a.length = 3 := by rw [ha]; rfl
  have bl : b.length = 3 := by rw [hb]; rfl
  have a0 : ∀ h, a[0]'h = true := by subst ha; exact fun _ => rfl
  have a1 : ∀ h, a[1]'h = true := by subst ha; exact fun _ => rfl
  have a2 : ∀ h, a[2]'h = false := by subst ha; exact fun _ => rfl
  have b0 : ∀ h, b[0]'h = -1 := by subst hb; exact fun _ => rfl
  have b1 : ∀ h, b[1]'h = 0 := by subst hb; exact fun _ => rfl
  have hA := ring13_keepA
  have hB := ring13_wayA
  rw [← ha] at hA
  rw [← hb] at hB
  clear ha hb
  have sR := safe_Keep ring13 ring13_fits 1 [true, true, true] (by decide)
  have sW := safe_Ways ring13 ring13_fits 1 [true, true, true] (by decide)
  rw [hA] at sR
  rw [hB] at sW
  intro h
  refine AC.body Θ_ok Try.func30 rfl rfl (Nat.le_of_ble_eq_true rfl) ?_
  refine AW.seq fun _ k1 => AW.region [] Θ_ok ?_
  simp
  refine k1 _ ?_
  refine AW.seq fun _ k1 => AW.region [1] Θ_ok ?_
  simp [newA]
  refine ⟨rfl, rfl, rfl, fun o ho => k1 _ ?_⟩
  refine AW.box 1 (o := o) rfl (upd_same _ _ _) ?_
  simp only [upd_upd, upd_none_id ho]
  refine AW.seq fun _ k1 => AW.draw [] 8 [] Θ_ok mixed (by kernel_rfl) (by kernel_rfl) ?_
  simp [vcDraw, vcPre, vcTail, callA, isAlloc, isLoad, effOp, obl, obA, mkOK, valA]
  refine ⟨rfl, _, sR.wk (by simp [G.av, ring13]), ?_⟩
  try simp
  refine ⟨rfl, _, sW.wk (by simp [G.av, ring13]), ?_⟩
  try simp
  refine k1 _ ?_
  refine AW.seq fun _ kr => AW.region [] Θ_ok ?_
  simp [al, bl, a0, a1, a2, b0, b1]
  refine kr _ (AW.ret ?_)
  simp [Try.f30]
  exact Fin.refl ⟨rfl, rfl⟩

/-! ### What is kept: plain laws -/
section
variable {g : G} {who : Int} {a b : List Bool} {v : Nat}
theorem has_keep (hv : v < g.owner.length) : hasN (keepL g who a) v = !hasN (regL g (1 - who) (notL g a)) v := has_not hv
theorem not_not' {l : List Bool} (hl : l.length = g.owner.length) : notL g (notL g l) = l := by
  refine (tab_ext hl fun v hv => ?_).symm
  have hl' : v < l.length := by omega
  rw [has_not hv]
  simp [hasN, hl']
theorem keep_keep (g : G) (who : Int) (a : List Bool) : keepL g who (keepL g who a) = keepL g who a := by
  have e : notL g (keepL g who a) = regL g (1 - who) (notL g a) := not_not' (regL_len _ _ _)
  unfold keepL at e ⊢
  rw [e, reg_reg]
theorem keep_in (hv : v < g.owner.length) (h : hasN (keepL g who a) v = true) : hasN a v = true := by
  rw [has_keep hv, Bool.not_eq_true'] at h
  have := (keep_who hv h).1
  rw [has_not hv] at this
  simpa using this
theorem keep_mono (hm : mayE g = 0) (h : ∀ v, v < g.owner.length → hasN a v = true → hasN b v = true) (hv : v < g.owner.length) (q : hasN (keepL g who a) v = true) : hasN (keepL g who b) v = true := by
  rw [has_keep hv, Bool.not_eq_true'] at q ⊢
  cases r : hasN (regL g (1 - who) (notL g b)) v with
  | false => rfl
  | true =>
    rw [reg_lev] at r
    have := lev_sub hm (who := 1 - who) (a := notL g b) (b := notL g a) (fun u hu hq => by
      rw [has_not hu] at hq ⊢
      cases c : hasN a u with
      | false => rfl
      | true => rw [h u hu c] at hq; cases hq) g.owner.length v hv r
    rw [reg_lev, this] at q; cases q
theorem keep_nil (hv : v < g.owner.length) : hasN (keepL g who []) v = false := by
  cases h : hasN (keepL g who []) v with
  | false => rfl
  | true => have := keep_in hv h; simp [hasN] at this
/-- From where one keeps: the other one goes nowhere else, and one has a way. -/
theorem keep_next (hm : mayE g = 0) (hw : who = 0 ∨ who = 1) (hv : v < g.owner.length) (h : hasN (keepL g who a) v = true) :
    (ow g v ≠ who → ∀ w ∈ nx g v, hasN (keepL g who a) w.toNat = true) ∧ (ow g v = who → ∃ w ∈ nx g v, hasN (keepL g who a) w.toNat = true) := by
  have hr := h
  rw [has_keep hv, Bool.not_eq_true'] at hr
  obtain ⟨_, q1, q2⟩ := keep_who hv hr
  have ho := ow_ok hm hv
  have hk : ∀ w ∈ nx g v, hasN (keepL g who a) w.toNat = !hasN (regL g (1 - who) (notL g a)) w.toNat := fun w hw => by
    obtain ⟨w0, w1⟩ := (nx_ok hm hv).2 w hw
    exact has_keep (by omega)
  refine ⟨fun hne w hwm => ?_, fun he => ?_⟩
  · have := q1 (by omega)
    rw [List.countP_eq_length] at this
    rw [hk w hwm]; exact this w hwm
  · have := q2 (by omega)
    obtain ⟨w, hwm, q⟩ := List.countP_pos_iff.1 (Nat.pos_of_ne_zero this)
    exact ⟨w, hwm, by rw [hk w hwm]; exact q⟩
end
end Go.Par
