import Derived.Test.YtdicfaplohdopaaFnE
set_option linter.unusedSimpArgs false
set_option maxRecDepth 8000
namespace Go.Par
open Go.Proofs

theorem forceA_ok {g : G} {who : Int} {in_ : List Bool} (hm : mayE g = 0) (hw : who = 0 ∨ who = 1) : forceA g who in_ = .ro true (bools (forceL g who in_)) := if_pos ⟨hm, hw⟩

theorem any_or {α : Type} (l : List α) (p q r : α → Bool) (h : ∀ x ∈ l, r x = (p x || q x)) : l.any r = (l.any p || l.any q) := by
  induction l with
  | nil => rfl
  | cons a l ih =>
    rw [List.any_cons, List.any_cons, List.any_cons, h a (by simp), ih fun x hx => h x (by simp [hx])]
    cases p a <;> cases q a <;> cases l.any p <;> cases l.any q <;> rfl
theorem all_and {α : Type} (l : List α) (p q r : α → Bool) (h : ∀ x ∈ l, r x = (p x && q x)) : l.all r = (l.all p && l.all q) := by
  induction l with
  | nil => rfl
  | cons a l ih =>
    rw [List.all_cons, List.all_cons, List.all_cons, h a (by simp), ih fun x hx => h x (by simp [hx])]
    cases p a <;> cases q a <;> cases l.all p <;> cases l.all q <;> rfl

theorem grows {g : G} (hm : mayE g = 0) (a b : List Bool) {who : Int} {v : Nat} (hv : v < g.owner.length) :
    (g.owner[v] = who → forceP g who (orL g a b) v = (forceP g who a v || forceP g who b v) ∧ (forceP g who (andL g a b) v = true → forceP g who a v = true ∧ forceP g who b v = true)) ∧
    (¬ g.owner[v] = who → forceP g who (andL g a b) v = (forceP g who a v && forceP g who b v) ∧ ((forceP g who a v = true ∨ forceP g who b v = true) → forceP g who (orL g a b) v = true)) := by
  have hv' : v < g.next.length := by have := (may_ok hm).2.1; omega
  obtain ⟨_, hr⟩ := may_row hm hv hv'
  have ho : ∀ w ∈ g.next[v], hasI (orL g a b) w = (hasI a w || hasI b w) := by
    intro w hw
    obtain ⟨h0, h1⟩ := hr w hw
    rw [orL, hasI_tab h0 h1]
    rfl
  have hn : ∀ w ∈ g.next[v], hasI (andL g a b) w = (hasI a w && hasI b w) := by
    intro w hw
    obtain ⟨h0, h1⟩ := hr w hw
    rw [andL, hasI_tab h0 h1]
    rfl
  unfold forceP
  simp only [List.getD_eq_getElem?_getD, List.getElem?_eq_getElem hv, List.getElem?_eq_getElem hv', Option.getD_some]
  refine ⟨fun e => ?_, fun e => ?_⟩
  · simp only [if_pos e]
    refine ⟨any_or _ _ _ _ ho, fun h => ?_⟩
    obtain ⟨w, hw, hh⟩ := List.any_eq_true.1 h
    rw [hn w hw, Bool.and_eq_true] at hh
    exact ⟨List.any_eq_true.2 ⟨w, hw, hh.1⟩, List.any_eq_true.2 ⟨w, hw, hh.2⟩⟩
  · simp only [if_neg e]
    refine ⟨all_and _ _ _ _ hn, fun h => List.all_eq_true.2 fun w hw => ?_⟩
    rw [ho w hw, Bool.or_eq_true]
    exact h.imp (fun h => List.all_eq_true.1 h w hw) (fun h => List.all_eq_true.1 h w hw)

theorem law_PreGrows (g : G) (hg : g.wide) (p : Int) (_ : DK.fits .int p) (la : List Bool) (_ : (DK.sl .bool).fits la) (lb : List Bool) (_ : (DK.sl .bool).fits lb) : Pure Try.prog 5 [g.av, .int .i64 p, .ro false (bools la), .ro false (bools lb)] (.bool true) := by
  have hf := hg.f
  intro h
  refine AC.body Θ_ok Try.func5 rfl rfl (Nat.le_of_ble_eq_true rfl) ?_
  refine AW.seq fun _ k1 => AW.region [] Θ_ok ?_
  simp
  refine k1 _ ?_
  refine AW.seq fun _ k1 => ?_
  by_cases h1 : lightB g [la, lb] = true ∧ mayE g = 0
  · obtain ⟨h1, hm⟩ := h1
    refine AW.seq fun _ k2 => AW.region [] Θ_ok ?_
    simp
    refine ⟨rfl, ?_⟩
    refine (l11_light g hf [la, lb] (by simp)).use (by simp [G.av]) ?_
    try simp [h1]
    refine (r9_May g hf).use (by simp [G.av]) ?_
    try simp [hm]
    refine k2 _ ?_
    refine AW.cond false (by simp [Int.natCast_inj]) (fun h => by cases h) (fun _ => ?_)
    refine AW.skip ?_
    simp
    refine k1 _ ?_
    refine AW.seq fun _ k1 => AW.region [] Θ_ok ?_
    simp
    refine k1 _ ?_
    have hw := who2_cases p
    change AW _ _ _ ⟨_, (1, .int .i64 (who2 p)) :: _, _⟩
    generalize who2 p = W at hw
    have eA : (forceL g W la).length = g.owner.length := length_tab _ _
    have eB : (forceL g W lb).length = g.owner.length := length_tab _ _
    have eC : (forceL g W (andL g la lb)).length = g.owner.length := length_tab _ _
    have eD : (forceL g W (orL g la lb)).length = g.owner.length := length_tab _ _
    have hG : ∀ v (h1 : v < (forceL g W la).length) (h2 : v < (forceL g W lb).length) (h3 : v < (forceL g W (andL g la lb)).length) (h4 : v < (forceL g W (orL g la lb)).length) (hv : v < g.owner.length),
        (g.owner[v] = W → (forceL g W (orL g la lb))[v] = ((forceL g W la)[v] || (forceL g W lb)[v]) ∧ ((forceL g W (andL g la lb))[v] = true → (forceL g W la)[v] = true ∧ (forceL g W lb)[v] = true)) ∧
        (¬ g.owner[v] = W → (forceL g W (andL g la lb))[v] = ((forceL g W la)[v] && (forceL g W lb)[v]) ∧ (((forceL g W la)[v] = true ∨ (forceL g W lb)[v] = true) → (forceL g W (orL g la lb))[v] = true)) := by
      intro v h1 h2 h3 h4 hv
      simp only [forceL, getElem_tab]
      exact grows hm la lb hv
    have fA := pre_Force g hf W la
    have fB := pre_Force g hf W lb
    have fC := pre_Force g hf W (andL g la lb)
    have fD := pre_Force g hf W (orL g la lb)
    rw [forceA_ok hm hw] at fA fB fC fD
    generalize forceL g W la = A at eA fA hG
    generalize forceL g W lb = B at eB fB hG
    generalize forceL g W (andL g la lb) = C at eC fC hG
    generalize forceL g W (orL g la lb) = D at eD fD hG
    refine AW.seq fun _ k1 => AW.draw [] 10 [] Θ_ok mixed (by kernel_rfl) (by kernel_rfl) ?_
    simp [vcDraw, vcPre, vcAllocs, vcTail, callA, isAlloc, isLoad, effOp, obl, obA]
    refine ⟨_, fA.wk (by simp [G.av]), ?_⟩
    try simp
    refine ⟨_, fB.wk (by simp [G.av]), ?_⟩
    try simp
    refine k1 _ ?_
    refine AW.seq fun _ k1 => AW.draw [] 16 [] Θ_ok mixed (by kernel_rfl) (by kernel_rfl) ?_
    simp [vcDraw, vcPre, vcAllocs, vcTail, callA, isAlloc, isLoad, effOp, obl, obA]
    refine ⟨_, (pre_And g la lb hf.owner).wk (by simp [G.av]), ?_⟩
    try simp
    refine ⟨_, fC.wk (by simp [G.av]), ?_⟩
    try simp
    refine ⟨_, (pre_Or g la lb hf.owner).wk (by simp [G.av]), ?_⟩
    try simp
    refine ⟨_, fD.wk (by simp [G.av]), ?_⟩
    try simp
    refine k1 _ ?_
    refine AW.seq fun _ k1 => ?_
    refine AW.seq fun _ k2 => AW.region [] Θ_ok ?_
    simp [eA, eB, eC, eD]
    refine k2 _ ?_
    refine AW.cond false (by simp [Int.natCast_inj]) (fun h => by cases h) (fun _ => ?_)
    refine AW.skip ?_
    simp
    refine k1 _ ?_
    refine AW.seq fun _ k1 => ?_
    refine AW.seq fun _ k2 => AW.region [] Θ_ok ?_
    simp
    refine k2 _ ?_
    refine AW.block ?_
    refine AW.loopI (X := Nat) (fun x => x ≤ A.length) (fun x => ⟨173, [(81, .int .i64 x), (80, .int .i64 A.length), (9, .ro true (bools A)), (10, .ro true (bools B)), (11, .ro true (bools C)), (12, .ro true (bools D)), (1, .int .i64 W), (4, .rop [.ro false (ints g.owner), .ro false (rows g.next)])], h⟩) (fun x => A.length - x) 0 (Nat.zero_le _) (GStep.eq (by simp [eA]) (subH.refl _)) fun x hx => ?_
    refine AW.seq fun _ k2 => AW.region [] Θ_ok ?_
    simp
    refine k2 _ ?_
    have hb := hf.owner
    by_cases hlt : x < A.length
    · have l2 : x < B.length := by omega
      have l3 : x < C.length := by omega
      have l4 : x < D.length := by omega
      have hv : x < g.owner.length := by omega
      obtain ⟨hG1, hG2⟩ := hG x hlt l2 l3 l4 hv
      have inc := wrap_succ (show x < 9223372036854775807 by omega)
      refine AW.seq fun _ k2 => AW.cond true (by simp [Int.natCast_inj, hlt]) (fun _ => ?_) (fun h => by cases h)
      refine AW.skip ?_
      simp
      refine k2 _ ?_
      refine AW.seq fun _ k2 => ?_
      refine AW.block ?_
      refine AW.seq fun _ k3 => AW.region [] Θ_ok ?_
      simp
      refine k3 _ ?_
      refine AW.seq fun _ k3 => ?_
      by_cases ho : g.owner[x] = W
      all_goals
        cases hA : A[x] <;> cases hB : B[x] <;> cases hC : C[x] <;> cases hD : D[x] <;> simp [ho, hA, hB, hC, hD] at hG1 hG2
      all_goals
        refine AW.seq fun _ k4 => AW.region [] Θ_ok ?_
        simp [hlt, l2, l3, l4, hA, hB, hC, hD]
        refine k4 _ ?_
        refine AW.cond false (by simp [Int.natCast_inj]) (fun h => by cases h) (fun _ => ?_)
        refine AW.skip ?_
        simp
        refine k3 _ ?_
        refine AW.seq fun _ k3 => AW.draw [] 50 [] Θ_ok mixed (by kernel_rfl) (by kernel_rfl) ?_
        simp [vcDraw, vcPre, vcAllocs, vcTail, callA, isAlloc, isLoad, effOp, obl, obA, hlt, l2, l3, l4, hv, hA, hB, hC, hD, ho]
        refine k3 _ ?_
        refine AW.cond false (by simp [Int.natCast_inj]) (fun h => by cases h) (fun _ => ?_)
        refine AW.skip ?_
        simp
        refine k2 _ ?_
        refine AW.region [] Θ_ok ?_
        simp
        exact ⟨x + 1, by omega, by omega, GStep.eq (by simp [inc]) (subH.refl _)⟩
    · obtain rfl : x = A.length := by omega
      refine AW.seq fun _ k2 => AW.cond false (by simp [Int.natCast_inj]) (fun h => by cases h) (fun _ => ?_)
      refine AW.exit ?_
      simp
      refine k1 _ ?_
      refine AW.seq fun _ kr => AW.region [] Θ_ok ?_
      simp
      refine (l11_awake).use (by simp [G.av]) ?_
      try simp
      refine kr _ (AW.ret ?_)
      simp [Try.f5]
      exact Fin.refl ⟨rfl, rfl⟩
  · refine AW.seq fun _ k2 => AW.region [] Θ_ok ?_
    simp
    refine ⟨rfl, ?_⟩
    have h2 : lightB g [la, lb] = false ∨ lightB g [la, lb] = true ∧ ¬ mayE g = 0 := by
      cases e : lightB g [la, lb]
      · exact .inl rfl
      · exact .inr ⟨rfl, fun q => h1 ⟨e, q⟩⟩
    rcases h2 with h2 | ⟨h2, h3⟩
    · refine (l11_light g hf [la, lb] (by simp)).use (by simp [G.av]) ?_
      try simp [h2]
      refine k2 _ ?_
      refine AW.cond true (by simp [Int.natCast_inj]) (fun _ => ?_) (fun h => by cases h)
      refine AW.seq fun _ kr => AW.region [] Θ_ok ?_
      simp
      refine (l11_awake).use (by simp [G.av]) ?_
      try simp
      refine kr _ (AW.ret ?_)
      simp [Try.f5]
      exact Fin.refl ⟨rfl, rfl⟩
    · refine (l11_light g hf [la, lb] (by simp)).use (by simp [G.av]) ?_
      try simp [h2]
      refine (r9_May g hf).use (by simp [G.av]) ?_
      try simp [h3]
      refine k2 _ ?_
      refine AW.cond true (by simp [Int.natCast_inj, h3]) (fun _ => ?_) (fun h => by cases h)
      refine AW.seq fun _ kr => AW.region [] Θ_ok ?_
      simp
      refine (l11_awake).use (by simp [G.av]) ?_
      try simp
      refine kr _ (AW.ret ?_)
      simp [Try.f5]
      exact Fin.refl ⟨rfl, rfl⟩
end Go.Par
