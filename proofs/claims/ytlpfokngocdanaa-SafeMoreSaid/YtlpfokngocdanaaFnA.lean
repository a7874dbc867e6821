import Derived.Test.YtlpfokngocdanaaTy
set_option linter.unusedSimpArgs false
namespace Go.Par
open Go.Proofs

theorem pre_has (in_ : List Bool) (v : Int) (h0 : 0 ≤ v) : Pure Try.prog 46 [.ro false (bools in_), .int .i64 v] (.bool (hasI in_ v)) := by
  intro h
  refine AC.body Θ_ok Try.func46 rfl rfl (Nat.le_of_ble_eq_true rfl) ?_
  refine AW.seq fun K hK => AW.region [] Θ_ok ?_
  simp
  refine hK _ ?_
  clear hK K
  refine AW.seq fun K hK => AW.region [] Θ_ok ?_
  by_cases hv : v < in_.length
  · have hn : v.toNat < in_.length := by omega
    simp [hv, h0, hn]
    refine hK _ (AW.ret ?_)
    simp [Try.f46]
    exact Fin.refl ⟨by simp [hasI, hn], rfl⟩
  · have hn : in_.length ≤ v.toNat := by omega
    simp [hv]
    refine hK _ (AW.ret ?_)
    simp [Try.f46]
    exact Fin.refl ⟨by simp [hasI, hn], rfl⟩

theorem pre_each (g : G) (F : FuncId) (cap : List AV) (p : Nat → Bool) (hn : g.owner.length ≤ 17592186044416) (hp : ∀ v : Nat, v < g.owner.length → Pure Try.prog F ([.int .i64 v] ++ cap) (.bool (p v))) :
    Pure Try.prog 44 [g.av, .clo F cap] (.ro true (bools (tab g.owner.length p))) := by
  intro h
  refine AC.body Θ_ok Try.func44 rfl rfl (Nat.le_of_ble_eq_true rfl) ?_
  refine AW.seq fun K hK => AW.region [] Θ_ok ?_
  simp
  refine hK _ ?_
  clear hK K
  refine AW.seq fun K hK => AW.region [10] Θ_ok ?_
  simp
  refine ⟨by omega, fun o ho => hK _ ?_⟩
  clear hK K
  rw [replicate_tab, flat_tab (fun _ _ => rfl)]
  refine AW.seq fun K hK => ?_
  refine AW.seq fun K2 hK2 => AW.region [] Θ_ok ?_
  simp
  refine hK2 _ ?_
  clear hK2 K2
  refine AW.block ?_
  refine AW.loopI (X := Nat) (fun x => x ≤ g.owner.length) (fun x => ⟨24, [(13, .int .i64 x), (12, .int .i64 g.owner.length), (5, .mu o g.owner.length), (1, .clo F cap)],
    upd h o (some ⟨tab g.owner.length fun i => .bool (if i < x then p i else false), 4, 1, true⟩)⟩) (fun x => g.owner.length - x) 0 (Nat.zero_le _) (GStep.eq (by simp) ?_) ?_
  · simp; exact fun _ _ q => q
  · intro x hx
    refine AW.seq fun K2 hK2 => AW.region [] Θ_ok ?_
    simp
    refine hK2 _ ?_
    clear hK2 K2
    by_cases hlt : x < g.owner.length
    · refine AW.seq fun K2 hK2 => AW.cond true (by simp [hlt]) (fun _ => ?_) (fun h => by cases h)
      refine AW.skip ?_
      simp
      refine hK2 _ ?_
      clear hK2 K2
      refine AW.seq fun K2 hK2 => AW.block ?_
      refine AW.seq fun K3 hK3 => AW.region [] Θ_ok ?_
      simp
      refine hK3 _ ?_
      clear hK3 K3
      refine AW.region [] Θ_ok ?_
      simp [hlt]
      refine (hp x hlt).use (by simp) ?_
      simp
      refine ⟨by omega, hK2 _ ?_⟩
      clear hK2 K2
      refine AW.region [] Θ_ok ?_
      simp
      refine ⟨x + 1, by omega, by omega, GStep.eq ?_ ?_⟩
      · simp [wrap_succ (show x < 9223372036854775807 by omega)]
      · rw [set_tab]
        refine subH_of_eq (congrArg (fun c => upd h o (some ⟨c, 4, 1, true⟩)) (tab_congr fun i hi => ?_))
        by_cases e : i = x
        · simp [e]
        · by_cases h1 : i < x
          · simp [e, h1, show i < x + 1 by omega]
          · simp [e, h1, show ¬ i < x + 1 by omega]
    · obtain rfl : x = g.owner.length := by omega
      refine AW.seq fun K2 hK2 => AW.cond false (by simp) (fun h => by cases h) (fun _ => ?_)
      refine AW.exit ?_
      simp
      refine hK _ ?_
      refine AW.seq fun K hK => AW.region [] Θ_ok ?_
      simp
      refine hK _ (AW.ret ?_)
      simp [Try.f44]
      refine Fin.freeze (k := true) (upd_same _ _ _) (fun _ => rfl) rfl (by simp) (fun u hu => ?_) h (by simp [upd_none_id ho]; exact fun _ _ q => q) ⟨?_, rfl⟩
      · simp only [mem_tab] at hu
        obtain ⟨i, _, rfl⟩ := hu
        rfl
      · simp only [bools, map_tab]
        congr 1
        exact tab_congr fun i hi => by simp [hi]

/-- In how far a player can force a step from 'v'. -/
def forceP (g : G) (who : Int) (in_ : List Bool) (v : Nat) : Bool :=
  if g.owner.getD v 0 = who then (g.next.getD v []).any (hasI in_) else (g.next.getD v []).all (hasI in_)

theorem pre_Not1 (in_ : List Bool) (v : Nat) : Pure Try.prog 53 [.int .i64 v, .rop [.ro false (bools in_)]] (.bool (!hasN in_ v)) := by
  intro h
  refine AC.body Θ_ok Try.func53 rfl rfl (Nat.le_of_ble_eq_true rfl) ?_
  refine AW.seq fun K1 k1 => AW.region [] Θ_ok ?_
  simp
  refine k1 _ ?_
  refine AW.seq fun K1 k1 => AW.region [] Θ_ok ?_
  simp
  refine (pre_has in_ v (by omega)).use (by simp) ?_
  simp
  refine k1 _ (AW.ret ?_)
  simp [Try.f53]
  exact Fin.refl ⟨rfl, rfl⟩

theorem pre_And1 (a b : List Bool) (v : Nat) : Pure Try.prog 54 [.int .i64 v, .rop [.ro false (bools a)], .rop [.ro false (bools b)]] (.bool (hasN a v && hasN b v)) := by
  intro h
  refine AC.body Θ_ok Try.func54 rfl rfl (Nat.le_of_ble_eq_true rfl) ?_
  refine AW.seq fun K1 k1 => AW.region [] Θ_ok ?_
  simp
  refine k1 _ ?_
  refine AW.seq fun K1 k1 => AW.region [] Θ_ok ?_
  simp
  refine (pre_has a v (by omega)).use (by simp) ?_
  cases ha : hasN a v <;> simp [ha]
  · refine k1 _ (AW.ret ?_)
    simp [Try.f54]
    exact Fin.refl ⟨by simp [ha], rfl⟩
  · refine (pre_has b v (by omega)).use (by simp) ?_
    simp
    refine k1 _ (AW.ret ?_)
    simp [Try.f54]
    exact Fin.refl ⟨by simp [ha], rfl⟩

theorem pre_Or1 (a b : List Bool) (v : Nat) : Pure Try.prog 45 [.int .i64 v, .rop [.ro false (bools a)], .rop [.ro false (bools b)]] (.bool (hasN a v || hasN b v)) := by
  intro h
  refine AC.body Θ_ok Try.func45 rfl rfl (Nat.le_of_ble_eq_true rfl) ?_
  refine AW.seq fun K1 k1 => AW.region [] Θ_ok ?_
  simp
  refine k1 _ ?_
  refine AW.seq fun K1 k1 => AW.region [] Θ_ok ?_
  simp
  refine (pre_has a v (by omega)).use (by simp) ?_
  cases ha : hasN a v <;> simp [ha]
  · refine (pre_has b v (by omega)).use (by simp) ?_
    simp
    refine k1 _ (AW.ret ?_)
    simp [Try.f45]
    exact Fin.refl ⟨by simp [ha], rfl⟩
  · refine k1 _ (AW.ret ?_)
    simp [Try.f45]
    exact Fin.refl ⟨by simp [ha], rfl⟩

def notL (g : G) (in_ : List Bool) : List Bool := tab g.owner.length fun v => !hasN in_ v
def andL (g : G) (a b : List Bool) : List Bool := tab g.owner.length fun v => hasN a v && hasN b v
def orL (g : G) (a b : List Bool) : List Bool := tab g.owner.length fun v => hasN a v || hasN b v
def forceL (g : G) (who : Int) (in_ : List Bool) : List Bool := tab g.owner.length (forceP g who in_)

theorem pre_Not (g : G) (in_ : List Bool) (hn : g.owner.length ≤ 17592186044416) : Pure Try.prog 32 [g.av, .ro false (bools in_)] (.ro true (bools (notL g in_))) := by
  intro h
  refine AC.body Θ_ok Try.func32 rfl rfl (Nat.le_of_ble_eq_true rfl) ?_
  refine AW.seq fun K1 k1 => AW.region [] Θ_ok ?_
  simp
  refine k1 _ ?_
  refine AW.seq fun K1 k1 => AW.region [] Θ_ok ?_
  simp
  refine (pre_each g 53 [.rop [.ro false (bools in_)]] (fun v => !hasN in_ v) hn (fun v _ => pre_Not1 in_ v)).use (by simp [G.av]) ?_
  simp
  refine k1 _ (AW.ret ?_)
  simp [Try.f32]
  exact Fin.refl ⟨by simp [notL], rfl⟩

theorem pre_And (g : G) (a b : List Bool) (hn : g.owner.length ≤ 17592186044416) : Pure Try.prog 33 [g.av, .ro false (bools a), .ro false (bools b)] (.ro true (bools (andL g a b))) := by
  intro h
  refine AC.body Θ_ok Try.func33 rfl rfl (Nat.le_of_ble_eq_true rfl) ?_
  refine AW.seq fun K1 k1 => AW.region [] Θ_ok ?_
  simp
  refine k1 _ ?_
  refine AW.seq fun K1 k1 => AW.region [] Θ_ok ?_
  simp
  refine (pre_each g 54 [.rop [.ro false (bools a)], .rop [.ro false (bools b)]] (fun v => hasN a v && hasN b v) hn (fun v _ => pre_And1 a b v)).use (by simp [G.av]) ?_
  simp
  refine k1 _ (AW.ret ?_)
  simp [Try.f33]
  exact Fin.refl ⟨by simp [andL], rfl⟩

theorem pre_Or (g : G) (a b : List Bool) (hn : g.owner.length ≤ 17592186044416) : Pure Try.prog 19 [g.av, .ro false (bools a), .ro false (bools b)] (.ro true (bools (orL g a b))) := by
  intro h
  refine AC.body Θ_ok Try.func19 rfl rfl (Nat.le_of_ble_eq_true rfl) ?_
  refine AW.seq fun K1 k1 => AW.region [] Θ_ok ?_
  simp
  refine k1 _ ?_
  refine AW.seq fun K1 k1 => AW.region [] Θ_ok ?_
  simp
  refine (pre_each g 45 [.rop [.ro false (bools a)], .rop [.ro false (bools b)]] (fun v => hasN a v || hasN b v) hn (fun v _ => pre_Or1 a b v)).use (by simp [G.av]) ?_
  simp
  refine k1 _ (AW.ret ?_)
  simp [Try.f19]
  exact Fin.refl ⟨by simp [orL], rfl⟩

theorem countP_pos_any {α : Type} (p : α → Bool) (l : List α) : decide (0 < l.countP p) = l.any p := by
  rw [Bool.eq_iff_iff]; simp [List.countP_pos_iff]
theorem countP_all {α : Type} (p : α → Bool) (l : List α) : ((l.countP p : Int) == l.length) = l.all p := by
  rw [Bool.eq_iff_iff]; simp only [beq_iff_eq, Int.natCast_inj, List.countP_eq_length, List.all_eq_true]

theorem pre_Force1 (g : G) (who : Int) (in_ : List Bool) (v : Nat) (hv : v < g.owner.length) (hv' : v < g.next.length) (hr : ∀ w ∈ g.next[v], 0 ≤ w) (hl : g.next[v].length ≤ 17592186044416) :
    Pure Try.prog 52 [.int .i64 v, .rop [.ro false (ints g.owner), .ro false (rows g.next)], .rop [.ro false (bools in_)], .rop [.int .i64 who]] (.bool (forceP g who in_ v)) := by
  intro h
  refine AC.body Θ_ok Try.func52 rfl rfl (Nat.le_of_ble_eq_true rfl) ?_
  refine AW.seq fun K1 k1 => AW.region [] Θ_ok ?_
  simp
  refine k1 _ ?_
  refine AW.seq fun K1 k1 => AW.region [] Θ_ok ?_
  simp
  refine k1 _ ?_
  refine AW.seq fun K1 k1 => ?_
  refine AW.seq fun K2 k2 => AW.region [] Θ_ok ?_
  simp [hv']
  refine k2 _ ?_
  refine AW.block ?_
  refine AW.loopI (X := Nat) (fun x => x ≤ g.next[v].length) (fun x => ⟨42, [(15, .int .i64 x), (14, .int .i64 g.next[v].length), (13, .ro false (ints g.next[v])), (6, .int .i64 ((g.next[v].take x).countP (hasI in_) : Nat)),
    (0, .int .i64 v), (1, .rop [.ro false (ints g.owner), .ro false (rows g.next)]), (2, .rop [.ro false (bools in_)]), (3, .rop [.int .i64 who])], h⟩) (fun x => g.next[v].length - x) 0 (Nat.zero_le _) (GStep.eq (by simp) (subH.refl _)) fun x hx => ?_
  refine AW.seq fun K2 k2 => AW.region [] Θ_ok ?_
  simp
  refine k2 _ ?_
  by_cases hlt : x < g.next[v].length
  · refine AW.seq fun K2 k2 => AW.cond true (by simp [hlt]) (fun _ => ?_) (fun h => by cases h)
    refine AW.skip ?_
    simp
    refine k2 _ ?_
    refine AW.seq fun K2 k2 => ?_
    refine AW.block ?_
    refine AW.seq fun K3 k3 => AW.region [] Θ_ok ?_
    simp [hlt]
    refine k3 _ ?_
    refine AW.seq fun K3 k3 => AW.region [] Θ_ok ?_
    simp
    refine (pre_has in_ g.next[v][x] (hr _ (List.getElem_mem _))).use (by simp) ?_
    refine k3 _ ?_
    have hstep : (g.next[v].take (x + 1)).countP (hasI in_) = (g.next[v].take x).countP (hasI in_) + if hasI in_ g.next[v][x] then 1 else 0 := by
      rw [List.take_succ_eq_append_getElem hlt, List.countP_append]
      simp [List.countP_cons]
    have hle : (g.next[v].take x).countP (hasI in_) ≤ x := Nat.le_trans List.countP_le_length (by simp; omega)
    cases hb : hasI in_ g.next[v][x]
    · refine AW.cond false (by simp [hb]) (fun h => by cases h) (fun _ => ?_)
      refine AW.skip ?_
      simp
      refine k2 _ ?_
      refine AW.region [] Θ_ok ?_
      simp
      refine ⟨x + 1, by omega, by omega, GStep.eq ?_ (subH.refl _)⟩
      simp [wrap_succ (show x < 9223372036854775807 by omega), hstep, hb]
    · refine AW.cond true (by simp [hb]) (fun _ => ?_) (fun h => by cases h)
      refine AW.region [] Θ_ok ?_
      simp
      refine k2 _ ?_
      refine AW.region [] Θ_ok ?_
      simp
      refine ⟨x + 1, by omega, by omega, GStep.eq ?_ (subH.refl _)⟩
      have := wrap_succ (show (g.next[v].take x).countP (hasI in_) < 9223372036854775807 by omega)
      simp [wrap_succ (show x < 9223372036854775807 by omega), hstep, hb, this]
  · obtain rfl : x = g.next[v].length := by omega
    refine AW.seq fun K2 k2 => AW.cond false (by simp) (fun h => by cases h) (fun _ => ?_)
    refine AW.exit ?_
    simp
    refine k1 _ ?_
    refine AW.seq fun K1 k1 => ?_
    refine AW.seq fun K2 k2 => AW.draw [] 7 [] Θ_ok mixed (by kernel_rfl) (by kernel_rfl) ?_
    simp [vcDraw, vcPre, vcTail, callA, isAlloc, isLoad, effOp, obl, obA, hv]
    refine k2 _ ?_
    by_cases ho : g.owner[v] = who
    · refine AW.cond true (by simp [ho]) (fun _ => ?_) (fun h => by cases h)
      refine AW.seq fun K2 k2 => AW.region [] Θ_ok ?_
      simp
      refine k2 _ (AW.ret ?_)
      simp [Try.f52]
      refine Fin.refl ⟨?_, rfl⟩
      have := countP_pos_any (hasI in_) g.next[v]
      simp [forceP, hv, hv', ho, ← this]
    · refine AW.cond false (by simp [ho]) (fun h => by cases h) (fun _ => ?_)
      refine AW.skip ?_
      simp
      refine k1 _ ?_
      refine AW.seq fun K1 k1 => AW.region [] Θ_ok ?_
      simp [hv']
      refine k1 _ (AW.ret ?_)
      simp [Try.f52]
      refine Fin.refl ⟨?_, rfl⟩
      have := countP_all (hasI in_) g.next[v]
      simp [forceP, hv, hv', ho, ← this]

end Go.Par
