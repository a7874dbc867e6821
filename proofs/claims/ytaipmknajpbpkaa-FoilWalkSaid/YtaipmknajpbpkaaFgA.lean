/- Texts FnA FnB FnC FnD0 FnD FnE FnF, one behind another. -/
import Derived.Test.YtaipmknajpbpkaaTy
import Derived.Test.YtaipmknajpbpkaaMgC
set_option linter.unusedSimpArgs false
namespace Go.Par
open Go.Proofs

theorem pre_has (in_ : List Bool) (v : Int) (h0 : 0 ≤ v) : Pure Try.prog 89 [.ro false (bools in_), .int .i64 v] (.bool (hasI in_ v)) := by
  intro h
  refine AC.body Θ_ok Try.func89 rfl rfl (Nat.le_of_ble_eq_true rfl) ?_
  refine AW.seq fun K hK => AW.region [] Θ_ok ?_
  simp
  refine hK _ ?_
  clear hK K
  refine AW.seq fun K hK => AW.region [] Θ_ok ?_
  by_cases hv : v < in_.length
  · have hn : v.toNat < in_.length := by omega
    simp [hv, h0, hn]
    refine hK _ (AW.ret ?_)
    simp [Try.f89]
    exact Fin.refl ⟨by simp [hasI, hn], rfl⟩
  · have hn : in_.length ≤ v.toNat := by omega
    simp [hv]
    refine hK _ (AW.ret ?_)
    simp [Try.f89]
    exact Fin.refl ⟨by simp [hasI, hn], rfl⟩

theorem pre_each (g : G) (F : FuncId) (cap : List AV) (p : Nat → Bool) (hn : g.owner.length ≤ 17592186044416) (hp : ∀ v : Nat, v < g.owner.length → Pure Try.prog F ([.int .i64 v] ++ cap) (.bool (p v))) :
    Pure Try.prog 87 [g.av, .clo F cap] (.ro true (bools (tab g.owner.length p))) := by
  intro h
  refine AC.body Θ_ok Try.func87 rfl rfl (Nat.le_of_ble_eq_true rfl) ?_
  refine AW.seq fun K hK => AW.region [] Θ_ok ?_
  simp
  refine hK _ ?_
  clear hK K
  refine AW.seq fun K hK => AW.region [10] Θ_ok ?_
  simp
  refine ⟨by omega, fun o ho => hK _ ?_⟩
  clear hK K
  rw [replicate_tab, flat_tab (fun _ _ => rfl)]
  refine AW.seq fun K hK => ?_
  refine AW.seq fun K2 hK2 => AW.region [] Θ_ok ?_
  simp
  refine hK2 _ ?_
  clear hK2 K2
  refine AW.block ?_
  refine AW.loopI (X := Nat) (fun x => x ≤ g.owner.length) (fun x => ⟨24, [(13, .int .i64 x), (12, .int .i64 g.owner.length), (5, .mu o g.owner.length), (1, .clo F cap)],
    upd h o (some ⟨tab g.owner.length fun i => .bool (if i < x then p i else false), 4, 1, true⟩)⟩) (fun x => g.owner.length - x) 0 (Nat.zero_le _) (GStep.eq (by simp) ?_) ?_
  · simp; exact fun _ _ q => q
  · intro x hx
    refine AW.seq fun K2 hK2 => AW.region [] Θ_ok ?_
    simp
    refine hK2 _ ?_
    clear hK2 K2
    by_cases hlt : x < g.owner.length
    · refine AW.seq fun K2 hK2 => AW.cond true (by simp [hlt]) (fun _ => ?_) (fun h => by cases h)
      refine AW.skip ?_
      simp
      refine hK2 _ ?_
      clear hK2 K2
      refine AW.seq fun K2 hK2 => AW.block ?_
      refine AW.seq fun K3 hK3 => AW.region [] Θ_ok ?_
      simp
      refine hK3 _ ?_
      clear hK3 K3
      refine AW.region [] Θ_ok ?_
      simp [hlt]
      refine (hp x hlt).use (by simp) ?_
      simp
      refine ⟨by omega, hK2 _ ?_⟩
      clear hK2 K2
      refine AW.region [] Θ_ok ?_
      simp
      refine ⟨x + 1, by omega, by omega, GStep.eq ?_ ?_⟩
      · simp [wrap_succ (show x < 9223372036854775807 by omega)]
      · rw [set_tab]
        refine subH_of_eq (congrArg (fun c => upd h o (some ⟨c, 4, 1, true⟩)) (tab_congr fun i hi => ?_))
        by_cases e : i = x
        · simp [e]
        · by_cases h1 : i < x
          · simp [e, h1, show i < x + 1 by omega]
          · simp [e, h1, show ¬ i < x + 1 by omega]
    · obtain rfl : x = g.owner.length := by omega
      refine AW.seq fun K2 hK2 => AW.cond false (by simp) (fun h => by cases h) (fun _ => ?_)
      refine AW.exit ?_
      simp
      refine hK _ ?_
      refine AW.seq fun K hK => AW.region [] Θ_ok ?_
      simp
      refine hK _ (AW.ret ?_)
      simp [Try.f87]
      refine Fin.freeze (k := true) (upd_same _ _ _) (fun _ => rfl) rfl (by simp) (fun u hu => ?_) h (by simp [upd_none_id ho]; exact fun _ _ q => q) ⟨?_, rfl⟩
      · simp only [mem_tab] at hu
        obtain ⟨i, _, rfl⟩ := hu
        rfl
      · simp only [bools, map_tab]
        congr 1
        exact tab_congr fun i hi => by simp [hi]

/-- In how far a player can force a step from 'v'. -/
def forceP (g : G) (who : Int) (in_ : List Bool) (v : Nat) : Bool :=
  if g.owner.getD v 0 = who then (g.next.getD v []).any (hasI in_) else (g.next.getD v []).all (hasI in_)

theorem pre_Not1 (in_ : List Bool) (v : Nat) : Pure Try.prog 88 [.int .i64 v, .rop [.ro false (bools in_)]] (.bool (!hasN in_ v)) := by
  intro h
  refine AC.body Θ_ok Try.func88 rfl rfl (Nat.le_of_ble_eq_true rfl) ?_
  refine AW.seq fun K1 k1 => AW.region [] Θ_ok ?_
  simp
  refine k1 _ ?_
  refine AW.seq fun K1 k1 => AW.region [] Θ_ok ?_
  simp
  refine (pre_has in_ v (by omega)).use (by simp) ?_
  simp
  refine k1 _ (AW.ret ?_)
  simp [Try.f88]
  exact Fin.refl ⟨rfl, rfl⟩

theorem pre_And1 (a b : List Bool) (v : Nat) : Pure Try.prog 97 [.int .i64 v, .rop [.ro false (bools a)], .rop [.ro false (bools b)]] (.bool (hasN a v && hasN b v)) := by
  intro h
  refine AC.body Θ_ok Try.func97 rfl rfl (Nat.le_of_ble_eq_true rfl) ?_
  refine AW.seq fun K1 k1 => AW.region [] Θ_ok ?_
  simp
  refine k1 _ ?_
  refine AW.seq fun K1 k1 => AW.region [] Θ_ok ?_
  simp
  refine (pre_has a v (by omega)).use (by simp) ?_
  cases ha : hasN a v <;> simp [ha]
  · refine k1 _ (AW.ret ?_)
    simp [Try.f97]
    exact Fin.refl ⟨by simp [ha], rfl⟩
  · refine (pre_has b v (by omega)).use (by simp) ?_
    simp
    refine k1 _ (AW.ret ?_)
    simp [Try.f97]
    exact Fin.refl ⟨by simp [ha], rfl⟩

theorem pre_Or1 (a b : List Bool) (v : Nat) : Pure Try.prog 100 [.int .i64 v, .rop [.ro false (bools a)], .rop [.ro false (bools b)]] (.bool (hasN a v || hasN b v)) := by
  intro h
  refine AC.body Θ_ok Try.func100 rfl rfl (Nat.le_of_ble_eq_true rfl) ?_
  refine AW.seq fun K1 k1 => AW.region [] Θ_ok ?_
  simp
  refine k1 _ ?_
  refine AW.seq fun K1 k1 => AW.region [] Θ_ok ?_
  simp
  refine (pre_has a v (by omega)).use (by simp) ?_
  cases ha : hasN a v <;> simp [ha]
  · refine (pre_has b v (by omega)).use (by simp) ?_
    simp
    refine k1 _ (AW.ret ?_)
    simp [Try.f100]
    exact Fin.refl ⟨by simp [ha], rfl⟩
  · refine k1 _ (AW.ret ?_)
    simp [Try.f100]
    exact Fin.refl ⟨by simp [ha], rfl⟩

def notL (g : G) (in_ : List Bool) : List Bool := tab g.owner.length fun v => !hasN in_ v
def andL (g : G) (a b : List Bool) : List Bool := tab g.owner.length fun v => hasN a v && hasN b v
def orL (g : G) (a b : List Bool) : List Bool := tab g.owner.length fun v => hasN a v || hasN b v
def forceL (g : G) (who : Int) (in_ : List Bool) : List Bool := tab g.owner.length (forceP g who in_)

theorem pre_Not (g : G) (in_ : List Bool) (hn : g.owner.length ≤ 17592186044416) : Pure Try.prog 64 [g.av, .ro false (bools in_)] (.ro true (bools (notL g in_))) := by
  intro h
  refine AC.body Θ_ok Try.func64 rfl rfl (Nat.le_of_ble_eq_true rfl) ?_
  refine AW.seq fun K1 k1 => AW.region [] Θ_ok ?_
  simp
  refine k1 _ ?_
  refine AW.seq fun K1 k1 => AW.region [] Θ_ok ?_
  simp
  refine (pre_each g 88 [.rop [.ro false (bools in_)]] (fun v => !hasN in_ v) hn (fun v _ => pre_Not1 in_ v)).use (by simp [G.av]) ?_
  simp
  refine k1 _ (AW.ret ?_)
  simp [Try.f64]
  exact Fin.refl ⟨by simp [notL], rfl⟩

theorem pre_And (g : G) (a b : List Bool) (hn : g.owner.length ≤ 17592186044416) : Pure Try.prog 72 [g.av, .ro false (bools a), .ro false (bools b)] (.ro true (bools (andL g a b))) := by
  intro h
  refine AC.body Θ_ok Try.func72 rfl rfl (Nat.le_of_ble_eq_true rfl) ?_
  refine AW.seq fun K1 k1 => AW.region [] Θ_ok ?_
  simp
  refine k1 _ ?_
  refine AW.seq fun K1 k1 => AW.region [] Θ_ok ?_
  simp
  refine (pre_each g 97 [.rop [.ro false (bools a)], .rop [.ro false (bools b)]] (fun v => hasN a v && hasN b v) hn (fun v _ => pre_And1 a b v)).use (by simp [G.av]) ?_
  simp
  refine k1 _ (AW.ret ?_)
  simp [Try.f72]
  exact Fin.refl ⟨by simp [andL], rfl⟩

theorem pre_Or (g : G) (a b : List Bool) (hn : g.owner.length ≤ 17592186044416) : Pure Try.prog 76 [g.av, .ro false (bools a), .ro false (bools b)] (.ro true (bools (orL g a b))) := by
  intro h
  refine AC.body Θ_ok Try.func76 rfl rfl (Nat.le_of_ble_eq_true rfl) ?_
  refine AW.seq fun K1 k1 => AW.region [] Θ_ok ?_
  simp
  refine k1 _ ?_
  refine AW.seq fun K1 k1 => AW.region [] Θ_ok ?_
  simp
  refine (pre_each g 100 [.rop [.ro false (bools a)], .rop [.ro false (bools b)]] (fun v => hasN a v || hasN b v) hn (fun v _ => pre_Or1 a b v)).use (by simp [G.av]) ?_
  simp
  refine k1 _ (AW.ret ?_)
  simp [Try.f76]
  exact Fin.refl ⟨by simp [orL], rfl⟩

theorem countP_pos_any {α : Type} (p : α → Bool) (l : List α) : decide (0 < l.countP p) = l.any p := by
  rw [Bool.eq_iff_iff]; simp [List.countP_pos_iff]
theorem countP_all {α : Type} (p : α → Bool) (l : List α) : ((l.countP p : Int) == l.length) = l.all p := by
  rw [Bool.eq_iff_iff]; simp only [beq_iff_eq, Int.natCast_inj, List.countP_eq_length, List.all_eq_true]

theorem pre_Force1 (g : G) (who : Int) (in_ : List Bool) (v : Nat) (hv : v < g.owner.length) (hv' : v < g.next.length) (hr : ∀ w ∈ g.next[v], 0 ≤ w) (hl : g.next[v].length ≤ 17592186044416) :
    Pure Try.prog 114 [.int .i64 v, .rop [.ro false (ints g.owner), .ro false (rows g.next)], .rop [.ro false (bools in_)], .rop [.int .i64 who]] (.bool (forceP g who in_ v)) := by
  intro h
  refine AC.body Θ_ok Try.func114 rfl rfl (Nat.le_of_ble_eq_true rfl) ?_
  refine AW.seq fun K1 k1 => AW.region [] Θ_ok ?_
  simp
  refine k1 _ ?_
  refine AW.seq fun K1 k1 => AW.region [] Θ_ok ?_
  simp
  refine k1 _ ?_
  refine AW.seq fun K1 k1 => ?_
  refine AW.seq fun K2 k2 => AW.region [] Θ_ok ?_
  simp [hv']
  refine k2 _ ?_
  refine AW.block ?_
  refine AW.loopI (X := Nat) (fun x => x ≤ g.next[v].length) (fun x => ⟨42, [(15, .int .i64 x), (14, .int .i64 g.next[v].length), (13, .ro false (ints g.next[v])), (6, .int .i64 ((g.next[v].take x).countP (hasI in_) : Nat)),
    (0, .int .i64 v), (1, .rop [.ro false (ints g.owner), .ro false (rows g.next)]), (2, .rop [.ro false (bools in_)]), (3, .rop [.int .i64 who])], h⟩) (fun x => g.next[v].length - x) 0 (Nat.zero_le _) (GStep.eq (by simp) (subH.refl _)) fun x hx => ?_
  refine AW.seq fun K2 k2 => AW.region [] Θ_ok ?_
  simp
  refine k2 _ ?_
  by_cases hlt : x < g.next[v].length
  · refine AW.seq fun K2 k2 => AW.cond true (by simp [hlt]) (fun _ => ?_) (fun h => by cases h)
    refine AW.skip ?_
    simp
    refine k2 _ ?_
    refine AW.seq fun K2 k2 => ?_
    refine AW.block ?_
    refine AW.seq fun K3 k3 => AW.region [] Θ_ok ?_
    simp [hlt]
    refine k3 _ ?_
    refine AW.seq fun K3 k3 => AW.region [] Θ_ok ?_
    simp
    refine (pre_has in_ g.next[v][x] (hr _ (List.getElem_mem _))).use (by simp) ?_
    refine k3 _ ?_
    have hstep : (g.next[v].take (x + 1)).countP (hasI in_) = (g.next[v].take x).countP (hasI in_) + if hasI in_ g.next[v][x] then 1 else 0 := by
      rw [List.take_succ_eq_append_getElem hlt, List.countP_append]
      simp [List.countP_cons]
    have hle : (g.next[v].take x).countP (hasI in_) ≤ x := Nat.le_trans List.countP_le_length (by simp; omega)
    cases hb : hasI in_ g.next[v][x]
    · refine AW.cond false (by simp [hb]) (fun h => by cases h) (fun _ => ?_)
      refine AW.skip ?_
      simp
      refine k2 _ ?_
      refine AW.region [] Θ_ok ?_
      simp
      refine ⟨x + 1, by omega, by omega, GStep.eq ?_ (subH.refl _)⟩
      simp [wrap_succ (show x < 9223372036854775807 by omega), hstep, hb]
    · refine AW.cond true (by simp [hb]) (fun _ => ?_) (fun h => by cases h)
      refine AW.region [] Θ_ok ?_
      simp
      refine k2 _ ?_
      refine AW.region [] Θ_ok ?_
      simp
      refine ⟨x + 1, by omega, by omega, GStep.eq ?_ (subH.refl _)⟩
      have := wrap_succ (show (g.next[v].take x).countP (hasI in_) < 9223372036854775807 by omega)
      simp [wrap_succ (show x < 9223372036854775807 by omega), hstep, hb, this]
  · obtain rfl : x = g.next[v].length := by omega
    refine AW.seq fun K2 k2 => AW.cond false (by simp) (fun h => by cases h) (fun _ => ?_)
    refine AW.exit ?_
    simp
    refine k1 _ ?_
    refine AW.seq fun K1 k1 => ?_
    refine AW.seq fun K2 k2 => AW.draw [] 7 [] Θ_ok mixed (by kernel_rfl) (by kernel_rfl) ?_
    simp [vcDraw, vcPre, vcTail, callA, isAlloc, isLoad, effOp, obl, obA, hv]
    refine k2 _ ?_
    by_cases ho : g.owner[v] = who
    · refine AW.cond true (by simp [ho]) (fun _ => ?_) (fun h => by cases h)
      refine AW.seq fun K2 k2 => AW.region [] Θ_ok ?_
      simp
      refine k2 _ (AW.ret ?_)
      simp [Try.f114]
      refine Fin.refl ⟨?_, rfl⟩
      have := countP_pos_any (hasI in_) g.next[v]
      simp [forceP, hv, hv', ho, ← this]
    · refine AW.cond false (by simp [ho]) (fun h => by cases h) (fun _ => ?_)
      refine AW.skip ?_
      simp
      refine k1 _ ?_
      refine AW.seq fun K1 k1 => AW.region [] Θ_ok ?_
      simp [hv']
      refine k1 _ (AW.ret ?_)
      simp [Try.f114]
      refine Fin.refl ⟨?_, rfl⟩
      have := countP_all (hasI in_) g.next[v]
      simp [forceP, hv, hv', ho, ← this]

end Go.Par

set_option linter.unusedSimpArgs false
namespace Go.Par
open Go.Proofs

/-- A row of numbers that rise, each below 'n'. -/
def rise (was : Int) : List Int → Int → Bool
  | [], _ => true
  | v :: r, n => if v ≤ was ∨ n ≤ v then false else rise v r n

theorem graph_row (l : List Int) (n : Int) (hl : l.length ≤ 17592186044416) : Pure Try.prog 80 [.ro false (ints l), .int .i64 n] (.bool (rise (-1) l n)) := by
  intro h
  refine AC.body Θ_ok Try.func80 rfl rfl (Nat.le_of_ble_eq_true rfl) ?_
  refine AW.seq fun K1 k1 => AW.region [] Θ_ok ?_
  simp
  refine k1 _ ?_
  refine AW.seq fun K1 k1 => AW.region [] Θ_ok ?_
  simp
  refine k1 _ ?_
  refine AW.seq fun K1 k1 => ?_
  refine AW.seq fun K2 k2 => AW.region [] Θ_ok ?_
  simp
  refine k2 _ ?_
  refine AW.block ?_
  refine AW.loopI (X := Nat × Int) (fun x => x.1 ≤ l.length ∧ rise x.2 (l.drop x.1) n = rise (-1) l n) (fun x => ⟨24, [(10, .int .i64 x.1), (9, .int .i64 l.length), (8, .ro false (ints l)), (5, .int .i64 x.2), (1, .int .i64 n)], h⟩) (fun x => l.length - x.1) (0, -1) ⟨Nat.zero_le _, rfl⟩ (GStep.eq (by simp) (subH.refl _)) ?_
  rintro ⟨x, was⟩ ⟨hx, hrise⟩
  simp only at hx hrise
  refine AW.seq fun K2 k2 => AW.region [] Θ_ok ?_
  simp
  refine k2 _ ?_
  by_cases hlt : x < l.length
  · rw [List.drop_eq_getElem_cons hlt] at hrise
    refine AW.seq fun K2 k2 => AW.cond true (by simp [hlt]) (fun _ => ?_) (fun h => by cases h)
    refine AW.skip ?_
    simp
    refine k2 _ ?_
    refine AW.seq fun K2 k2 => ?_
    refine AW.block ?_
    refine AW.seq fun K3 k3 => AW.region [] Θ_ok ?_
    simp [hlt]
    refine k3 _ ?_
    refine AW.seq fun K3 k3 => ?_
    by_cases hb : l[x] ≤ was ∨ n ≤ l[x]
    · refine AW.seq fun K4 k4 => AW.region [] Θ_ok ?_
      have hout : rise (-1) l n = false := by rw [← hrise]; simp [rise, hb]
      rcases Decidable.em (l[x] ≤ was) with h1 | h1
      all_goals
        have h2 : l[x] ≤ was ∨ n ≤ l[x] := hb
        simp [h1] at h2 ⊢
        try simp [h2]
        refine k4 _ ?_
        refine AW.cond true (by simp [h2]) (fun _ => ?_) (fun h => by cases h)
        refine AW.seq fun K4 k4 => AW.region [] Θ_ok ?_
        simp
        refine k4 _ (AW.ret ?_)
        simp [Try.f80]
        exact Fin.refl ⟨by rw [hout], rfl⟩
    · have h1 : ¬ l[x] ≤ was := fun h => hb (.inl h)
      have h2 : ¬ n ≤ l[x] := fun h => hb (.inr h)
      refine AW.seq fun K4 k4 => AW.region [] Θ_ok ?_
      simp [h1, h2]
      refine k4 _ ?_
      refine AW.cond false (by simp) (fun h => by cases h) (fun _ => ?_)
      refine AW.skip ?_
      simp
      refine k3 _ ?_
      refine AW.region [] Θ_ok ?_
      simp
      refine k2 _ ?_
      refine AW.region [] Θ_ok ?_
      simp
      refine ⟨x + 1, l[x], ⟨by omega, ?_⟩, by omega, GStep.eq ?_ (subH.refl _)⟩
      · rw [← hrise]; simp [rise, hb]
      · simp [wrap_succ (show x < 9223372036854775807 by omega)]
  · obtain rfl : x = l.length := by omega
    refine AW.seq fun K2 k2 => AW.cond false (by simp) (fun h => by cases h) (fun _ => ?_)
    refine AW.exit ?_
    simp
    refine k1 _ ?_
    refine AW.seq fun K1 k1 => AW.region [] Θ_ok ?_
    simp
    refine k1 _ (AW.ret ?_)
    simp [Try.f80]
    refine Fin.refl ⟨?_, rfl⟩
    rw [← hrise]; simp [rise]

theorem r9_rising (l : List Int) (n : Int) (hl : l.length ≤ 17592186044416) : Pure Try.prog 54 [.ro false (ints l), .int .i64 n] (.bool (rise (-1) l n)) := by
  intro h
  refine AC.body Θ_ok Try.func54 rfl rfl (Nat.le_of_ble_eq_true rfl) ?_
  refine AW.seq fun K1 k1 => AW.region [] Θ_ok ?_
  simp
  refine k1 _ ?_
  refine AW.seq fun K1 k1 => AW.region [] Θ_ok ?_
  simp
  refine k1 _ ?_
  refine AW.seq fun K1 k1 => ?_
  refine AW.seq fun K2 k2 => AW.region [] Θ_ok ?_
  simp
  refine k2 _ ?_
  refine AW.block ?_
  refine AW.loopI (X := Nat × Int) (fun x => x.1 ≤ l.length ∧ rise x.2 (l.drop x.1) n = rise (-1) l n) (fun x => ⟨24, [(10, .int .i64 x.1), (9, .int .i64 l.length), (8, .ro false (ints l)), (5, .int .i64 x.2), (1, .int .i64 n)], h⟩) (fun x => l.length - x.1) (0, -1) ⟨Nat.zero_le _, rfl⟩ (GStep.eq (by simp) (subH.refl _)) ?_
  rintro ⟨x, was⟩ ⟨hx, hrise⟩
  simp only at hx hrise
  refine AW.seq fun K2 k2 => AW.region [] Θ_ok ?_
  simp
  refine k2 _ ?_
  by_cases hlt : x < l.length
  · rw [List.drop_eq_getElem_cons hlt] at hrise
    refine AW.seq fun K2 k2 => AW.cond true (by simp [hlt]) (fun _ => ?_) (fun h => by cases h)
    refine AW.skip ?_
    simp
    refine k2 _ ?_
    refine AW.seq fun K2 k2 => ?_
    refine AW.block ?_
    refine AW.seq fun K3 k3 => AW.region [] Θ_ok ?_
    simp [hlt]
    refine k3 _ ?_
    refine AW.seq fun K3 k3 => ?_
    by_cases hb : l[x] ≤ was ∨ n ≤ l[x]
    · refine AW.seq fun K4 k4 => AW.region [] Θ_ok ?_
      have hout : rise (-1) l n = false := by rw [← hrise]; simp [rise, hb]
      rcases Decidable.em (l[x] ≤ was) with h1 | h1
      all_goals
        have h2 : l[x] ≤ was ∨ n ≤ l[x] := hb
        simp [h1] at h2 ⊢
        try simp [h2]
        refine k4 _ ?_
        refine AW.cond true (by simp [h2]) (fun _ => ?_) (fun h => by cases h)
        refine AW.seq fun K4 k4 => AW.region [] Θ_ok ?_
        simp
        refine k4 _ (AW.ret ?_)
        simp [Try.f54]
        exact Fin.refl ⟨by rw [hout], rfl⟩
    · have h1 : ¬ l[x] ≤ was := fun h => hb (.inl h)
      have h2 : ¬ n ≤ l[x] := fun h => hb (.inr h)
      refine AW.seq fun K4 k4 => AW.region [] Θ_ok ?_
      simp [h1, h2]
      refine k4 _ ?_
      refine AW.cond false (by simp) (fun h => by cases h) (fun _ => ?_)
      refine AW.skip ?_
      simp
      refine k3 _ ?_
      refine AW.region [] Θ_ok ?_
      simp
      refine k2 _ ?_
      refine AW.region [] Θ_ok ?_
      simp
      refine ⟨x + 1, l[x], ⟨by omega, ?_⟩, by omega, GStep.eq ?_ (subH.refl _)⟩
      · rw [← hrise]; simp [rise, hb]
      · simp [wrap_succ (show x < 9223372036854775807 by omega)]
  · obtain rfl : x = l.length := by omega
    refine AW.seq fun K2 k2 => AW.cond false (by simp) (fun h => by cases h) (fun _ => ?_)
    refine AW.exit ?_
    simp
    refine k1 _ ?_
    refine AW.seq fun K1 k1 => AW.region [] Θ_ok ?_
    simp
    refine k1 _ (AW.ret ?_)
    simp [Try.f54]
    refine Fin.refl ⟨?_, rfl⟩
    rw [← hrise]; simp [rise]

/-- May a vertex be? -/
def okV (g : G) (v : Nat) : Bool := (g.owner.getD v 0 == 0 || g.owner.getD v 0 == 1) && rise (-1) (g.next.getD v []) g.owner.length
def mayE (g : G) : Int := if 3000 < g.owner.length then 7 else if g.next.length = g.owner.length then (if (List.range g.owner.length).all (okV g) then 0 else 1) else 1

/-- Of bounds that each thing of memory has. -/
structure G.fits (g : G) : Prop where
  owner : g.owner.length ≤ 17592186044416
  next : g.next.length ≤ 17592186044416
  row : ∀ l ∈ g.next, l.length ≤ 17592186044416

theorem all_of_range {n : Nat} {p : Nat → Bool} (h : ∀ i, i < n → p i = true) : (List.range n).all p = true := by
  rw [List.all_eq_true]; intro i hi; exact h i (by simpa using hi)
theorem not_all_range {n x : Nat} {p : Nat → Bool} (hx : x < n) (h : p x = false) : (List.range n).all p = false := by
  rw [← Bool.not_eq_true, List.all_eq_true]
  intro q; rw [q x (by simpa using hx)] at h; cases h

theorem graph_May (g : G) (hf : g.fits) : Pure Try.prog 50 [g.av] (.int .i64 (mayE g)) := by
  intro h
  refine AC.body Θ_ok Try.func50 rfl rfl (Nat.le_of_ble_eq_true rfl) ?_
  refine AW.seq fun K1 k1 => AW.region [] Θ_ok ?_
  simp
  refine k1 _ ?_
  refine AW.seq fun K1 k1 => ?_
  refine AW.block ?_
  refine AW.seq fun K2 k2 => AW.region [] Θ_ok ?_
  simp
  refine k2 _ ?_
  by_cases h3 : 3000 < g.owner.length
  · refine AW.cond true (by simp; omega) (fun _ => ?_) (fun h => by cases h)
    refine AW.seq fun K2 k2 => AW.region [] Θ_ok ?_
    simp
    refine k2 _ (AW.ret ?_)
    simp [Try.f50]
    exact Fin.refl ⟨by simp [mayE, h3], rfl⟩
  · refine AW.cond false (by simp; omega) (fun h => by cases h) (fun _ => ?_)
    refine AW.seq fun K2 k2 => AW.region [] Θ_ok ?_
    simp
    refine k2 _ ?_
    by_cases hl : g.next.length = g.owner.length
    · refine AW.cond false (by simp [hl]) (fun h => by cases h) (fun _ => ?_)
      refine AW.skip ?_
      simp
      refine k1 _ ?_
      refine AW.seq fun K1 k1 => ?_
      refine AW.seq fun K2 k2 => AW.region [] Θ_ok ?_
      simp
      refine k2 _ ?_
      refine AW.block ?_
      refine AW.loopI (X := Nat) (fun x => x ≤ g.owner.length ∧ ∀ i, i < x → okV g i = true) (fun x => ⟨45, [(21, .int .i64 x), (20, .int .i64 g.owner.length), (19, .ro false (ints g.owner)), (1, .rop [.ro false (ints g.owner), .ro false (rows g.next)])], h⟩) (fun x => g.owner.length - x) 0 ⟨Nat.zero_le _, fun i hi => by omega⟩ (GStep.eq (by simp) (subH.refl _)) ?_
      rintro x ⟨hx, hok⟩
      refine AW.seq fun K2 k2 => AW.region [] Θ_ok ?_
      simp
      refine k2 _ ?_
      by_cases hlt : x < g.owner.length
      · have hlt' : x < g.next.length := by omega
        refine AW.seq fun K2 k2 => AW.cond true (by simp [hlt]) (fun _ => ?_) (fun h => by cases h)
        refine AW.skip ?_
        simp
        refine k2 _ ?_
        refine AW.seq fun K2 k2 => ?_
        refine AW.block ?_
        refine AW.seq fun K3 k3 => AW.region [] Θ_ok ?_
        simp [hlt]
        refine k3 _ ?_
        refine AW.seq fun K3 k3 => ?_
        have hrow := graph_row g.next[x] g.owner.length (hf.row _ (List.getElem_mem _))
        by_cases hw : g.owner[x] = 0 ∨ g.owner[x] = 1
        · have hdr : okV g x = rise (-1) g.next[x] g.owner.length := by
            rcases hw with hw | hw <;> simp [okV, hlt, hlt', hw]
          refine AW.draw [] 18 [] Θ_ok mixed (by kernel_rfl) (by kernel_rfl) ?_
          rcases hw with hw | hw
          all_goals
            simp [vcDraw, vcPre, vcTail, callA, isAlloc, isLoad, effOp, obl, obA, hw, hlt, hlt']
            refine ⟨_, hrow, ?_⟩
            simp
            refine k3 _ ?_
            cases hr : rise (-1) g.next[x] g.owner.length
            · refine AW.cond true (by simp [hr]) (fun _ => ?_) (fun h => by cases h)
              refine AW.seq fun K4 k4 => AW.region [] Θ_ok ?_
              simp
              refine k4 _ (AW.ret ?_)
              simp [Try.f50]
              refine Fin.refl ⟨?_, rfl⟩
              have := not_all_range hlt (hdr.trans hr)
              simp only [mayE, if_neg h3, if_pos hl, this]
              rfl
            · refine AW.cond false (by simp [hr]) (fun h => by cases h) (fun _ => ?_)
              refine AW.skip ?_
              simp
              refine k2 _ ?_
              refine AW.region [] Θ_ok ?_
              simp
              refine ⟨x + 1, ⟨by omega, fun i hi => ?_⟩, by omega, GStep.eq ?_ (subH.refl _)⟩
              · by_cases e : i = x
                · subst e; exact hdr.trans hr
                · exact hok i (by omega)
              · simp [wrap_succ (show x < 9223372036854775807 by omega)]
        · have hw1 : ¬ g.owner[x] = 0 := fun h => hw (.inl h)
          have hw2 : ¬ g.owner[x] = 1 := fun h => hw (.inr h)
          refine AW.draw [] 18 [] Θ_ok mixed (by kernel_rfl) (by kernel_rfl) ?_
          simp [vcDraw, vcPre, vcTail, callA, isAlloc, isLoad, effOp, obl, obA, hw1, hw2, hlt, hlt']
          refine k3 _ ?_
          refine AW.cond true (by simp) (fun _ => ?_) (fun h => by cases h)
          refine AW.seq fun K4 k4 => AW.region [] Θ_ok ?_
          simp
          refine k4 _ (AW.ret ?_)
          simp [Try.f50]
          refine Fin.refl ⟨?_, rfl⟩
          have : okV g x = false := by simp [okV, hlt, hw1, hw2]
          have := not_all_range hlt this
          simp only [mayE, if_neg h3, if_pos hl, this]
          rfl
      · obtain rfl : x = g.owner.length := by omega
        refine AW.seq fun K2 k2 => AW.cond false (by simp) (fun h => by cases h) (fun _ => ?_)
        refine AW.exit ?_
        simp
        refine k1 _ ?_
        refine AW.seq fun K1 k1 => AW.region [] Θ_ok ?_
        simp
        refine k1 _ (AW.ret ?_)
        simp [Try.f50]
        refine Fin.refl ⟨?_, rfl⟩
        simp only [mayE, if_neg h3, if_pos hl, all_of_range hok]
        rfl
    · refine AW.cond true (by simp; omega) (fun _ => ?_) (fun h => by cases h)
      refine AW.seq fun K2 k2 => AW.region [] Θ_ok ?_
      simp
      refine k2 _ (AW.ret ?_)
      simp [Try.f50]
      exact Fin.refl ⟨by simp [mayE, h3, hl], rfl⟩

end Go.Par

set_option linter.unusedSimpArgs false
set_option maxRecDepth 8000
namespace Go.Par
open Go.Proofs

theorem r9_Has (in_ : List Bool) (v : Int) : Pure Try.prog 49 [.ro false (bools in_), .int .i64 v] (.bool (decide (0 ≤ v) && hasI in_ v)) := by
  intro h
  refine AC.body Θ_ok Try.func49 rfl rfl (Nat.le_of_ble_eq_true rfl) ?_
  refine AW.seq fun _ k => AW.region [] Θ_ok ?_
  simp
  refine k _ ?_
  refine AW.seq fun _ k => AW.region [] Θ_ok ?_
  simp
  by_cases h0 : 0 ≤ v
  · by_cases hv : v < in_.length
    · have hn : v.toNat < in_.length := by omega
      simp [hv, h0, hn, Int.not_le.2 hv, Int.not_lt.2 h0]
      refine k _ (AW.ret ?_)
      simp [Try.f49]
      exact Fin.refl ⟨by simp [hasI, hn, h0], rfl⟩
    · have hn : in_.length ≤ v.toNat := by omega
      simp [hv, h0, Int.not_lt.1 hv, Int.not_lt.2 h0]
      refine k _ (AW.ret ?_)
      simp [Try.f49]
      have e : hasI in_ v = false := by simp [hasI, hn]
      exact Fin.refl ⟨by simp [e], rfl⟩
  · simp [h0, Int.not_le.1 h0]
    refine k _ (AW.ret ?_)
    simp [Try.f49]
    exact Fin.refl ⟨by simp [h0], rfl⟩

theorem r9_Player (v : Int) : Pure Try.prog 79 [.int .i64 v] (.bool (v == 0 || v == 1)) := by
  intro h
  refine AC.body Θ_ok Try.func79 rfl rfl (Nat.le_of_ble_eq_true rfl) ?_
  refine AW.seq fun _ k => AW.region [] Θ_ok ?_
  simp
  refine k _ ?_
  refine AW.seq fun _ k => AW.region [] Θ_ok ?_
  simp
  by_cases h0 : v = 0
  · subst h0
    simp
    refine k _ (AW.ret ?_)
    simp [Try.f79]
    exact Fin.refl ⟨by simp, rfl⟩
  · simp [h0]
    refine k _ (AW.ret ?_)
    simp [Try.f79]
    exact Fin.refl ⟨by simp [h0], rfl⟩

theorem r9_SameRow (a b : List Bool) (hl : a.length ≤ 1152921504606846976) : Pure Try.prog 48 [.ro false (bools a), .ro false (bools b)] (.bool (decide (a = b))) := by
  intro h
  refine AC.body Θ_ok Try.func48 rfl rfl (Nat.le_of_ble_eq_true rfl) ?_
  refine AW.seq fun _ k1 => AW.region [] Θ_ok ?_
  simp
  refine k1 _ ?_
  refine AW.seq fun _ k1 => ?_
  refine AW.seq fun _ k2 => AW.region [] Θ_ok ?_
  simp
  refine k2 _ ?_
  by_cases he : a.length = b.length
  · refine AW.cond false (by simp [Int.natCast_inj, he]) (fun h => by cases h) (fun _ => ?_)
    refine AW.skip ?_
    simp
    refine k1 _ ?_
    refine AW.seq fun _ k1 => ?_
    refine AW.seq fun _ k2 => AW.region [] Θ_ok ?_
    simp
    refine k2 _ ?_
    refine AW.block ?_
    refine AW.loopI (X := Nat) (fun x => x ≤ a.length ∧ ∀ i, i < x → a[i]? = b[i]?) (fun x => ⟨26, [(13, .int .i64 x), (12, .int .i64 a.length), (0, .ro false (bools a)), (1, .ro false (bools b))], h⟩) (fun x => a.length - x) 0 ⟨Nat.zero_le _, fun i hi => by omega⟩ (GStep.eq (by simp) (subH.refl _)) ?_
    rintro x ⟨hx, hok⟩
    refine AW.seq fun _ k2 => AW.region [] Θ_ok ?_
    simp
    refine k2 _ ?_
    by_cases hlt : x < a.length
    · have hlt' : x < b.length := by omega
      refine AW.seq fun _ k2 => AW.cond true (by simp [Int.natCast_inj, hlt]) (fun _ => ?_) (fun h => by cases h)
      refine AW.skip ?_
      simp
      refine k2 _ ?_
      refine AW.seq fun _ k2 => ?_
      refine AW.block ?_
      refine AW.seq fun _ k3 => AW.region [] Θ_ok ?_
      simp
      refine k3 _ ?_
      refine AW.seq fun _ k3 => AW.draw [] 9 [] Θ_ok mixed (by kernel_rfl) (by kernel_rfl) ?_
      simp [vcDraw, vcPre, vcTail, callA, isAlloc, isLoad, effOp, obl, obA, mkOK, valA, hlt, hlt']
      refine k3 _ ?_
      by_cases hab : a[x] = b[x]
      · refine AW.cond false (by simp [Int.natCast_inj, hab]) (fun h => by cases h) (fun _ => ?_)
        refine AW.skip ?_
        simp
        refine k2 _ ?_
        refine AW.region [] Θ_ok ?_
        simp
        refine ⟨x + 1, ⟨by omega, fun i hi => ?_⟩, by omega, GStep.eq ?_ (subH.refl _)⟩
        · by_cases e : i = x
          · subst e; simp [hlt, hlt', hab]
          · exact hok i (by omega)
        · simp [wrap_succ (show x < 9223372036854775807 by omega)]
      · refine AW.cond true (by simp [Int.natCast_inj, hab]) (fun _ => ?_) (fun h => by cases h)
        refine AW.seq fun _ kr => AW.region [] Θ_ok ?_
        simp
        refine kr _ (AW.ret ?_)
        simp [Try.f48]
        refine Fin.refl ⟨?_, rfl⟩
        have : ¬ a = b := by rintro rfl; exact hab rfl
        simp [this]
    · obtain rfl : x = a.length := by omega
      refine AW.seq fun _ k2 => AW.cond false (by simp [Int.natCast_inj]) (fun h => by cases h) (fun _ => ?_)
      refine AW.exit ?_
      simp
      refine k1 _ ?_
      refine AW.seq fun _ kr => AW.region [] Θ_ok ?_
      simp
      refine kr _ (AW.ret ?_)
      simp [Try.f48]
      refine Fin.refl ⟨?_, rfl⟩
      have : a = b := List.ext_getElem? fun i => by
        by_cases hi : i < a.length
        · exact hok i hi
        · rw [List.getElem?_eq_none (by omega), List.getElem?_eq_none (by omega)]
      simp [this]
  · refine AW.cond true (by simp [Int.natCast_inj, he]) (fun _ => ?_) (fun h => by cases h)
    refine AW.seq fun _ kr => AW.region [] Θ_ok ?_
    simp
    refine kr _ (AW.ret ?_)
    simp [Try.f48]
    refine Fin.refl ⟨?_, rfl⟩
    have : ¬ a = b := by rintro rfl; exact he rfl
    simp [this]

theorem pre_Count (g : G) (in_ : List Bool) (hn : g.owner.length ≤ 17592186044416) : Pure Try.prog 111 [g.av, .ro false (bools in_)] (.int .i64 ((List.range g.owner.length).countP (hasN in_) : Nat)) := by
  intro h
  refine AC.body Θ_ok Try.func111 rfl rfl (Nat.le_of_ble_eq_true rfl) ?_
  refine AW.seq fun _ k1 => AW.region [] Θ_ok ?_
  simp
  refine k1 _ ?_
  refine AW.seq fun _ k1 => AW.region [] Θ_ok ?_
  simp
  refine k1 _ ?_
  refine AW.seq fun _ k1 => ?_
  refine AW.seq fun _ k2 => AW.region [] Θ_ok ?_
  simp
  refine k2 _ ?_
  refine AW.block ?_
  refine AW.loopI (X := Nat) (fun x => x ≤ g.owner.length) (fun x => ⟨20, [(10, .int .i64 x), (9, .int .i64 g.owner.length), (5, .int .i64 ((List.range x).countP (hasN in_) : Nat)), (1, .ro false (bools in_))], h⟩) (fun x => g.owner.length - x) 0 (Nat.zero_le _) (GStep.eq (by simp) (subH.refl _)) fun x hx => ?_
  refine AW.seq fun _ k2 => AW.region [] Θ_ok ?_
  simp
  refine k2 _ ?_
  by_cases hlt : x < g.owner.length
  · refine AW.seq fun _ k2 => AW.cond true (by simp [Int.natCast_inj, hlt]) (fun _ => ?_) (fun h => by cases h)
    refine AW.skip ?_
    simp
    refine k2 _ ?_
    refine AW.seq fun _ k2 => ?_
    refine AW.block ?_
    refine AW.seq fun _ k3 => AW.region [] Θ_ok ?_
    simp
    refine k3 _ ?_
    refine AW.seq fun _ k3 => AW.region [] Θ_ok ?_
    simp
    refine (pre_has in_ x (by omega)).use (by simp [G.av]) ?_
    try simp
    refine k3 _ ?_
    have hstep : (List.range (x + 1)).countP (hasN in_) = (List.range x).countP (hasN in_) + if hasN in_ x then 1 else 0 := by
      rw [List.range_succ, List.countP_append]
      simp [List.countP_cons]
    have hle : (List.range x).countP (hasN in_) ≤ x := Nat.le_trans List.countP_le_length (by simp)
    cases hb : hasN in_ x
    · refine AW.cond false (by simp [Int.natCast_inj, hb]) (fun h => by cases h) (fun _ => ?_)
      refine AW.skip ?_
      simp
      refine k2 _ ?_
      refine AW.region [] Θ_ok ?_
      simp
      refine ⟨x + 1, by omega, by omega, GStep.eq ?_ (subH.refl _)⟩
      simp [wrap_succ (show x < 9223372036854775807 by omega), hstep, hb]
    · refine AW.cond true (by simp [Int.natCast_inj, hb]) (fun _ => ?_) (fun h => by cases h)
      refine AW.region [] Θ_ok ?_
      simp
      refine k2 _ ?_
      refine AW.region [] Θ_ok ?_
      simp
      refine ⟨x + 1, by omega, by omega, GStep.eq ?_ (subH.refl _)⟩
      have := wrap_succ (show (List.range x).countP (hasN in_) < 9223372036854775807 by omega)
      simp [wrap_succ (show x < 9223372036854775807 by omega), hstep, hb, this]
  · obtain rfl : x = g.owner.length := by omega
    refine AW.seq fun _ k2 => AW.cond false (by simp [Int.natCast_inj]) (fun h => by cases h) (fun _ => ?_)
    refine AW.exit ?_
    simp
    refine k1 _ ?_
    refine AW.seq fun _ kr => AW.region [] Θ_ok ?_
    simp
    refine kr _ (AW.ret ?_)
    simp [Try.f111]
    exact Fin.refl ⟨rfl, rfl⟩

theorem r9_May (g : G) (hf : g.fits) : Pure Try.prog 21 [g.av] (.int .i64 (mayE g)) := by
  intro h
  refine AC.body Θ_ok Try.func21 rfl rfl (Nat.le_of_ble_eq_true rfl) ?_
  refine AW.seq fun _ k1 => AW.region [] Θ_ok ?_
  simp
  refine k1 _ ?_
  refine AW.seq fun _ k1 => AW.region [] Θ_ok ?_
  simp
  refine k1 _ ?_
  refine AW.seq fun _ k1 => ?_
  refine AW.seq fun _ k2 => AW.region [] Θ_ok ?_
  simp
  refine k2 _ ?_
  by_cases h3 : 3000 < g.owner.length
  · refine AW.cond true (by simp; omega) (fun _ => ?_) (fun h => by cases h)
    refine AW.seq fun _ kr => AW.region [] Θ_ok ?_
    simp
    refine kr _ (AW.ret ?_)
    simp [Try.f21]
    exact Fin.refl ⟨by simp [mayE, h3], rfl⟩
  · refine AW.cond false (by simp; omega) (fun h => by cases h) (fun _ => ?_)
    refine AW.skip ?_
    simp
    refine k1 _ ?_
    refine AW.seq fun _ k1 => ?_
    refine AW.seq fun _ k2 => AW.region [] Θ_ok ?_
    simp
    refine k2 _ ?_
    by_cases hl : g.next.length = g.owner.length
    · refine AW.cond false (by simp [Int.natCast_inj, hl]) (fun h => by cases h) (fun _ => ?_)
      refine AW.skip ?_
      simp
      refine k1 _ ?_
      refine AW.seq fun _ k1 => ?_
      refine AW.seq fun _ k2 => AW.region [] Θ_ok ?_
      simp
      refine k2 _ ?_
      refine AW.block ?_
      refine AW.loopI (X := Nat) (fun x => x ≤ g.owner.length ∧ ∀ i, i < x → okV g i = true) (fun x => ⟨44, [(16, .int .i64 x), (15, .int .i64 g.owner.length), (3, .int .i64 g.owner.length), (1, .rop [.ro false (ints g.owner), .ro false (rows g.next)])], h⟩) (fun x => g.owner.length - x) 0 ⟨Nat.zero_le _, fun i hi => by omega⟩ (GStep.eq (by simp) (subH.refl _)) ?_
      rintro x ⟨hx, hok⟩
      refine AW.seq fun _ k2 => AW.region [] Θ_ok ?_
      simp
      refine k2 _ ?_
      by_cases hlt : x < g.owner.length
      · have hlt' : x < g.next.length := by omega
        refine AW.seq fun _ k2 => AW.cond true (by simp [Int.natCast_inj, hlt]) (fun _ => ?_) (fun h => by cases h)
        refine AW.skip ?_
        simp
        refine k2 _ ?_
        refine AW.seq fun _ k2 => ?_
        refine AW.block ?_
        refine AW.seq fun _ k3 => AW.region [] Θ_ok ?_
        simp
        refine k3 _ ?_
        have hrow := r9_rising g.next[x] g.owner.length (hf.row _ (List.getElem_mem _))
        by_cases hw : g.owner[x] = 0 ∨ g.owner[x] = 1
        · have hdr : okV g x = rise (-1) g.next[x] g.owner.length := by
            rcases hw with hw | hw <;> simp [okV, hlt, hlt', hw]
          refine AW.seq fun K3 k3 => AW.region [] Θ_ok ?_
          rcases hw with hw | hw
          all_goals
            simp [hlt, hlt', hw]
            refine (hrow).use (by simp [G.av]) ?_
            try simp
            refine k3 _ ?_
            cases hr : rise (-1) g.next[x] g.owner.length
            · refine AW.cond true (by simp [Int.natCast_inj, hr]) (fun _ => ?_) (fun h => by cases h)
              refine AW.seq fun _ kr => AW.region [] Θ_ok ?_
              simp
              refine kr _ (AW.ret ?_)
              simp [Try.f21]
              refine Fin.refl ⟨?_, rfl⟩
              have := not_all_range hlt (hdr.trans hr)
              simp only [mayE, if_neg h3, if_pos hl, this]
              rfl
            · refine AW.cond false (by simp [Int.natCast_inj, hr]) (fun h => by cases h) (fun _ => ?_)
              refine AW.skip ?_
              simp
              refine k2 _ ?_
              refine AW.region [] Θ_ok ?_
              simp
              refine ⟨x + 1, ⟨by omega, fun i hi => ?_⟩, by omega, GStep.eq ?_ (subH.refl _)⟩
              · by_cases e : i = x
                · subst e; exact hdr.trans hr
                · exact hok i (by omega)
              · simp [wrap_succ (show x < 9223372036854775807 by omega)]
        · have hw1 : ¬ g.owner[x] = 0 := fun h => hw (.inl h)
          have hw2 : ¬ g.owner[x] = 1 := fun h => hw (.inr h)
          refine AW.seq fun _ k3 => AW.region [] Θ_ok ?_
          simp [hlt, hw1, hw2]
          refine k3 _ ?_
          refine AW.cond true (by simp [Int.natCast_inj]) (fun _ => ?_) (fun h => by cases h)
          refine AW.seq fun _ kr => AW.region [] Θ_ok ?_
          simp
          refine kr _ (AW.ret ?_)
          simp [Try.f21]
          refine Fin.refl ⟨?_, rfl⟩
          have : okV g x = false := by simp [okV, hlt, hw1, hw2]
          have := not_all_range hlt this
          simp only [mayE, if_neg h3, if_pos hl, this]
          rfl
      · obtain rfl : x = g.owner.length := by omega
        refine AW.seq fun _ k2 => AW.cond false (by simp [Int.natCast_inj]) (fun h => by cases h) (fun _ => ?_)
        refine AW.exit ?_
        simp
        refine k1 _ ?_
        refine AW.seq fun _ kr => AW.region [] Θ_ok ?_
        simp
        refine kr _ (AW.ret ?_)
        simp [Try.f21]
        refine Fin.refl ⟨?_, rfl⟩
        simp only [mayE, if_neg h3, if_pos hl, all_of_range hok]
        rfl
    · refine AW.cond true (by simp [Int.natCast_inj, hl]) (fun _ => ?_) (fun h => by cases h)
      refine AW.seq fun _ kr => AW.region [] Θ_ok ?_
      simp
      refine kr _ (AW.ret ?_)
      simp [Try.f21]
      exact Fin.refl ⟨by simp [mayE, h3, hl], rfl⟩

end Go.Par

set_option linter.unusedSimpArgs false
set_option maxRecDepth 8000
namespace Go.Par
open Go.Proofs

/-- How much a game weighs, as the program reckons it. -/
def heavyS (g : G) (x : Nat) : Int := (g.next.take x).foldl (fun s r => IntKind.i64.wrap (s + r.length)) g.owner.length
def heavyE (g : G) : Int := if 400 < heavyS g g.next.length ∨ 200 < g.next.length then heavyS g g.next.length else 0

theorem l9_Heavy (g : G) (hf : g.fits) : Pure Try.prog 38 [g.av] (.int .i64 (heavyE g)) := by
  intro h
  refine AC.body Θ_ok Try.func38 rfl rfl (Nat.le_of_ble_eq_true rfl) ?_
  refine AW.seq fun _ k1 => AW.region [] Θ_ok ?_
  simp
  refine k1 _ ?_
  refine AW.seq fun _ k1 => AW.region [] Θ_ok ?_
  simp
  refine k1 _ ?_
  refine AW.seq fun _ k1 => ?_
  refine AW.seq fun _ k2 => AW.region [] Θ_ok ?_
  simp
  refine k2 _ ?_
  have hb := hf.next
  refine AW.block ?_
  refine AW.loopI (X := Nat) (fun x => x ≤ g.next.length) (fun x => ⟨30, [(12, .int .i64 x), (11, .int .i64 g.next.length), (10, .ro false (rows g.next)), (3, .int .i64 (heavyS g x)), (1, .rop [.ro false (ints g.owner), .ro false (rows g.next)])], h⟩) (fun x => g.next.length - x) 0 (Nat.zero_le _) (GStep.eq (by simp [heavyS]) (subH.refl _)) fun x hx => ?_
  refine AW.seq fun _ k2 => AW.region [] Θ_ok ?_
  simp
  refine k2 _ ?_
  by_cases hlt : x < g.next.length
  · refine AW.seq fun _ k2 => AW.cond true (by simp [Int.natCast_inj, hlt]) (fun _ => ?_) (fun h => by cases h)
    refine AW.skip ?_
    simp
    refine k2 _ ?_
    refine AW.seq fun _ k2 => ?_
    refine AW.block ?_
    refine AW.seq fun _ k3 => AW.region [] Θ_ok ?_
    simp [hlt]
    refine k3 _ ?_
    refine AW.region [] Θ_ok ?_
    simp
    refine k2 _ ?_
    refine AW.region [] Θ_ok ?_
    simp
    refine ⟨x + 1, by omega, by omega, GStep.eq ?_ (subH.refl _)⟩
    have hstep : heavyS g (x + 1) = IntKind.i64.wrap (heavyS g x + (g.next[x].length : Int)) := by
      simp only [heavyS]
      rw [List.take_succ_eq_append_getElem hlt, List.foldl_append]
      rfl
    simp [wrap_succ (show x < 9223372036854775807 by omega), hstep]
  · obtain rfl : x = g.next.length := by omega
    refine AW.seq fun _ k2 => AW.cond false (by simp [Int.natCast_inj]) (fun h => by cases h) (fun _ => ?_)
    refine AW.exit ?_
    simp
    refine k1 _ ?_
    refine AW.seq fun _ k1 => ?_
    refine AW.seq fun _ k2 => AW.region [] Θ_ok ?_
    simp
    by_cases h1 : 400 < heavyS g g.next.length
    · simp [h1, Int.not_le.2 h1]
      refine k2 _ ?_
      refine AW.cond true (by simp [Int.natCast_inj]) (fun _ => ?_) (fun h => by cases h)
      refine AW.seq fun _ kr => AW.region [] Θ_ok ?_
      simp
      refine kr _ (AW.ret ?_)
      simp [Try.f38]
      exact Fin.refl ⟨by simp [heavyE, h1], rfl⟩
    · by_cases h2 : 200 < g.next.length
      · have h2' : (200 : Int) < g.next.length := by omega
        simp [h1, h2', Int.not_lt.1 h1]
        refine k2 _ ?_
        refine AW.cond true (by simp [Int.natCast_inj]) (fun _ => ?_) (fun h => by cases h)
        refine AW.seq fun _ kr => AW.region [] Θ_ok ?_
        simp
        refine kr _ (AW.ret ?_)
        simp [Try.f38]
        exact Fin.refl ⟨by simp [heavyE, h1, h2], rfl⟩
      · have h2' : ¬ (200 : Int) < g.next.length := by omega
        simp [h1, h2', Int.not_lt.1 h1]
        refine k2 _ ?_
        refine AW.cond false (by simp [Int.natCast_inj]) (fun h => by cases h) (fun _ => ?_)
        refine AW.skip ?_
        simp
        refine k1 _ ?_
        refine AW.seq fun _ kr => AW.region [] Θ_ok ?_
        simp
        refine kr _ (AW.ret ?_)
        simp [Try.f38]
        exact Fin.refl ⟨by simp [heavyE, h1, h2], rfl⟩

/-- Rows of rows of bools. -/
abbrev bools2 (l : List (List Bool)) : List AV := l.map fun r => AV.ro false (bools r)
def lightB (g : G) (l : List (List Bool)) : Bool := l.all (fun r => decide (r.length ≤ 300)) && heavyE g == 0

def okForce (g : G) (who : Int) : Prop := mayE g = 0 ∧ (who = 0 ∨ who = 1)
instance (g : G) (who : Int) : Decidable (okForce g who) := by unfold okForce; infer_instance
def forceA (g : G) (who : Int) (in_ : List Bool) : AV := if okForce g who then .ro true (bools (forceL g who in_)) else .nils
def forceR (g : G) (who : Int) (in_ : List Bool) : List Bool := if okForce g who then forceL g who in_ else []
theorem forceA_eq (g : G) (who : Int) (in_ : List Bool) : weak (forceA g who in_) = .ro false (bools (forceR g who in_)) := by
  unfold forceA forceR; split <;> simp

theorem rise_pos : ∀ {l : List Int} {was n : Int}, -1 ≤ was → rise was l n = true → ∀ w ∈ l, was < w ∧ w < n
  | v :: r, was, n, hw, h, w, hm => by
    simp only [rise] at h
    split at h
    · cases h
    · rename_i hc
      rcases List.mem_cons.1 hm with rfl | hm
      · omega
      · have := rise_pos (by omega) h w hm
        omega

theorem may_ok {g : G} (h : mayE g = 0) : g.owner.length ≤ 3000 ∧ g.next.length = g.owner.length ∧ ∀ v, v < g.owner.length → okV g v = true := by
  unfold mayE at h
  split at h
  · cases h
  · split at h
    · split at h
      · rename_i h3 hl ha
        refine ⟨by omega, hl, fun v hv => ?_⟩
        rw [List.all_eq_true] at ha
        exact ha v (by simpa using hv)
      · cases h
    · cases h

theorem may_row {g : G} (h : mayE g = 0) {v : Nat} (hv : v < g.owner.length) (hv' : v < g.next.length) : (g.owner[v] = 0 ∨ g.owner[v] = 1) ∧ ∀ w ∈ g.next[v], 0 ≤ w ∧ w < g.owner.length := by
  have := (may_ok h).2.2 v hv
  simp [okV, hv, hv'] at this
  refine ⟨this.1, fun w hw => ?_⟩
  have := rise_pos (by omega) this.2 w hw
  omega

theorem pre_Force (g : G) (hf : g.fits) (who : Int) (in_ : List Bool) : Pure Try.prog 98 [g.av, .int .i64 who, .ro false (bools in_)] (forceA g who in_) := by
  intro h
  refine AC.body Θ_ok Try.func98 rfl rfl (Nat.le_of_ble_eq_true rfl) ?_
  refine AW.seq fun _ k1 => AW.region [] Θ_ok ?_
  simp
  refine k1 _ ?_
  refine AW.seq fun _ k1 => ?_
  by_cases hm : mayE g = 0
  · by_cases hw : who = 0 ∨ who = 1
    · have hok : okForce g who := ⟨hm, hw⟩
      refine AW.seq fun _ k2 => AW.region [] Θ_ok ?_
      simp
      rcases hw with hw | hw
      all_goals
        refine (graph_May g hf).use (by simp [G.av]) ?_
        try simp [hm, hw]
        refine k2 _ ?_
        refine AW.cond false (by simp [Int.natCast_inj]) (fun h => by cases h) (fun _ => ?_)
        refine AW.skip ?_
        simp
        refine k1 _ ?_
        refine AW.seq fun _ k1 => AW.region [] Θ_ok ?_
        simp
        refine (pre_each g 114 [.rop [.ro false (ints g.owner), .ro false (rows g.next)], .rop [.ro false (bools in_)], .rop [.int .i64 who]] (forceP g who in_) hf.owner (fun v hv => ?_)).use (by simp [G.av, hw]) ?_
        · have hv' : v < g.next.length := by have := (may_ok hm).2.1; omega
          exact pre_Force1 g who in_ v hv hv' (fun w hw => ((may_row hm hv hv').2 w hw).1) (hf.row _ (List.getElem_mem _))
        · simp
          refine k1 _ (AW.ret ?_)
          simp [Try.f98]
          exact Fin.refl ⟨by simp [forceA, hok, forceL], rfl⟩
    · have hok : ¬ okForce g who := fun h => hw h.2
      have hw1 : ¬ who = 0 := fun h => hw (.inl h)
      have hw2 : ¬ who = 1 := fun h => hw (.inr h)
      refine AW.seq fun _ k2 => AW.region [] Θ_ok ?_
      simp
      refine (graph_May g hf).use (by simp [G.av]) ?_
      try simp [hm, hw1, hw2]
      refine k2 _ ?_
      refine AW.cond true (by simp [Int.natCast_inj, hw1, hw2]) (fun _ => ?_) (fun h => by cases h)
      refine AW.seq fun _ kr => AW.region [] Θ_ok ?_
      simp
      refine kr _ (AW.ret ?_)
      simp [Try.f98]
      exact Fin.refl ⟨by simp [forceA, hok], rfl⟩
  · have hok : ¬ okForce g who := fun h => hm h.1
    refine AW.seq fun _ k2 => AW.region [] Θ_ok ?_
    simp
    refine (graph_May g hf).use (by simp [G.av]) ?_
    try simp [hm]
    refine k2 _ ?_
    refine AW.cond true (by simp [Int.natCast_inj]) (fun _ => ?_) (fun h => by cases h)
    refine AW.seq fun _ kr => AW.region [] Θ_ok ?_
    simp
    refine kr _ (AW.ret ?_)
    simp [Try.f98]
    exact Fin.refl ⟨by simp [forceA, hok], rfl⟩

/-- The game that each program must know. -/
def ring11 : G := ⟨[0, 1, 1], [[1, 2], [0], []]⟩
def ring11A : AV := .agg [.ro true (ints [0, 1, 1]), .ro true [.ro true (ints [1, 2]), .ro true (ints [0]), .ro true []]]

theorem ring11_fits : ring11.fits := ⟨by decide, by decide, by decide⟩
theorem ring11_A : forceA ring11 0 [false, false, true] = .ro true (bools [true, false, true]) := rfl
theorem ring11_B : forceA ring11 1 [true] = .ro true (bools [false, true, false]) := rfl
theorem ring11_C : ((List.range ring11.owner.length).countP (hasN [true, false, true]) : Nat) = 2 := rfl

end Go.Par

set_option linter.unusedSimpArgs false
set_option maxRecDepth 8000
namespace Go.Par
open Go.Proofs

end Go.Par

set_option linter.unusedSimpArgs false
set_option maxRecDepth 8000
namespace Go.Par
open Go.Proofs

theorem G.wide.f {g : G} (h : g.wide) : g.fits := by
  obtain ⟨⟨h1, _⟩, h2, h3⟩ := h
  simp only [DK.bytes] at h1 h2
  have h1' : g.owner.length * 8 ≤ reachBytes := h1
  have h2' : g.next.length * 24 ≤ reachBytes := h2
  refine ⟨by unfold reachBytes at h1'; omega, by unfold reachBytes at h2'; omega, fun l hl => ?_⟩
  have h4 : l.length * 8 ≤ reachBytes := (h3 l hl).1
  unfold reachBytes at h4; omega

/-- A player, out of any number. -/
def who2 (p : Int) : Int := IntKind.i64.wrap ((IntKind.u64.wrap p).tmod 2)
theorem who2_cases (p : Int) : who2 p = 0 ∨ who2 p = 1 := by
  have h : 0 ≤ IntKind.u64.wrap p := by simp [IntKind.wrap, IntKind.signed, IntKind.bits]; omega
  have h2 : (IntKind.u64.wrap p).tmod 2 = (IntKind.u64.wrap p) % 2 := Int.tmod_eq_emod_of_nonneg h
  unfold who2
  rw [h2]
  rcases Int.emod_two_eq (IntKind.u64.wrap p) with e | e <;> rw [e]
  · exact .inl rfl
  · exact .inr rfl

theorem hasI_tab {n : Nat} {f : Nat → Bool} {w : Int} (h0 : 0 ≤ w) (hw : w < n) : hasI (tab n f) w = f w.toNat := by
  unfold hasI
  rw [getD_tab, if_pos (by omega)]

theorem any_not_all {α : Type} (l : List α) (p q : α → Bool) (h : ∀ x ∈ l, q x = !p x) : l.all q = !l.any p := by
  induction l with
  | nil => rfl
  | cons a l ih =>
    rw [List.all_cons, List.any_cons, Bool.not_or, h a (by simp), ih fun x hx => h x (by simp [hx])]
theorem any_not_any {α : Type} (l : List α) (p q : α → Bool) (h : ∀ x ∈ l, q x = !p x) : l.any q = !l.all p := by
  induction l with
  | nil => rfl
  | cons a l ih =>
    rw [List.all_cons, List.any_cons, Bool.not_and, h a (by simp), ih fun x hx => h x (by simp [hx])]

theorem either {g : G} (hm : mayE g = 0) (in_ : List Bool) {who : Int} (hw : who = 0 ∨ who = 1) {v : Nat} (hv : v < g.owner.length) : forceP g (1 - who) (notL g in_) v = !forceP g who in_ v := by
  have hv' : v < g.next.length := by have := (may_ok hm).2.1; omega
  obtain ⟨ho, hr⟩ := may_row hm hv hv'
  have hq : ∀ w ∈ g.next[v], hasI (notL g in_) w = !hasI in_ w := by
    intro w hm
    obtain ⟨h0, h1⟩ := hr w hm
    rw [notL, hasI_tab h0 h1]
    rfl
  unfold forceP
  simp only [List.getD_eq_getElem?_getD, List.getElem?_eq_getElem hv, List.getElem?_eq_getElem hv', Option.getD_some]
  by_cases e : g.owner[v] = who
  · rw [if_pos e, if_neg (by omega)]
    exact any_not_all _ _ _ hq
  · rw [if_neg e, if_pos (by omega)]
    exact any_not_any _ _ _ hq

end Go.Par

set_option linter.unusedSimpArgs false
set_option maxRecDepth 8000
namespace Go.Par
open Go.Proofs

theorem r9_Force (g : G) (hf : g.fits) (who : Int) (in_ : List Bool) : Pure Try.prog 47 [g.av, .int .i64 who, .ro false (bools in_)] (forceA g who in_) := by
  intro h
  refine AC.body Θ_ok Try.func47 rfl rfl (Nat.le_of_ble_eq_true rfl) ?_
  refine AW.seq fun _ k1 => AW.region [] Θ_ok ?_
  simp
  refine k1 _ ?_
  refine AW.seq fun _ k1 => ?_
  by_cases hok : okForce g who
  · obtain ⟨hm, hw⟩ := hok
    have hA : forceA g who in_ = .ro true (bools (forceL g who in_)) := if_pos ⟨hm, hw⟩
    have hp : (who == 0 || who == 1) = true := by rcases hw with rfl | rfl <;> rfl
    have hn := (may_ok hm).2.1
    have hb := hf.owner
    refine AW.seq fun _ k2 => AW.region [] Θ_ok ?_
    simp
    refine (r9_May g hf).use (by simp [G.av]) ?_
    try simp [hm]
    refine (r9_Player who).use (by simp [G.av]) ?_
    try simp [hp]
    refine k2 _ ?_
    refine AW.cond false (by simp [Int.natCast_inj]) (fun h => by cases h) (fun _ => ?_)
    refine AW.skip ?_
    simp
    refine k1 _ ?_
    refine AW.seq fun _ k1 => AW.region [25] Θ_ok ?_
    simp
    refine ⟨by omega, fun o ho => k1 _ ?_⟩
    rw [replicate_tab, flat_tab (fun _ _ => rfl)]
    refine AW.seq fun _ k1 => ?_
    refine AW.seq fun _ k2 => AW.region [] Θ_ok ?_
    simp
    refine k2 _ ?_
    refine AW.block ?_
    refine AW.loopI (X := Nat) (fun x => x ≤ g.next.length) (fun x => ⟨80, [(29, .int .i64 x), (28, .int .i64 g.next.length), (27, .ro false (rows g.next)), (7, .mu o g.owner.length), (1, .int .i64 who), (2, .ro false (bools in_)), (3, .rop [.ro false (ints g.owner), .ro false (rows g.next)])],
      upd h o (some ⟨tab g.owner.length fun i => .bool (decide (i < x) && forceP g who in_ i), 4, 1, true⟩)⟩) (fun x => g.next.length - x) 0 (Nat.zero_le _) (GStep.eq (by simp) ?_) fun x hx => ?_
    · simp; exact fun _ _ q => q
    refine AW.seq fun _ k2 => AW.region [] Θ_ok ?_
    simp
    refine k2 _ ?_
    by_cases hlt : x < g.next.length
    · have hv : x < g.owner.length := by omega
      have hlt' : x < g.next.length := hlt
      obtain ⟨_, hr⟩ := may_row hm hv hlt
      have hlr := hf.row _ (List.getElem_mem hlt)
      refine AW.seq fun _ k2 => AW.cond true (by simp [Int.natCast_inj, hlt]) (fun _ => ?_) (fun h => by cases h)
      refine AW.skip ?_
      simp
      refine k2 _ ?_
      refine AW.seq fun _ k2 => ?_
      refine AW.block ?_
      refine AW.seq fun _ k3 => AW.region [] Θ_ok ?_
      simp [hlt]
      refine k3 _ ?_
      refine AW.seq fun _ k3 => AW.region [] Θ_ok ?_
      simp
      refine k3 _ ?_
      refine AW.seq fun _ k3 => ?_
      refine AW.seq fun _ k4 => AW.region [] Θ_ok ?_
      simp
      refine k4 _ ?_
      refine AW.block ?_
      refine AW.loopI (X := Nat) (fun y => y ≤ g.next[x].length) (fun y => ⟨80, [(36, .int .i64 y), (35, .int .i64 g.next[x].length), (34, .ro false (ints g.next[x])), (10, .bool ((g.next[x].take y).any (hasI in_))), (11, .bool ((g.next[x].take y).all (hasI in_))), (8, .int .i64 x),
          (29, .int .i64 x), (28, .int .i64 g.next.length), (27, .ro false (rows g.next)), (7, .mu o g.owner.length), (1, .int .i64 who), (2, .ro false (bools in_)), (3, .rop [.ro false (ints g.owner), .ro false (rows g.next)])],
        upd h o (some ⟨tab g.owner.length fun i => .bool (decide (i < x) && forceP g who in_ i), 4, 1, true⟩)⟩) (fun y => g.next[x].length - y) 0 (Nat.zero_le _) (GStep.eq (by simp) (subH.refl _)) fun y hy => ?_
      refine AW.seq fun _ k4 => AW.region [] Θ_ok ?_
      simp
      refine k4 _ ?_
      by_cases hly : y < g.next[x].length
      · refine AW.seq fun _ k4 => AW.cond true (by simp [Int.natCast_inj, hly]) (fun _ => ?_) (fun h => by cases h)
        refine AW.skip ?_
        simp
        refine k4 _ ?_
        refine AW.seq fun _ k4 => ?_
        refine AW.block ?_
        refine AW.seq fun _ k5 => AW.region [] Θ_ok ?_
        simp [hly]
        refine k5 _ ?_
        have h0 := (hr _ (List.getElem_mem hly)).1
        have hs := r9_Has in_ g.next[x][y]
        have e : (decide (0 ≤ g.next[x][y]) && hasI in_ g.next[x][y]) = hasI in_ g.next[x][y] := by simp [h0]
        rw [e] at hs
        have st1 : (g.next[x].take (y + 1)).any (hasI in_) = ((g.next[x].take y).any (hasI in_) || hasI in_ g.next[x][y]) := by
          rw [List.take_succ_eq_append_getElem hly, List.any_append]; simp
        have st2 : (g.next[x].take (y + 1)).all (hasI in_) = ((g.next[x].take y).all (hasI in_) && hasI in_ g.next[x][y]) := by
          rw [List.take_succ_eq_append_getElem hly, List.all_append]; simp
        have inc := wrap_succ (show y < 9223372036854775807 by omega)
        cases q1 : (g.next[x].take y).any (hasI in_) <;> cases q2 : (g.next[x].take y).all (hasI in_)
        all_goals
          rw [q1] at st1
          rw [q2] at st2
          refine AW.seq fun _ k5 => AW.region [] Θ_ok ?_
          simp
          try (refine hs.use (by simp) ?_)
          try simp
          refine k5 _ ?_
          refine AW.region [] Θ_ok ?_
          simp
          try (refine hs.use (by simp) ?_)
          try simp
          refine k4 _ ?_
          refine AW.region [] Θ_ok ?_
          simp
          exact ⟨y + 1, by omega, by omega, GStep.eq (by simp [inc, st1, st2]) (subH.refl _)⟩
      · obtain rfl : y = g.next[x].length := by omega
        refine AW.seq fun _ k4 => AW.cond false (by simp [Int.natCast_inj]) (fun h => by cases h) (fun _ => ?_)
        refine AW.exit ?_
        simp
        refine k3 _ ?_
        have hP : forceP g who in_ x = if g.owner[x] = who then g.next[x].any (hasI in_) else g.next[x].all (hasI in_) := by
          unfold forceP
          simp only [List.getD_eq_getElem?_getD, List.getElem?_eq_getElem hv, List.getElem?_eq_getElem hlt, Option.getD_some]
        generalize g.next[x].any (hasI in_) = qa at hP
        generalize g.next[x].all (hasI in_) = ql at hP
        have inc := wrap_succ (show x < 9223372036854775807 by omega)
        have hset : (tab g.owner.length fun i => AV.bool (decide (i < x) && forceP g who in_ i)).set x (.bool (forceP g who in_ x)) = tab g.owner.length fun i => .bool (decide (i < x + 1) && forceP g who in_ i) := by
          rw [set_tab]
          refine tab_congr fun i hi => ?_
          by_cases e : i = x
          · simp [e]
          · by_cases h1 : i < x
            · simp [e, h1, show i < x + 1 by omega]
            · simp [e, h1, show ¬ i < x + 1 by omega]
        by_cases how : g.owner[x] = who
        all_goals
          simp only [how, if_true, if_false] at hP
          cases qa <;> cases ql
          all_goals
            refine AW.region [] Θ_ok ?_
            simp [hv, how]
            refine ⟨by omega, k2 _ ?_⟩
            refine AW.region [] Θ_ok ?_
            simp
            refine ⟨x + 1, by omega, by omega, GStep.eq (by simp [inc]) ?_⟩
            rw [hP] at hset
            exact subH_of_eq (congrArg (fun c => upd h o (some ⟨c, 4, 1, true⟩)) hset)
    · obtain rfl : x = g.next.length := by omega
      refine AW.seq fun _ k2 => AW.cond false (by simp [Int.natCast_inj]) (fun h => by cases h) (fun _ => ?_)
      refine AW.exit ?_
      simp
      refine k1 _ ?_
      refine AW.seq fun _ k1 => AW.region [] Θ_ok ?_
      simp
      refine k1 _ (AW.ret ?_)
      simp [Try.f47]
      refine Fin.freeze (k := true) (upd_same _ _ _) (fun _ => rfl) rfl (by simp) (fun u hu => ?_) h (by simp [upd_none_id ho]; exact fun _ _ q => q) ⟨?_, rfl⟩
      · simp only [mem_tab] at hu
        obtain ⟨i, _, rfl⟩ := hu
        rfl
      · rw [hA]
        simp only [bools, forceL, map_tab]
        congr 1
        exact tab_congr fun i hi => by simp [hi, hn]
  · have hA : forceA g who in_ = .nils := if_neg hok
    by_cases hm : mayE g = 0
    · have hp : (who == 0 || who == 1) = false := by
        cases e : (who == 0 || who == 1)
        · rfl
        · exact absurd ⟨hm, by simpa using e⟩ hok
      refine AW.seq fun _ k2 => AW.region [] Θ_ok ?_
      simp
      refine (r9_May g hf).use (by simp [G.av]) ?_
      try simp [hm]
      refine (r9_Player who).use (by simp [G.av]) ?_
      try simp [hp]
      refine k2 _ ?_
      refine AW.cond true (by simp [Int.natCast_inj]) (fun _ => ?_) (fun h => by cases h)
      refine AW.seq fun _ kr => AW.region [] Θ_ok ?_
      simp
      refine kr _ (AW.ret ?_)
      simp [Try.f47]
      exact Fin.refl ⟨hA.symm, rfl⟩
    · refine AW.seq fun _ k2 => AW.region [] Θ_ok ?_
      simp
      refine (r9_May g hf).use (by simp [G.av]) ?_
      try simp [hm]
      refine k2 _ ?_
      refine AW.cond true (by simp [Int.natCast_inj, hm]) (fun _ => ?_) (fun h => by cases h)
      refine AW.seq fun _ kr => AW.region [] Θ_ok ?_
      simp
      refine kr _ (AW.ret ?_)
      simp [Try.f47]
      exact Fin.refl ⟨hA.symm, rfl⟩

end Go.Par
