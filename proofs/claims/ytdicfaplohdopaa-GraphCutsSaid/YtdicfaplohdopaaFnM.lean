import Derived.Test.YtdicfaplohdopaaFnL
import Derived.Test.YtdicfaplohdopaaPlE
set_option linter.unusedSimpArgs false
set_option maxRecDepth 8000
namespace Go.Par
open Go.Proofs

/-- What a game's value is that a function made. -/
def waysA (g : G) (p : Nat → Int → Bool) : AV := if mayE g = 0 then .agg [.ro false (ints g.owner), .ro true (rows (waysL g p))] else .agg [.nils, .nils]
theorem waysA_weak (g : G) (p : Nat → Int → Bool) : weak (waysA g p) = (waysG g p).av := by
  unfold waysA waysG
  split <;> simp [G.av]

structure WX where
  f : Nat → Nat
  nn : Nat → Bool
  x : Nat
  y : Nat

def wayR (g : G) (p : Nat → Int → Bool) (nn : Nat → Bool) (x y : Nat) : Nat → Ob := fun v => ⟨ints (waysS g p x y v), 3, 1, nn v⟩
def wayC (g : G) (p : Nat → Int → Bool) (f : Nat → Nat) (x y : Nat) : Ob := ⟨tab g.next.length fun v => .mu (f v) (waysS g p x y v).length, 22, 1, true⟩
theorem wayR_next (g : G) (p : Nat → Int → Bool) (nn : Nat → Bool) {x : Nat} (hx : x < g.next.length) : wayR g p nn x g.next[x].length = wayR g p nn (x + 1) 0 := by
  funext w; simp only [wayR, waysS_next g p hx]
theorem wayC_next (g : G) (p : Nat → Int → Bool) (f : Nat → Nat) {x : Nat} (hx : x < g.next.length) : wayC g p f x g.next[x].length = wayC g p f (x + 1) 0 := by
  simp only [wayC, waysS_next g p hx]

theorem graph_ways (g : G) (hf : g.fits) (F : FuncId) (cap : List AV) (p : Nat → Int → Bool) (hp : mayE g = 0 → ∀ (v : Nat) (h : v < g.next.length) (w : Int), v < g.owner.length → w ∈ g.next[v] → Pure Try.prog F ([.int .i64 v, .int .i64 w] ++ cap) (.bool (p v w))) :
    Pure Try.prog 45 [g.av, .clo F cap] (waysA g p) := by
  have hb := hf.owner
  intro h
  refine AC.body Θ_ok Try.func45 rfl rfl (Nat.le_of_ble_eq_true rfl) ?_
  refine AW.seq fun _ k1 => AW.region [4] Θ_ok ?_
  simp [newA]
  refine fun r hr => k1 _ ?_
  refine AW.seq fun _ k1 => ?_
  by_cases hm : mayE g = 0
  · have hn := (may_ok hm).2.1
    have h3 := (may_ok hm).1
    refine AW.seq fun _ k2 => AW.region [] Θ_ok ?_
    simp
    refine (graph_May g hf).use (by simp [G.av]) ?_
    try simp [hm]
    refine k2 _ ?_
    refine AW.cond false (by simp [Int.natCast_inj]) (fun h => by cases h) (fun _ => ?_)
    refine AW.skip ?_
    simp
    refine k1 _ ?_
    refine AW.seq fun _ k1 => AW.draw [20, 5] 9 [] Θ_ok mixed (by kernel_rfl) (by kernel_rfl) ?_
    simp [vcDraw, vcPre, vcTail, callA, isAlloc, isLoad, effOp, obl, obA, mkOK, valA]
    refine ⟨_, (slices_Clone g.owner hb).wk (by simp), ?_⟩
    simp
    refine ⟨⟨by omega, by omega⟩, fun o ho q hq => k1 _ ?_⟩
    obtain ⟨hor, ho0⟩ := ne_of_none ho (by simp)
    obtain ⟨hqo, hq1⟩ := ne_of_none hq (by simp)
    obtain ⟨hqr, hq0⟩ := ne_of_none hq1 (by simp)
    rw [replicate_tab, flat_tab (fun _ _ => rfl), upd_comm _ _ _ (Ne.symm hqo)]
    obtain ⟨H0, hH0⟩ : ∃ H0, H0 = upd (upd h r (some ⟨[.nils, .nils], 25, 2, true⟩)) q (some ⟨[.ro false (ints g.owner), .mu o g.next.length], 25, 2, true⟩) := ⟨_, rfl⟩
    have hoH : H0 o = none := by rw [hH0, upd_ne _ _ (Ne.symm hqo)]; exact ho
    have hqH : H0 q = some ⟨[.ro false (ints g.owner), .mu o g.next.length], 25, 2, true⟩ := by rw [hH0, upd_same]
    rw [← hH0]
    refine AW.family 3 1 hoH fun f N => ?_
    refine AW.seq fun _ k1 => ?_
    refine AW.seq fun _ k2 => AW.region [] Θ_ok ?_
    simp
    refine k2 _ ?_
    refine AW.block ?_
    have hst : FH H0 o ⟨tab g.next.length fun i => .mu (f i) 0, 22, 1, true⟩ f g.next.length (fun _ => ⟨[], 3, 1, false⟩) = FH H0 o (wayC g p f 0 0) f g.next.length (wayR g p (fun _ => false) 0 0) := by
      have e : wayR g p (fun _ => false) 0 0 = fun _ => ⟨[], 3, 1, false⟩ := by funext w; simp [wayR, waysS_zero]
      rw [e]; simp [wayC, waysS_zero]
    rw [hst]
    refine AW.loopI (X := WX) (fun s => FN H0 o s.f g.next.length ∧ s.x ≤ g.next.length)
      (fun s => ⟨55, [(25, .int .i64 s.x), (24, .int .i64 g.next.length), (23, .ro false (rows g.next)), (4, .ptr r 0), (5, .ptr q 0), (1, .clo F cap)], FH H0 o (wayC g p s.f s.x 0) s.f g.next.length (wayR g p s.nn s.x 0)⟩)
      (fun s => g.next.length - s.x) ⟨f, fun _ => false, 0, 0⟩ ⟨N, Nat.zero_le _⟩ (GStep.eq (by simp) (subH.refl _)) ?_
    clear N hst f
    rintro ⟨f, nn, x, _⟩ ⟨N, hx⟩
    simp only at N hx ⊢
    refine AW.seq fun _ k2 => AW.region [] Θ_ok ?_
    simp
    refine k2 _ ?_
    by_cases hlt : x < g.next.length
    · have hlr := hf.row _ (List.getElem_mem hlt)
      have inc := wrap_succ (show x < 9223372036854775807 by omega)
      refine AW.seq fun _ k2 => AW.cond true (by simp [Int.natCast_inj, hlt]) (fun _ => ?_) (fun h => by cases h)
      refine AW.skip ?_
      simp
      refine k2 _ ?_
      refine AW.seq fun _ k2 => ?_
      refine AW.block ?_
      refine AW.seq fun _ k3 => AW.region [] Θ_ok ?_
      simp [hlt]
      refine k3 _ ?_
      refine AW.seq fun _ k3 => AW.region [] Θ_ok ?_
      simp
      refine k3 _ ?_
      refine AW.block ?_
      refine AW.loopI (X := WX) (fun s => FN H0 o s.f g.next.length ∧ s.y ≤ g.next[x].length)
        (fun s => ⟨55, [(32, .int .i64 s.y), (31, .int .i64 g.next[x].length), (30, .ro false (ints g.next[x])), (6, .int .i64 x), (25, .int .i64 x), (24, .int .i64 g.next.length), (23, .ro false (rows g.next)), (4, .ptr r 0), (5, .ptr q 0), (1, .clo F cap)], FH H0 o (wayC g p s.f x s.y) s.f g.next.length (wayR g p s.nn x s.y)⟩)
        (fun s => g.next[x].length - s.y) ⟨f, nn, x, 0⟩ ⟨N, Nat.zero_le _⟩ (GStep.eq (by simp) (subH.refl _)) ?_
      clear N f nn
      rintro ⟨f, nn, _, y⟩ ⟨N, hy⟩
      simp only at N hy ⊢
      refine AW.seq fun _ k3 => AW.region [] Θ_ok ?_
      simp
      refine k3 _ ?_
      by_cases hly : y < g.next[x].length
      · have incy := wrap_succ (show y < 9223372036854775807 by omega)
        have hstep := waysS_step g p hlt hly
        have sp := hp hm x hlt _ (by omega) (List.getElem_mem hly)
        refine AW.seq fun _ k3 => AW.cond true (by simp [Int.natCast_inj, hly]) (fun _ => ?_) (fun h => by cases h)
        refine AW.skip ?_
        simp
        refine k3 _ ?_
        refine AW.seq fun _ k3 => ?_
        refine AW.block ?_
        refine AW.seq fun _ k4 => AW.region [] Θ_ok ?_
        simp [hly]
        refine k4 _ ?_
        refine AW.seq fun _ k4 => AW.region [] Θ_ok ?_
        simp
        refine sp.use (by simp) ?_
        refine k4 _ ?_
        cases hpw : p x g.next[x][y]
        · have eC : wayC g p f x y = wayC g p f x (y + 1) := by
            simp only [wayC]; congr 1
            exact tab_congr fun i _ => by rw [hstep, hpw]; simp
          have eR : wayR g p nn x y = wayR g p nn x (y + 1) := by
            funext i; simp only [wayR]; rw [hstep, hpw]; simp
          refine AW.cond false (by simp [Int.natCast_inj, hpw]) (fun h => by cases h) (fun _ => ?_)
          refine AW.skip ?_
          simp
          refine k3 _ ?_
          rw [eC, eR]
          refine AW.region [] Θ_ok ?_
          simp
          exact ⟨⟨f, nn, 0, y + 1⟩, ⟨N, hly⟩, by simp only; omega, GStep.eq (by simp [incy]) (subH.refl _)⟩
        · have hO : FH H0 o (wayC g p f x y) f g.next.length (wayR g p nn x y) o = some (wayC g p f x y) := FN.at_out
          have hW := N.at_row (C := wayC g p f x y) (R := wayR g p nn x y) hlt
          have hqf : ∀ i, i < g.next.length → f i ≠ q := by
            intro i hi e
            have := N.free i hi
            rw [e, hqH] at this; cases this
          have hQ : FH H0 o (wayC g p f x y) f g.next.length (wayR g p nn x y) q = some ⟨[.ro false (ints g.owner), .mu o g.next.length], 25, 2, true⟩ := by rw [FN.at_else hqo hqf]; exact hqH
          have hbl := waysS_len hm p (y := y) hlt
          have hC : (wayC g p f x y).cells[x]? = some (.mu (f x) (waysS g p x y x).length) := by simp [wayC, getElem?_tab, hlt]
          have hCl : (wayC g p f x y).cells.length = g.next.length := by simp [wayC]
          have hL : (wayC g p f x y).cells.drop x = .mu (f x) (waysS g p x y x).length :: (wayC g p f x y).cells.drop (x + 1) := by
            have hh : x < (wayC g p f x y).cells.length := by rw [hCl]; exact hlt
            rw [List.drop_eq_getElem_cons hh]
            rw [List.getElem?_eq_getElem hh] at hC
            rw [Option.some.inj hC]
          refine AW.cond true (by simp [Int.natCast_inj, hpw]) (fun _ => ?_) (fun h => by cases h)
          refine AW.draw [] 10 [1, 4] Θ_ok mixed (by kernel_rfl) (by kernel_rfl) ?_
          simp [vcDraw, vcPre, vcTail, callA, isAlloc, isLoad, effOp, obl, obA, mkOK, valA, hO, hL, hlt, hW, hQ, appendA, wayR]
          refine ⟨rfl, by omega, fun n' hn' => ?_⟩
          have hft : List.take (waysS g p x y x).length (ints (waysS g p x y x)) = ints (waysS g p x y x) := List.take_of_length_le (by simp)
          rw [hft]
          have stepC : (⟨(wayC g p f x y).cells.set x (.mu n' ((waysS g p x y x).length + 1)), (wayC g p f x y).ty, (wayC g p f x y).sz, (wayC g p f x y).nn⟩ : Ob) = wayC g p (fun i => if i = x then n' else f i) x (y + 1) := by
            simp only [wayC, set_tab]
            congr 1
            refine tab_congr fun i _ => ?_
            rw [hstep, hpw]
            by_cases e : i = x
            · subst e; simp
            · simp [e]
          have stepR : (fun i => if i = x then (⟨ints (waysS g p x y x) ++ [.int .i64 g.next[x][y]], 3, 1, true⟩ : Ob) else wayR g p nn x y i) = wayR g p (fun i => if i = x then true else nn i) x (y + 1) := by
            funext i
            simp only [wayR]
            rw [hstep, hpw]
            by_cases e : i = x
            · subst e; simp
            · simp [e]
          obtain ⟨N', he⟩ := N.grow (C' := wayC g p (fun i => if i = x then n' else f i) x (y + 1)) hlt ⟨ints (waysS g p x y x) ++ [.int .i64 g.next[x][y]], 3, 1, true⟩ hn'
          obtain ⟨q1, q2, q3⟩ := N.fresh hn'
          have hqn : q ≠ n' := by rintro rfl; rw [hqH] at q3; cases q3
          have hno : upd (upd (FH H0 o (wayC g p f x y) f g.next.length (wayR g p nn x y)) (f x) none) n' (some ⟨ints (waysS g p x y x) ++ [.int .i64 g.next[x][y]], 3, 1, true⟩) o = some (wayC g p f x y) := by
            rw [upd_ne _ _ (Ne.symm q1), upd_ne _ _ (Ne.symm (N.ne x hlt))]; exact hO
          have hnq : upd (upd (FH H0 o (wayC g p f x y) f g.next.length (wayR g p nn x y)) (f x) none) n' (some ⟨ints (waysS g p x y x) ++ [.int .i64 g.next[x][y]], 3, 1, true⟩) q = some ⟨[.ro false (ints g.owner), .mu o g.next.length], 25, 2, true⟩ := by
            rw [upd_ne _ _ hqn, upd_ne _ _ (Ne.symm (hqf x hlt))]; exact hQ
          rw [hno, hnq]
          simp only
          rw [upd_ne _ _ hqo, hnq]
          refine ⟨rfl, ⟨trivial, by rw [hCl]; exact hlt⟩, rfl, k3 _ ?_⟩
          rw [stepC, he, stepR]
          refine AW.region [] Θ_ok ?_
          simp
          exact ⟨⟨_, _, 0, y + 1⟩, ⟨N', hly⟩, by simp only; omega, GStep.eq (by simp [incy]) (subH.refl _)⟩
      · obtain rfl : y = g.next[x].length := by omega
        refine AW.seq fun _ k3 => AW.cond false (by simp [Int.natCast_inj]) (fun h => by cases h) (fun _ => ?_)
        refine AW.exit ?_
        simp
        refine k2 _ ?_
        rw [wayC_next g p f hlt, wayR_next g p nn hlt]
        refine AW.region [] Θ_ok ?_
        simp
        exact ⟨⟨f, nn, x + 1, 0⟩, ⟨N, hlt⟩, by simp only; omega, GStep.eq (by simp [inc]) (subH.refl _)⟩
    · obtain rfl : x = g.next.length := by omega
      refine AW.seq fun _ k2 => AW.cond false (by simp [Int.natCast_inj]) (fun h => by cases h) (fun _ => ?_)
      refine AW.exit ?_
      simp
      refine k1 _ ?_
      have hA : wayC g p f g.next.length 0 = ⟨tab g.next.length fun i => if i < g.next.length then .mu (f i) (waysS g p g.next.length 0 i).length else .ro false (ints (waysRow g p i)), 22, 1, true⟩ := by
        simp only [wayC]
        congr 1
        exact tab_congr fun i hi => by simp [hi]
      rw [hA]
      refine AW.ghost (GStep.rows N (R := wayR g p nn g.next.length 0) (fun _ _ => rfl) (fun i _ => by simp [wayR]) (fun i _ u hu => ?_) (fun i hi => ?_) g.next.length (Nat.le_refl _)) ?_
      · simp only [wayR, List.mem_map] at hu; obtain ⟨_, _, rfl⟩ := hu; rfl
      · simp only [wayR, waysS, if_pos hi]
      have ones : ∀ u ∈ (tab g.next.length fun i => AV.ro false (ints (waysRow g p i))), u.flat = [u] := by
        intro u hu; obtain ⟨i, _, rfl⟩ := mem_tab.1 hu; rfl
      refine AW.ghost (GStep.cell (p := q) (j := 1) (x := ⟨[.ro false (ints g.owner), .mu o g.next.length], 25, 2, true⟩) (v := .mu o g.next.length) (by dsimp only; rw [upd_ne _ _ hqo]; exact hqH) rfl
        (GV.freeze (k := true) (xs := tab g.next.length fun i => AV.ro false (ints (waysRow g p i))) (upd_same _ _ _) (fun _ => rfl) (by simp) (fun y hy => by rw [ones y hy]; rfl) (by rw [flat_ones ones]; simp [List.take_of_length_le])) (by rw [upd_upd, upd_ne _ _ hqo]; exact hqH) (by simp)) ?_
      simp only [upd_upd, upd_none_id hoH]
      have hrH : H0 r = some ⟨[.nils, .nils], 25, 2, true⟩ := by rw [hH0, upd_ne _ _ (Ne.symm hqr), upd_same]
      refine AW.seq fun _ kr => AW.region [] Θ_ok ?_
      simp [upd_at, hrH, Ne.symm hqr]
      refine kr _ (AW.ret ?_)
      simp [Try.f45, upd_at]
      refine ⟨_, h, GV.sub (fun z X hz => ?_), by simp [waysA, hm, waysL], rfl⟩
      have z1 : z ≠ q := by rintro rfl; rw [hq0] at hz; cases hz
      have z2 : z ≠ r := by rintro rfl; rw [hr] at hz; cases hz
      rw [upd_ne _ _ z2, upd_ne _ _ z1, hH0, upd_ne _ _ z1, upd_ne _ _ z2]
      exact hz
  · refine AW.seq fun _ k2 => AW.region [] Θ_ok ?_
    simp
    refine (graph_May g hf).use (by simp [G.av]) ?_
    try simp [hm]
    refine k2 _ ?_
    refine AW.cond true (by simp [Int.natCast_inj, hm]) (fun _ => ?_) (fun h => by cases h)
    refine AW.seq fun _ kr => AW.region [] Θ_ok ?_
    simp [upd_same]
    refine kr _ (AW.ret ?_)
    simp [Try.f45, upd_same]
    exact ⟨_, h, GV.sub (subH_upd hr), by simp [waysA, hm], rfl⟩
end Go.Par
