import Derived.Test.YtlpfokngocdanaaPlB
import Derived.Test.YtlpfokngocdanaaMaW
set_option linter.unusedSimpArgs false
set_option maxRecDepth 8000
namespace Go.Par
open Go.Proofs

def befL (g : G) : List (List Int) := tab g.owner.length fun w => bef g w
def befA (g : G) : AV := if mayE g = 0 then .ro true (rows (befL g)) else .nils

structure BX where
  f : Nat → Nat
  nn : Nat → Bool
  x : Nat
  y : Nat

def befR (g : G) (nn : Nat → Bool) (x y : Nat) : Nat → Ob := fun w => ⟨ints (befS g x y w), 3, 1, nn w⟩
def befC (g : G) (f : Nat → Nat) (x y : Nat) : Ob := ⟨tab g.owner.length fun w => .mu (f w) (befS g x y w).length, 22, 1, true⟩

theorem befR_next (g : G) (nn : Nat → Bool) {x : Nat} (hx : x < g.next.length) : befR g nn x g.next[x].length = befR g nn (x + 1) 0 := by
  funext w; simp only [befR, befS_next g hx]
theorem befC_next (g : G) (f : Nat → Nat) {x : Nat} (hx : x < g.next.length) : befC g f x g.next[x].length = befC g f (x + 1) 0 := by
  simp only [befC, befS_next g hx]

theorem graph_Before (g : G) (hf : g.fits) : Pure Try.prog 41 [g.av] (befA g) := by
  intro h
  refine AC.body Θ_ok Try.func41 rfl rfl (Nat.le_of_ble_eq_true rfl) ?_
  refine AW.seq fun _ k1 => AW.region [] Θ_ok ?_
  simp
  refine k1 _ ?_
  refine AW.seq fun _ k1 => ?_
  by_cases hm : mayE g = 0
  · have hn := (may_ok hm).2.1
    have h3 := (may_ok hm).1
    refine AW.seq fun _ k2 => AW.region [] Θ_ok ?_
    simp
    refine (graph_May g hf).use (by simp [G.av]) ?_
    try simp [hm]
    refine k2 _ ?_
    refine AW.cond false (by simp [Int.natCast_inj]) (fun h => by cases h) (fun _ => ?_)
    refine AW.skip ?_
    simp
    refine k1 _ ?_
    refine AW.seq fun _ k1 => AW.region [14] Θ_ok ?_
    simp
    refine ⟨by omega, fun o ho => k1 _ ?_⟩
    rw [replicate_tab, flat_tab (fun _ _ => rfl)]
    refine AW.family 3 1 ho fun f N => ?_
    refine AW.seq fun _ k1 => ?_
    refine AW.seq fun _ k2 => AW.region [] Θ_ok ?_
    simp
    refine k2 _ ?_
    refine AW.block ?_
    have hst : FH h o ⟨tab g.owner.length fun i => .mu (f i) 0, 22, 1, true⟩ f g.owner.length (fun _ => ⟨[], 3, 1, false⟩) = FH h o (befC g f 0 0) f g.owner.length (befR g (fun _ => false) 0 0) := by
      have e : befR g (fun _ => false) 0 0 = fun _ => ⟨[], 3, 1, false⟩ := by funext w; simp [befR, befS_zero]
      rw [e]; simp [befC, befS_zero]
    rw [hst]
    refine AW.loopI (X := BX) (fun s => FN h o s.f g.owner.length ∧ s.x ≤ g.next.length)
      (fun s => ⟨42, [(18, .int .i64 s.x), (17, .int .i64 g.next.length), (16, .ro false (rows g.next)), (3, .mu o g.owner.length)], FH h o (befC g s.f s.x 0) s.f g.owner.length (befR g s.nn s.x 0)⟩)
      (fun s => g.next.length - s.x) ⟨f, fun _ => false, 0, 0⟩ ⟨N, Nat.zero_le _⟩ (GStep.eq (by simp) (subH.refl _)) ?_
    clear N hst f
    rintro ⟨f, nn, x, _⟩ ⟨N, hx⟩
    simp only at N hx ⊢
    refine AW.seq fun _ k2 => AW.region [] Θ_ok ?_
    simp
    refine k2 _ ?_
    by_cases hlt : x < g.next.length
    · have hlr := hf.row _ (List.getElem_mem hlt)
      obtain ⟨_, hr⟩ := may_row hm (by omega) hlt
      have inc := wrap_succ (show x < 9223372036854775807 by omega)
      refine AW.seq fun _ k2 => AW.cond true (by simp [Int.natCast_inj, hlt]) (fun _ => ?_) (fun h => by cases h)
      refine AW.skip ?_
      simp
      refine k2 _ ?_
      refine AW.seq fun _ k2 => ?_
      refine AW.block ?_
      refine AW.seq fun _ k3 => AW.region [] Θ_ok ?_
      simp [hlt]
      refine k3 _ ?_
      refine AW.seq fun _ k3 => AW.region [] Θ_ok ?_
      simp
      refine k3 _ ?_
      refine AW.block ?_
      refine AW.loopI (X := BX) (fun s => FN h o s.f g.owner.length ∧ s.y ≤ g.next[x].length)
        (fun s => ⟨42, [(25, .int .i64 s.y), (24, .int .i64 g.next[x].length), (23, .ro false (ints g.next[x])), (4, .int .i64 x), (18, .int .i64 x), (17, .int .i64 g.next.length), (16, .ro false (rows g.next)), (3, .mu o g.owner.length)], FH h o (befC g s.f x s.y) s.f g.owner.length (befR g s.nn x s.y)⟩)
        (fun s => g.next[x].length - s.y) ⟨f, nn, x, 0⟩ ⟨N, Nat.zero_le _⟩ (GStep.eq (by simp) (subH.refl _)) ?_
      clear N f nn
      rintro ⟨f, nn, _, y⟩ ⟨N, hy⟩
      simp only at N hy ⊢
      refine AW.seq fun _ k3 => AW.region [] Θ_ok ?_
      simp
      refine k3 _ ?_
      by_cases hly : y < g.next[x].length
      · obtain ⟨w, hw⟩ : ∃ w : Nat, g.next[x][y] = (w : Int) := ⟨g.next[x][y].toNat, by have := (hr _ (List.getElem_mem hly)).1; omega⟩
        have hwn : w < g.owner.length := by have := (hr _ (List.getElem_mem hly)).2; omega
        have incy := wrap_succ (show y < 9223372036854775807 by omega)
        have hO : FH h o (befC g f x y) f g.owner.length (befR g nn x y) o = some (befC g f x y) := FN.at_out
        have hW := N.at_row (C := befC g f x y) (R := befR g nn x y) hwn
        have hbl := befS_len hm w (y := y) hlt
        have hC : (befC g f x y).cells[w]? = some (.mu (f w) (befS g x y w).length) := by simp [befC, getElem?_tab, hwn]
        have hL : (befC g f x y).cells.drop w = .mu (f w) (befS g x y w).length :: (befC g f x y).cells.drop (w + 1) := by
          have hh : w < (befC g f x y).cells.length := by simp [befC, hwn]
          rw [List.drop_eq_getElem_cons hh]
          rw [List.getElem?_eq_getElem hh] at hC
          rw [Option.some.inj hC]
        have hCl : (befC g f x y).cells.length = g.owner.length := by simp [befC]
        refine AW.seq fun _ k3 => AW.cond true (by simp [Int.natCast_inj, hly]) (fun _ => ?_) (fun h => by cases h)
        refine AW.skip ?_
        simp
        refine k3 _ ?_
        refine AW.seq fun _ k3 => ?_
        refine AW.block ?_
        refine AW.seq fun _ k4 => AW.region [] Θ_ok ?_
        simp [hly, hw]
        refine k4 _ ?_
        refine AW.region [] Θ_ok ?_
        simp [hO, hL, hwn, hW, appendA, befR]
        refine ⟨rfl, by omega, fun n' hn' => ?_⟩
        have hft : List.take (befS g x y w).length (ints (befS g x y w)) = ints (befS g x y w) := List.take_of_length_le (by simp)
        have stepC : (⟨(befC g f x y).cells.set w (.mu n' ((befS g x y w).length + 1)), (befC g f x y).ty, (befC g f x y).sz, (befC g f x y).nn⟩ : Ob) = befC g (fun i => if i = w then n' else f i) x (y + 1) := by
          simp only [befC, set_tab]
          congr 1
          refine tab_congr fun i _ => ?_
          rw [befS_step g hlt hly, hw]
          by_cases e : i = w
          · subst e; simp
          · have e' : ¬ (w : Int) = (i : Int) := by omega
            simp [e, e']
        have stepR : (fun i => if i = w then (⟨ints (befS g x y w) ++ [.int .i64 x], 3, 1, true⟩ : Ob) else befR g nn x y i) = befR g (fun i => if i = w then true else nn i) x (y + 1) := by
          funext i
          simp only [befR]
          rw [befS_step g hlt hly, hw]
          by_cases e : i = w
          · subst e; simp
          · have e' : ¬ (w : Int) = (i : Int) := by omega
            simp [e, e']
        obtain ⟨N', he⟩ := N.grow (C' := befC g (fun i => if i = w then n' else f i) x (y + 1)) hwn ⟨ints (befS g x y w) ++ [.int .i64 x], 3, 1, true⟩ hn'
        obtain ⟨q1, q2, q3⟩ := N.fresh hn'
        rw [hft]
        have hno : upd (upd (FH h o (befC g f x y) f g.owner.length (befR g nn x y)) (f w) none) n' (some ⟨ints (befS g x y w) ++ [.int .i64 x], 3, 1, true⟩) o = some (befC g f x y) := by
          rw [upd_ne _ _ (Ne.symm q1), upd_ne _ _ (Ne.symm (N.ne w hwn))]; exact hO
        rw [hno]
        simp only
        refine ⟨⟨trivial, by rw [hCl]; exact hwn⟩, k3 _ ?_⟩
        rw [stepC, he, stepR]
        refine AW.region [] Θ_ok ?_
        simp
        exact ⟨⟨_, _, 0, y + 1⟩, ⟨N', hly⟩, by simp only; omega, GStep.eq (by simp [incy]) (subH.refl _)⟩
      · obtain rfl : y = g.next[x].length := by omega
        refine AW.seq fun _ k3 => AW.cond false (by simp [Int.natCast_inj]) (fun h => by cases h) (fun _ => ?_)
        refine AW.exit ?_
        simp
        refine k2 _ ?_
        rw [befC_next g f hlt, befR_next g nn hlt]
        refine AW.region [] Θ_ok ?_
        simp
        exact ⟨⟨f, nn, x + 1, 0⟩, ⟨N, hlt⟩, by simp only; omega, GStep.eq (by simp [inc]) (subH.refl _)⟩
    · obtain rfl : x = g.next.length := by omega
      refine AW.seq fun _ k2 => AW.cond false (by simp [Int.natCast_inj]) (fun h => by cases h) (fun _ => ?_)
      refine AW.exit ?_
      simp
      refine k1 _ ?_
      have hA : befC g f g.next.length 0 = ⟨tab g.owner.length fun i => if i < g.owner.length then .mu (f i) (befS g g.next.length 0 i).length else .ro false (ints (bef g i)), 22, 1, true⟩ := by
        simp only [befC]
        congr 1
        exact tab_congr fun i hi => by simp [hi]
      rw [hA]
      refine AW.ghost (GStep.rows N (R := befR g nn g.next.length 0) (fun _ _ => rfl) (fun i _ => by simp [befR]) (fun i _ u hu => ?_) (fun i _ => ?_) g.owner.length (Nat.le_refl _)) ?_
      · simp only [befR, List.mem_map] at hu; obtain ⟨_, _, rfl⟩ := hu; rfl
      · simp only [befR, bef]; rw [befS_sorted hm i (Nat.le_refl _)]
      refine AW.seq fun _ kr => AW.region [] Θ_ok ?_
      simp
      refine kr _ (AW.ret ?_)
      simp [Try.f41]
      refine Fin.freeze (k := true) (upd_same _ _ _) (fun _ => rfl) rfl (by simp) (fun u hu => ?_) h (by simp [upd_none_id ho]; exact subH.refl _) ⟨?_, rfl⟩
      · simp only [mem_tab] at hu
        obtain ⟨i, _, rfl⟩ := hu
        rfl
      · simp [befA, hm, befL]
  · refine AW.seq fun _ k2 => AW.region [] Θ_ok ?_
    simp
    refine (graph_May g hf).use (by simp [G.av]) ?_
    try simp [hm]
    refine k2 _ ?_
    refine AW.cond true (by simp [Int.natCast_inj, hm]) (fun _ => ?_) (fun h => by cases h)
    refine AW.seq fun _ kr => AW.region [] Θ_ok ?_
    simp
    refine kr _ (AW.ret ?_)
    simp [Try.f41]
    exact Fin.refl ⟨by simp [befA, hm], rfl⟩
end Go.Par
