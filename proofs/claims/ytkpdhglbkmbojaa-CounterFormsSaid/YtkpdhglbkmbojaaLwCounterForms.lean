import Derived.Test.YtkpdhglbkmbojaaPlI
import Derived.Test.YtkpdhglbkmbojaaCnG
import Derived.Test.YtkpdhglbkmbojaaCnH
set_option linter.unusedSimpArgs false
set_option maxRecDepth 8000
namespace Go.Par
open Go.Proofs

theorem r9_Same (a b : G) (ha : a.fits) : Pure Try.prog 18 [a.av, b.av] (.bool (decide (a.owner = b.owner) && decide (a.next = b.next))) := by
  have h1 := ha.owner
  have h2 := ha.next
  intro h
  refine AC.body Θ_ok Try.func18 rfl rfl (Nat.le_of_ble_eq_true rfl) ?_
  refine AW.seq fun _ k1 => AW.region [] Θ_ok ?_
  simp
  refine k1 _ ?_
  refine AW.seq fun _ kr => AW.regionAt 5 [] Θ_ok fun B hB => ?_
  simp [G.av]
  refine (r9_SameInts a.owner b.owner (by omega)).use (by simp) ?_
  by_cases e : a.owner = b.owner
  · refine hB _ ?_
    clear hB B
    refine vcOps_split 6 fun B hB => ?_
    simp [e]
    refine (r9_SameNext a.next b.next (by omega) (fun l hl => by have := ha.row l hl; omega)).use (by simp) ?_
    refine hB _ ?_
    clear hB B
    simp
    refine kr _ (AW.ret ?_)
    simp [Try.f18]
    exact Fin.refl ⟨by simp [e], rfl⟩
  · refine hB _ ?_
    clear hB B
    simp [e]
    refine kr _ (AW.ret ?_)
    simp [Try.f18]
    exact Fin.refl ⟨by simp [e], rfl⟩

theorem cgA_shape (g : G) (A E : List (List Bool)) (hf : g.fits) : ∃ a b c : AV, ∃ (D : G) (l : List Int), cgA g A E = .tup [.agg [a, b], c, .int .i64 (cgErr g A E)] ∧ a.one = true ∧ b.one = true ∧ weak (.agg [a, b]) = D.av ∧ weak c = .ro false (ints l) ∧ D.fits ∧ l.length ≤ 1152921504606846976 := by
  by_cases hE : cgErr g A E = 0
  · obtain ⟨hm, hk, k0, a4, e4, ke, hn⟩ := cg_ok hE
    refine ⟨_, _, _, cgG g A E, cgP g A E, by rw [cgA, if_pos hE, hE], rfl, rfl, by simp [G.av], by simp, ?_, by simp [cgP]; omega⟩
    refine ⟨by simp [cgG]; omega, by simp [cgG]; omega, fun l hl => ?_⟩
    obtain ⟨i, hi, rfl⟩ := mem_tab.1 hl
    have hv := cg_div hi
    have hn2 := (may_ok hm).2.1
    have hv' : i / memsN A.length E.length < g.next.length := by omega
    have := hf.row _ (List.getElem_mem hv')
    simpa [cgRow, hv'] using this
  · exact ⟨_, _, _, ⟨[], []⟩, [], by rw [cgA, if_neg hE], rfl, rfl, by simp [G.av], by simp, ⟨by simp, by simp, by simp⟩, by simp⟩

theorem law_CounterForms (g : G) (hg : g.wide) (la : List (List Bool)) (hA : (DK.sl (.sl .bool)).fits la) (lb : List (List Bool)) (hB : (DK.sl (.sl .bool)).fits lb) (p : Int) (_ : DK.fits .int p) (q : Int) (_ : DK.fits .int q) :
    Pure Try.prog 5 [g.av, .ro false (bools2 la), .ro false (bools2 lb), .int .i64 p, .int .i64 q] (.bool true) := by
  have hf := hg.f
  have sH := l18_Heavy g hf la lb (G.wide.rows2 hA) (G.wide.rows2 hB)
  have sG := counter_Game g hf la lb
  have sC := r9_Counter g hf la lb
  obtain ⟨a, b, c, D, l, eA, g1, g2, g3, g4, fD, hl⟩ := cgA_shape g la lb hf
  rw [eA] at sG sC
  generalize cgErr g la lb = e at *
  intro h
  refine AC.body Θ_ok Try.func5 rfl rfl (Nat.le_of_ble_eq_true rfl) ?_
  refine AW.seq fun _ k1 => AW.region [] Θ_ok ?_
  simp
  refine k1 _ ?_
  refine AW.seq fun _ k1 => ?_
  refine AW.seq fun _ k2 => AW.regionAt 4 [] Θ_ok fun B hB => ?_
  simp
  refine sH.use (by simp [G.av]) ?_
  by_cases c0 : 0 < heavy18 g la lb
  · refine hB _ ?_
    clear hB B
    simp [c0]
    refine k2 _ ?_
    refine AW.cond true (by simp [Int.natCast_inj]) (fun _ => ?_) (fun h => by cases h)
    refine AW.seq fun _ kr => AW.region [] Θ_ok ?_
    simp
    refine (l20_awake).use (by simp [G.av]) ?_
    try simp
    refine kr _ (AW.ret ?_)
    simp [Try.f5]
    exact Fin.refl ⟨rfl, rfl⟩
  refine hB _ ?_
  clear hB B
  simp [c0]
  refine k2 _ ?_
  refine AW.cond false (by simp [Int.natCast_inj]) (fun h => by cases h) (fun _ => ?_)
  refine AW.skip ?_
  simp
  refine k1 _ ?_
  refine AW.seq fun _ k1 => AW.regionAt 4 [11] Θ_ok fun B hB => ?_
  simp
  refine sG.use (by simp [G.av]) ?_
  refine hB _ ?_
  clear hB B
  simp [newA, upd_same, g1, g2]
  refine fun o ho => k1 _ ?_
  refine AW.box 11 rfl (upd_same _ _ _) ?_
  simp only [upd_upd_none ho]
  refine AW.seq fun _ k1 => AW.regionAt 4 [14] Θ_ok fun B hB => ?_
  simp
  refine sC.use (by simp [G.av]) ?_
  refine hB _ ?_
  clear hB B
  simp [newA, upd_same, g1, g2]
  refine fun o ho => k1 _ ?_
  refine AW.box 14 rfl (upd_same _ _ _) ?_
  simp only [upd_upd_none ho]
  rw [weak_agg] at g3
  simp only [List.map_cons, List.map_nil] at g3
  refine AW.seq fun _ kr => AW.regionAt 3 [] Θ_ok fun B hB => ?_
  simp
  refine (r9_Same D D fD).use (by simp [g3]) ?_
  refine hB _ ?_
  clear hB B
  refine vcOps_split 4 fun B hB => ?_
  simp
  refine (r9_SameInts l l hl).use (by simp [g4]) ?_
  refine hB _ ?_
  clear hB B
  refine vcOps_split 10 fun B hB => ?_
  simp
  refine (counter_Mems la lb).use (by simp) ?_
  refine hB _ ?_
  clear hB B
  refine vcOps_split 3 fun B hB => ?_
  simp
  refine (r9_Mems la lb).use (by simp) ?_
  refine hB _ ?_
  clear hB B
  refine vcOps_split 8 fun B hB => ?_
  simp
  refine (counter_At la lb p q).use (by simp) ?_
  refine hB _ ?_
  clear hB B
  refine vcOps_split 5 fun B hB => ?_
  simp
  refine (r9_At la lb p q).use (by simp) ?_
  refine hB _ ?_
  clear hB B
  refine vcOps_split 4 fun B hB => ?_
  simp
  refine l20_awake.use (by simp) ?_
  refine hB _ ?_
  clear hB B
  simp
  refine kr _ (AW.ret ?_)
  simp [Try.f5]
  exact Fin.refl ⟨rfl, rfl⟩
end Go.Par
