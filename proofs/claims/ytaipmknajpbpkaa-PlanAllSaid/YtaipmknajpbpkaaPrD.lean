import Derived.Test.YtaipmknajpbpkaaPrC
set_option linter.unusedSimpArgs false
set_option linter.unusedVariables false
set_option linter.unusedSectionVars false
set_option maxRecDepth 8000
set_option maxHeartbeats 1000000
namespace Go.Par
open Go.Proofs

section
variable {h0 : Heap} {k : ZN} {F : List (Nat × Ob)} (g : G) (hf : g.fits) {P : List Int} (ok : POk g P) (W T : List Int)
include hf ok

theorem pz_halves {f : Nat} {in_ best rest : List Bool} {who : Int} (hin : in_.length = g.owner.length) (hbl : best.length = g.owner.length) (hrl : rest.length = g.owner.length) (hw01 : who = 0 ∨ who = 1) (N : ZNok h0 k ((f, obF ⟨in_, 1, who, best, rest⟩) :: F)) (hF : F.length ≤ 100000) (hW : W.length = g.owner.length) (hT : T.length = g.owner.length)
    {other back : List Bool} (eoth : other = wonL (1 - who) rest W) (eback : back = goesR g (1 - who) in_ other) :
    AC Try.prog 92 [.ptr k.s 0, .ptr f 0] (ZH h0 k g P W T ((f, obF ⟨in_, 1, who, best, rest⟩) :: F)) fun _ h' =>
      (anyL g other = false ∧ h' = ZH h0 k g P (winsX g.owner.length who in_ W) (staysX g who in_ best T) F) ∨
      (anyL g other = true ∧ ∃ f2 q', ZNok h0 ⟨k.s, k.w, k.t, q', true⟩ ((f2, obF ⟨lessL g in_ back, 0, 0, [], []⟩) :: (f, obF ⟨in_, 2, who, best, rest⟩) :: F) ∧
        h' = ZH h0 ⟨k.s, k.w, k.t, q', true⟩ g P (winsX g.owner.length (1 - who) back W) (goesX g (1 - who) in_ other T) ((f2, obF ⟨lessL g in_ back, 0, 0, [], []⟩) :: (f, obF ⟨in_, 2, who, best, rest⟩) :: F)) := by
  have hn := (may_ok ok.m).1
  have NX : ∀ X, ZNok h0 k ((f, X) :: F) := fun _ => N
  have fs := fun X W T => ZH.s (NX X) g P W T
  have ff := fun X W T => ZH.fr (NX X) g P W T
  have fp := fun X X' W T => ZH.putF (NX X) g P W T X'
  have e1 : obF ⟨in_, 1, who, best, rest⟩ = fo in_ 1 who (.ro true (bools best)) (.ro true (bools rest)) := fo_one in_ 0 who best rest
  have e2 : obF ⟨in_, 2, who, best, rest⟩ = fo in_ 2 who (.ro true (bools best)) (.ro true (bools rest)) := fo_one in_ 1 who best rest
  have w1 : IntKind.i64.wrap (1 - who) = 1 - who := wrap_id (by omega) (by omega)
  have lo : other.length = g.owner.length := by rw [eoth, wonL, length_tab]; exact hrl
  have lb : back.length = g.owner.length := by rw [eback]; exact len_and _ _ _
  have sw := pz_won N g hf P W T (1 - who) rest hrl hW hn
  rw [← eoth] at sw
  have sa := pz_any N g hf P W T other
  have ss := pz_stays N g hf P W T who in_ best hin hbl hT ok.m
  have swi := pz_wins N g hf P W (staysX g who in_ best T) who in_ hin hW hn
  have spp := pz_pop (ZNok.less N) g hf P (winsX g.owner.length who in_ W) (staysX g who in_ best T) N (by omega)
  have sg := pz_goes N g hf P W T (1 - who) (by omega) in_ other hin (by omega) hT ok.m
  rw [← eback] at sg
  have swi2 := pz_wins N g hf P W (goesX g (1 - who) in_ other T) (1 - who) back lb hW hn
  have h1 := ff (obF ⟨in_, 1, who, best, rest⟩) W T
  have h1s := ff (obF ⟨in_, 1, who, best, rest⟩) W (staysX g who in_ best T)
  have h1g := ff (obF ⟨in_, 1, who, best, rest⟩) W (goesX g (1 - who) in_ other T)
  have h1w := ff (obF ⟨in_, 1, who, best, rest⟩) (winsX g.owner.length (1 - who) back W) (goesX g (1 - who) in_ other T)
  have p1 := fun X' => fp (obF ⟨in_, 1, who, best, rest⟩) X' (winsX g.owner.length (1 - who) back W) (goesX g (1 - who) in_ other T)
  rw [e1] at *
  generalize winsX g.owner.length who in_ W = Wa at *
  generalize staysX g who in_ best T = Ta at *
  generalize winsX g.owner.length (1 - who) back W = Wb at *
  generalize goesX g (1 - who) in_ other T = Tb at *
  generalize ZH h0 k g P W T ((f, fo in_ 1 who (.ro true (bools best)) (.ro true (bools rest))) :: F) = H at *
  generalize ZH h0 k g P W Ta ((f, fo in_ 1 who (.ro true (bools best)) (.ro true (bools rest))) :: F) = H2 at *
  generalize ZH h0 k g P Wa Ta ((f, fo in_ 1 who (.ro true (bools best)) (.ro true (bools rest))) :: F) = H3 at *
  generalize ZH h0 k g P W Tb ((f, fo in_ 1 who (.ro true (bools best)) (.ro true (bools rest))) :: F) = H4 at *
  generalize ZH h0 k g P Wb Tb ((f, fo in_ 1 who (.ro true (bools best)) (.ro true (bools rest))) :: F) = H5 at *
  refine AC.body Θ_ok Try.func92 rfl rfl (Nat.le_of_ble_eq_true rfl) ?_
  refine AW.seq fun _ k1 => AW.draw [] 10 [4] Θ_ok mixed (by kernel_rfl) (by kernel_rfl) ?_
  simp [vcDraw, vcPre, vcTail, callA, isAlloc, isLoad, effOp, obl, obA, mkOK, valA, h1, w1]
  refine sw.mono ?_
  rintro r h' ⟨rfl, rfl⟩
  simp [h1]
  refine k1 _ ?_
  refine AW.seq fun _ k1 => ?_
  refine AW.seq fun _ k2 => AW.regionAt 3 [] Θ_ok fun B hB => ?_
  simp
  refine (sa.wk (by simp)).mono ?_
  rintro r h' ⟨rfl, rfl⟩
  generalize hav : anyL g other = av at *
  refine hB _ ?_
  clear hB B
  simp
  refine k2 _ ?_
  cases av
  · refine AW.cond true (by simp [Int.natCast_inj]) (fun _ => ?_) (fun h => by cases h)
    refine AW.seq fun _ k1 => AW.draw [] 13 [] Θ_ok mixed (by kernel_rfl) (by kernel_rfl) ?_
    simp [vcDraw, vcPre, vcTail, callA, isAlloc, isLoad, effOp, obl, obA, mkOK, valA, h1]
    refine ss.mono ?_
    rintro r h' rfl
    refine k1 _ ?_
    refine AW.seq fun _ k1 => AW.draw [] 9 [] Θ_ok mixed (by kernel_rfl) (by kernel_rfl) ?_
    simp [vcDraw, vcPre, vcTail, callA, isAlloc, isLoad, effOp, obl, obA, mkOK, valA, h1s]
    refine swi.mono ?_
    rintro r h' rfl
    refine k1 _ ?_
    refine AW.seq fun _ k1 => AW.regionAt 2 [] Θ_ok fun B hB => ?_
    simp
    refine spp.mono ?_
    rintro r h' rfl
    refine hB _ ?_
    refine k1 _ (AW.ret ?_)
    simp [Try.f92]
    exact Fin.refl rfl
  · refine AW.cond false (by simp [Int.natCast_inj]) (fun h => by cases h) (fun _ => ?_)
    refine AW.skip ?_
    simp
    refine k1 _ ?_
    refine AW.seq fun _ k1 => AW.draw [] 11 [4] Θ_ok mixed (by kernel_rfl) (by kernel_rfl) ?_
    simp [vcDraw, vcPre, vcTail, callA, isAlloc, isLoad, effOp, obl, obA, mkOK, valA, h1, w1]
    refine sg.mono ?_
    rintro r h' ⟨rfl, rfl⟩
    simp [h1g]
    refine k1 _ ?_
    refine AW.seq fun _ k1 => AW.regionAt 8 [] Θ_ok fun B hB => ?_
    simp [h1g, w1]
    refine swi2.mono ?_
    rintro r h' rfl
    refine hB _ ?_
    clear hB B
    refine k1 _ ?_
    refine AW.seq fun _ k1 => AW.region [] Θ_ok ?_
    simp [h1w, p1, fo_mk]
    refine k1 _ ?_
    clear h1 h1s h1g h1w p1 sw sa ss swi spp sg swi2
    have h1 := ff (fo in_ 2 who (.ro true (bools best)) (.ro true (bools rest))) Wb Tb
    have sl := pz_less (NX (fo in_ 2 who (.ro true (bools best)) (.ro true (bools rest)))) g hf P Wb Tb in_ back
    have sp := pz_push (NX (fo in_ 2 who (.ro true (bools best)) (.ro true (bools rest)))) g hf P Wb Tb (lessL g in_ back) (by simp; omega)
    generalize ZH h0 k g P Wb Tb ((f, fo in_ 2 who (.ro true (bools best)) (.ro true (bools rest))) :: F) = H6 at *
    refine AW.regionAt 8 [] Θ_ok fun B hB => ?_
    simp [h1]
    refine (sl.wk (by simp)).mono ?_
    rintro r h' ⟨rfl, rfl⟩
    refine hB _ ?_
    clear hB B
    simp [Try.f92]
    refine sp.mono ?_
    rintro r h' ⟨f2, q', N2, rfl⟩
    refine Fin.refl ⟨f2, q', ?_, ?_⟩
    · rw [e2]; exact N2
    · rw [e2]

theorem pz_solve1 {f : Nat} {X : Ob} (N : ZNok h0 k ((f, X) :: F)) (hF : F.length ≤ 100000) (a : AV) :
    AC Try.prog 93 [a, .rop [.ptr k.s 0]] (ZH h0 k g P W T ((f, X) :: F)) fun _ h' => h' = ZH h0 k g P W T F := by
  have sp := pz_pop (ZNok.less N) g hf P W T N (by omega)
  generalize ZH h0 k g P W T ((f, X) :: F) = H at *
  refine AC.body Θ_ok Try.func93 rfl rfl (Nat.le_of_ble_eq_true rfl) ?_
  refine AW.regionAt 2 [] Θ_ok fun B hB => ?_
  simp
  refine sp.mono ?_
  rintro r h' rfl
  refine hB _ ?_
  simp [Try.f93]
  exact Fin.refl rfl
end
end Go.Par
