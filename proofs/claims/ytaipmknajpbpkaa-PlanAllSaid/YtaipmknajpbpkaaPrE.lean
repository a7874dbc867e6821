import Derived.Test.YtaipmknajpbpkaaPrD
set_option linter.unusedSimpArgs false
set_option linter.unusedVariables false
set_option linter.unusedSectionVars false
set_option maxRecDepth 8000
set_option maxHeartbeats 1000000
namespace Go.Par
open Go.Proofs

/-! ### What holds of all states of the machine -/
theorem goes_in {g : G} {P : List Int} (ok : POk g P) {who : Int} {part s : List Bool} {v : Nat} (hv : v < g.owner.length) (h1 : hasN s v = true) (h2 : hasN part v = true) : inP g (goesR g who part s) v := by
  refine ⟨hv, ?_⟩
  rw [goesR, has_and hv, h2, Bool.and_true]
  exact reg_in (by rw [only_len ok.m]; exact hv) h1

theorem best_some {g : G} {P : List Int} (ok : POk g P) {part : List Bool} (hl : part.length = g.owner.length) (h : anyL g part = true) : ∃ v, inP g part v ∧ hasN (bestL P part (topP P part)) v = true := by
  obtain ⟨v0, hv0⟩ := anyL_iff.1 h
  obtain ⟨m1, m2, m3⟩ := max_fold P (hasN part) ok.lo (List.range part.length) 0
  rw [show (List.range part.length).foldl (fun t v => if hasN part v then max t (fI P v) else t) 0 = topP P part from rfl] at m1 m2 m3
  have key : ∀ v, inP g part v → fI P v = topP P part → hasN (bestL P part (topP P part)) v = true := fun v hv e => by
    rw [bestL, hasN_tab (by rw [hl]; exact hv.1), hv.2, Bool.true_and, decide_eq_true_eq]; exact e
  rcases m3 with q | ⟨v, hv, q1, q2⟩
  · have h1 := m2 v0 (by simp [hl, hv0.1]) hv0.2
    have h2 := ok.lo v0
    exact ⟨v0, hv0, key v0 hv0 (by omega)⟩
  · exact ⟨v, ⟨by simpa [hl] using hv, q1⟩, key v ⟨by simpa [hl] using hv, q1⟩ q2.symm⟩

structure FOk (g : G) (f : Fr) : Prop where
  len : f.in_.length = g.owner.length
  le : f.step ≤ 2
  zero : f.step = 0 → f = ⟨f.in_, 0, 0, [], []⟩
  one : f.step = 1 → f.best.length = g.owner.length ∧ f.rest.length = g.owner.length ∧ (f.who = 0 ∨ f.who = 1) ∧ ∀ v, hasN f.rest v = true → hasN f.in_ v = true

structure ZOk (g : G) (s : ZS) : Prop where
  lW : s.W.length = g.owner.length
  lT : s.T.length = g.owner.length
  fr : ∀ f ∈ s.st, FOk g f
  ch : s.st.Pairwise fun a b => cntS a.in_ < cntS b.in_

theorem ZOk.small {g : G} {s : ZS} (h : ZOk g s) : s.st.length ≤ g.owner.length + 1 := by
  have := nodup_lt (n := g.owner.length + 1) (l := s.st.map fun f => cntS f.in_) (by
    rw [List.nodup_iff_pairwise_ne, List.pairwise_map]
    exact h.ch.imp fun q e => by omega) fun x hx => by
      obtain ⟨f, hf, rfl⟩ := List.mem_map.1 hx
      have := cntS_le f.in_
      rw [(h.fr f hf).len] at this
      omega
  simpa using this

theorem whoP_two (t : Int) : whoP t = 0 ∨ whoP t = 1 := by unfold whoP; split <;> simp

theorem zok_step {g : G} {P : List Int} (ok : POk g P) {s : ZS} (h : ZOk g s) (hne : s.st ≠ []) : ZOk g (zstep g P s) := by
  obtain ⟨st, W, T⟩ := s
  cases st with
  | nil => exact absurd rfl hne
  | cons f K =>
    have hfr := h.fr f (by simp)
    have hK := List.pairwise_cons.1 h.ch
    have lT := h.lT
    have lW := h.lW
    simp only at lT lW
    have pop : ∀ W' T', W'.length = g.owner.length → T'.length = g.owner.length → ZOk g ⟨K, W', T'⟩ := fun W' T' h1 h2 => ⟨h1, h2, fun f' hf' => h.fr f' (by simp [hf']), hK.2⟩
    obtain ⟨a, st, who, best, rest⟩ := f
    by_cases ha : anyL g a = false
    · simp only [zstep, ha, if_true]
      exact pop _ _ lW lT
    · have ha' : anyL g a = true := by simpa using ha
      have hl : a.length = g.owner.length := hfr.len
      match st, hfr with
      | 0, hfr =>
        simp only [zstep, ha', Bool.true_eq_false, if_false]
        obtain ⟨v, v1, v2⟩ := best_some ok hl ha'
        have lb : (bestL P a (topP P a)).length = g.owner.length := by rw [bestL, length_tab]; exact hl
        refine ⟨lW, length_tab _ _, fun f' hf' => ?_, ?_⟩
        · rcases List.mem_cons.1 hf' with rfl | hf'
          · exact ⟨len_and _ _ _, by simp, fun _ => rfl, fun e => (by cases e)⟩
          · rcases List.mem_cons.1 hf' with rfl | hf'
            · exact ⟨hl, by simp, fun e => (by cases e), fun _ => ⟨lb, len_and _ _ _, whoP_two _, fun u hu => by
                have hul : u < g.owner.length := by have := hasN_lt hu; rwa [lessL, len_and] at this
                rw [lessL, has_and hul, Bool.and_eq_true] at hu; exact hu.1⟩⟩
            · exact h.fr f' (by simp [hf'])
        · have hlt := cnt_less (g := g) hl v1 (goes_in (who := whoP (topP P a)) ok v1.1 v2 v1.2)
          refine List.pairwise_cons.2 ⟨fun b hb => ?_, List.pairwise_cons.2 ⟨hK.1, hK.2⟩⟩
          rcases List.mem_cons.1 hb with rfl | hb
          · exact hlt
          · have := hK.1 b hb; simp only at this ⊢; omega
      | 1, hfr =>
        obtain ⟨b1, b2, b3, b4⟩ := hfr.one rfl
        simp only at b1 b2 b3 b4
        simp only [zstep, ha', Bool.true_eq_false, if_false]
        by_cases ho : anyL g (wonL (1 - who) rest W) = false
        · rw [if_pos ho]
          exact pop _ _ (length_tab _ _) (length_tab _ _)
        · rw [if_neg ho]
          obtain ⟨v, v1, v2⟩ := anyL_iff.1 (show anyL g (wonL (1 - who) rest W) = true by simpa using ho)
          have v3 : hasN a v = true := by
            rw [wonL, hasN_tab (by omega), Bool.and_eq_true] at v2
            exact b4 v v2.1
          refine ⟨length_tab _ _, length_tab _ _, fun f' hf' => ?_, ?_⟩
          · rcases List.mem_cons.1 hf' with rfl | hf'
            · exact ⟨len_and _ _ _, by simp, fun _ => rfl, fun e => (by cases e)⟩
            · rcases List.mem_cons.1 hf' with rfl | hf'
              · exact ⟨hl, by simp, fun e => (by cases e), fun e => (by cases e)⟩
              · exact h.fr f' (by simp [hf'])
          · have hlt := cnt_less (g := g) hl ⟨v1, v3⟩ (goes_in (who := 1 - who) ok v1 v2 v3)
            refine List.pairwise_cons.2 ⟨fun b hb => ?_, List.pairwise_cons.2 ⟨hK.1, hK.2⟩⟩
            rcases List.mem_cons.1 hb with rfl | hb
            · exact hlt
            · have := hK.1 b hb; simp only at this ⊢; omega
      | st + 2, hfr =>
        simp only [zstep, ha', Bool.true_eq_false, if_false]
        exact pop _ _ lW lT

structure ZX where
  k : ZN
  F : List (Nat × Ob)
  s : ZS
  m : Nat

theorem Zto.nil {g : G} {P : List Int} {m : Nat} {s s' : ZS} (h : Zto g P m s s') (e : s.st = []) : m = 0 ∧ s = s' := by
  cases m with
  | zero => exact ⟨rfl, h⟩
  | succ m => exact absurd e h.1
theorem Zto.cons {g : G} {P : List Int} {m : Nat} {s s' : ZS} (h : Zto g P m s s') (e : s.st ≠ []) (e' : s'.st = []) : ∃ m', m = m' + 1 ∧ Zto g P m' (zstep g P s) s' := by
  cases m with
  | zero => have : s = s' := h; subst this; exact absurd e' e
  | succ m => exact ⟨m, rfl, h.2⟩

def stepsV (s : Nat) : AV := .ro true [.bnd 91 [.ptr s 0], .bnd 92 [.ptr s 0], .clo 93 [.rop [.ptr s 0]]]

section
variable {h0 : Heap} (g : G) (hf : g.fits) {P : List Int} (ok : POk g P)
include hf ok

theorem pz_solve {k0 : ZN} {F0 : List (Nat × Ob)} {s0 fin : ZS} {m0 : Nat} (N0 : ZNok h0 k0 F0) (hF0 : F0.map Prod.snd = s0.st.map obF) (hs0 : ZOk g s0) (hz : Zto g P m0 s0 fin) (hfin : fin.st = []) :
    AC Try.prog 70 [.ptr k0.s 0] (ZH h0 k0 g P s0.W s0.T F0) fun _ h' => ∃ k' : ZN, ZNok h0 k' [] ∧ k'.s = k0.s ∧ k'.w = k0.w ∧ k'.t = k0.t ∧ h' = ZH h0 k' g P fin.W fin.T [] := by
  have hn := (may_ok ok.m).1
  refine AC.body Θ_ok Try.func70 rfl rfl (Nat.le_of_ble_eq_true rfl) ?_
  refine AW.seq fun _ k1 => AW.region [] Θ_ok ?_
  simp
  refine k1 _ ?_
  refine AW.seq fun _ k1 => AW.region [] Θ_ok ?_
  simp
  refine ⟨rfl, k1 _ ?_⟩
  refine AW.block ?_
  refine AW.loopI (X := ZX) (fun z => ZNok h0 z.k z.F ∧ z.F.map Prod.snd = z.s.st.map obF ∧ ZOk g z.s ∧ Zto g P z.m z.s fin ∧ z.k.s = k0.s ∧ z.k.w = k0.w ∧ z.k.t = k0.t) (fun z => ⟨46, [(1, .rop [.ptr k0.s 0]), (2, stepsV k0.s)], ZH h0 z.k g P z.s.W z.s.T z.F⟩) (fun z => z.m) ⟨k0, F0, s0, m0⟩ ⟨N0, hF0, hs0, hz, rfl, rfl, rfl⟩ (GStep.eq (by simp [stepsV]) (subH.refl _)) ?_
  rintro ⟨k, F, s, m⟩ ⟨N, hF, hs, hzz, ks, kw, kt⟩
  simp only at N hF hs hzz ks kw kt ⊢
  have lF : F.length = s.st.length := by have := congrArg List.length hF; simpa using this
  have small := hs.small
  have h2 := ZH.s N g P s.W s.T
  have h3 := ZH.q N g P s.W s.T
  rw [← ks]
  refine AW.seq fun _ k1 => ?_
  generalize hH : ZH h0 k g P s.W s.T F = H at *
  refine AW.seq fun _ k2 => AW.region [] Θ_ok ?_
  simp [h2]
  refine k2 _ ?_
  cases hst : s.st with
  | nil =>
    obtain ⟨rfl, rfl⟩ := hzz.nil hst
    have hF0 : F = [] := List.length_eq_zero_iff.1 (by rw [lF, hst]; rfl)
    subst hF0
    refine AW.cond false (by simp) (fun h => by cases h) (fun _ => ?_)
    refine AW.exit ?_
    simp [Try.f70]
    exact Fin.refl ⟨k, N, rfl, by rw [kw], by rw [kt], hH.symm⟩
  | cons f K =>
    obtain ⟨⟨nf, X⟩, F', rfl⟩ : ∃ p F', F = p :: F' := by
      cases F with
      | nil => rw [hst] at lF; simp at lF
      | cons p F' => exact ⟨p, F', rfl⟩
    rw [hst] at hF
    simp only [List.map_cons, List.cons.injEq] at hF
    obtain ⟨hX, hF'⟩ := hF
    subst hX
    have lF' : F'.length ≤ 100000 := by rw [hst] at lF small; simp at lF small; omega
    obtain ⟨m', rfl, hzz'⟩ := hzz.cons (by rw [hst]; simp) hfin
    have hs' := zok_step ok hs (by rw [hst]; simp)
    have hfr := hs.fr f (by rw [hst]; simp)
    obtain ⟨st, W, T⟩ := s
    simp only at hst
    subst hst
    obtain ⟨a, fs, who, best, rest⟩ := f
    have h4 := ZH.fr N g P W T
    rw [hH] at h4
    simp only at h2 h3 hH
    have dq : List.drop F'.length (obQ (nms ((nf, obF ⟨a, fs, who, best, rest⟩) :: F')) k.nn).cells = [.ptr nf 0] := by
      have e : (obQ (nms ((nf, obF ⟨a, fs, who, best, rest⟩) :: F')) k.nn).cells = (obQ (nms F') k.nn).cells ++ [.ptr nf 0] := by simp
      have l : (obQ (nms F') k.nn).cells.length = F'.length := by simp
      rw [e, List.drop_left' l]
    have w1 : IntKind.i64.wrap (((F'.length + 1 : Nat) : Int) - 1) = (F'.length : Nat) := by rw [show ((F'.length + 1 : Nat) : Int) - 1 = (F'.length : Int) by omega]; exact wrap_nat (by omega)
    have w2 : IntKind.i64.wrap (F'.length : Int) = (F'.length : Nat) := wrap_nat (by omega)
    generalize hQ : obQ (nms ((nf, obF ⟨a, fs, who, best, rest⟩) :: F')) k.nn = Q at *
    have sa := pz_any N g hf P W T a
    have spp := pz_pop (ZNok.less N) g hf P W T N (by omega)
    rw [hH] at sa spp
    refine AW.cond true (by simp) (fun _ => ?_) (fun h => by cases h)
    refine AW.skip ?_
    simp
    refine k1 _ ?_
    refine AW.block ?_
    refine AW.seq fun _ k1 => AW.draw [] 12 [] Θ_ok mixed (by kernel_rfl) (by kernel_rfl) ?_
    simp [vcDraw, vcPre, vcTail, callA, isAlloc, isLoad, effOp, obl, obA, mkOK, valA, h2, h3, dq, w1, w2]
    refine ⟨by omega, k1 _ ?_⟩
    refine AW.seq fun _ k1 => ?_
    refine AW.seq fun _ k2 => AW.draw [] 5 [] Θ_ok mixed (by kernel_rfl) (by kernel_rfl) ?_
    simp [vcDraw, vcPre, vcTail, callA, isAlloc, isLoad, effOp, obl, obA, mkOK, valA, h4]
    refine (sa.wk (by simp)).mono ?_
    rintro r h' ⟨rfl, rfl⟩
    have hz0 : zstep g P ⟨⟨a, fs, who, best, rest⟩ :: K, W, T⟩ = if anyL g a = false then ⟨K, W, T⟩ else zstep g P ⟨⟨a, fs, who, best, rest⟩ :: K, W, T⟩ := by
      split
      · rename_i e; simp only [zstep, e, if_true]
      · rfl
    generalize hav : anyL g a = av at *
    simp
    refine k2 _ ?_
    cases av
    · rw [if_pos rfl] at hz0
      rw [hz0] at hzz' hs'
      refine AW.cond true (by simp [Int.natCast_inj]) (fun _ => ?_) (fun h => by cases h)
      refine AW.seq fun _ k3 => AW.regionAt 1 [] Θ_ok fun B hB => ?_
      simp
      refine hB _ ?_
      simp
      refine spp.mono ?_
      rintro r h' rfl
      refine k3 _ ?_
      refine AW.exit ?_
      simp
      exact ⟨⟨k, F', ⟨K, W, T⟩, m'⟩, ⟨ZNok.less N, hF', hs', hzz', rfl, kw, kt⟩, by simp only; omega, GStep.eq (by simp) (subH.refl _)⟩
    · clear hz0 sa spp
      refine AW.cond false (by simp [Int.natCast_inj]) (fun h => by cases h) (fun _ => ?_)
      refine AW.skip ?_
      simp
      refine k1 _ ?_
      match fs, hfr with
      | 0, hfr =>
        have hz := hfr.zero rfl
        simp only [Fr.mk.injEq, true_and] at hz
        obtain ⟨rfl, rfl, rfl⟩ := hz
        have e0 : zstep g P ⟨⟨a, 0, 0, [], []⟩ :: K, W, T⟩ = ⟨⟨lessL g a (goesR g (whoP (topP P a)) a (bestL P a (topP P a))), 0, 0, [], []⟩ :: ⟨a, 1, whoP (topP P a), bestL P a (topP P a), lessL g a (goesR g (whoP (topP P a)) a (bestL P a (topP P a)))⟩ :: K, W, goesX g (whoP (topP P a)) a (bestL P a (topP P a)) T⟩ := by
          simp only [zstep, hav, Bool.true_eq_false, if_false]
        rw [e0] at hzz' hs'
        have sb := pz_begins g hf ok W T hfr.len N lF' hs.lT rfl rfl rfl rfl
        rw [hH] at sb
        refine AW.regionAt 8 [] Θ_ok fun B hB => ?_
        simp [h4, stepsV]
        refine hB _ ?_
        simp
        refine sb.mono ?_
        rintro r h' ⟨f2, q', N2, rfl⟩
        exact ⟨⟨_, _, _, m'⟩, ⟨N2, by simp [hF'], hs', hzz', rfl, kw, kt⟩, by simp only; omega, GStep.eq (by simp [stepsV]) (subH.refl _)⟩
      | 1, hfr =>
        obtain ⟨b1, b2, b3, b4⟩ := hfr.one rfl
        have e0 : zstep g P ⟨⟨a, 1, who, best, rest⟩ :: K, W, T⟩ = if anyL g (wonL (1 - who) rest W) = false then ⟨K, winsX g.owner.length who a W, staysX g who a best T⟩ else
            ⟨⟨lessL g a (goesR g (1 - who) a (wonL (1 - who) rest W)), 0, 0, [], []⟩ :: ⟨a, 2, who, best, rest⟩ :: K, winsX g.owner.length (1 - who) (goesR g (1 - who) a (wonL (1 - who) rest W)) W, goesX g (1 - who) a (wonL (1 - who) rest W) T⟩ := by
          simp only [zstep, hav, Bool.true_eq_false, if_false]
        rw [e0] at hzz' hs'
        have sb := pz_halves g hf ok W T hfr.len b1 b2 b3 N lF' hs.lW hs.lT rfl rfl
        rw [hH] at sb
        refine AW.regionAt 8 [] Θ_ok fun B hB => ?_
        simp [h4, stepsV]
        refine hB _ ?_
        simp
        refine sb.mono ?_
        rintro r h' (⟨c, rfl⟩ | ⟨c, f2, q', N2, rfl⟩)
        · rw [if_pos c] at hzz' hs'
          exact ⟨⟨k, F', _, m'⟩, ⟨ZNok.less N, hF', hs', hzz', rfl, kw, kt⟩, by simp only; omega, GStep.eq (by simp [stepsV]) (subH.refl _)⟩
        · rw [if_neg (by rw [c]; simp)] at hzz' hs'
          exact ⟨⟨_, _, _, m'⟩, ⟨N2, by simp [hF'], hs', hzz', rfl, kw, kt⟩, by simp only; omega, GStep.eq (by simp [stepsV]) (subH.refl _)⟩
      | fs + 2, hfr =>
        have hle := hfr.le
        obtain rfl : fs = 0 := by simp only at hle; omega
        have e0 : zstep g P ⟨⟨a, 0 + 2, who, best, rest⟩ :: K, W, T⟩ = ⟨K, W, T⟩ := by
          simp only [zstep, hav, Bool.true_eq_false, if_false]
        rw [e0] at hzz' hs'
        have sb := pz_solve1 g hf ok W T N lF' (.ptr nf 0)
        rw [hH] at sb
        refine AW.regionAt 8 [] Θ_ok fun B hB => ?_
        simp [h4, stepsV]
        refine hB _ ?_
        simp
        refine sb.mono ?_
        rintro r h' rfl
        exact ⟨⟨k, F', _, m'⟩, ⟨ZNok.less N, hF', hs', hzz', rfl, kw, kt⟩, by simp only; omega, GStep.eq (by simp [stepsV]) (subH.refl _)⟩
end
end Go.Par
