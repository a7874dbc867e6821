import Derived.Test.YtkpdhglbkmbojaaPrD
set_option linter.unusedSimpArgs false
set_option linter.unusedVariables false
set_option linter.unusedSectionVars false
set_option maxRecDepth 8000
set_option maxHeartbeats 1000000
namespace Go.Par
open Go.Proofs

/-! ### What holds of all states of the machine -/
theorem goes_in {g : G} {P : List Int} (ok : POk g P) {who : Int} {part s : List Bool} {v : Nat} (hv : v < g.owner.length) (h1 : hasN s v = true) (h2 : hasN part v = true) : inP g (goesR g who part s) v := by
  refine ⟨hv, ?_⟩
  rw [goesR, has_and hv, h2, Bool.and_true]
  exact reg_in (by rw [only_len ok.m]; exact hv) h1

theorem best_some {g : G} {P : List Int} (ok : POk g P) {part : List Bool} (hl : part.length = g.owner.length) (h : anyL g part = true) : ∃ v, inP g part v ∧ hasN (bestL P part (topP P part)) v = true := by
  obtain ⟨v0, hv0⟩ := anyL_iff.1 h
  obtain ⟨m1, m2, m3⟩ := max_fold P (hasN part) ok.lo (List.range part.length) 0
  rw [show (List.range part.length).foldl (fun t v => if hasN part v then max t (fI P v) else t) 0 = topP P part from rfl] at m1 m2 m3
  have key : ∀ v, inP g part v → fI P v = topP P part → hasN (bestL P part (topP P part)) v = true := fun v hv e => by
    rw [bestL, hasN_tab (by rw [hl]; exact hv.1), hv.2, Bool.true_and, decide_eq_true_eq]; exact e
  rcases m3 with q | ⟨v, hv, q1, q2⟩
  · have h1 := m2 v0 (by simp [hl, hv0.1]) hv0.2
    have h2 := ok.lo v0
    exact ⟨v0, hv0, key v0 hv0 (by omega)⟩
  · exact ⟨v, ⟨by simpa [hl] using hv, q1⟩, key v ⟨by simpa [hl] using hv, q1⟩ q2.symm⟩

structure FOk (g : G) (f : Fr) : Prop where
  len : f.in_.length = g.owner.length
  le : f.step ≤ 2
  zero : f.step = 0 → f = ⟨f.in_, 0, 0, [], []⟩
  one : f.step = 1 → f.best.length = g.owner.length ∧ f.rest.length = g.owner.length ∧ (f.who = 0 ∨ f.who = 1) ∧ ∀ v, hasN f.rest v = true → hasN f.in_ v = true

structure ZOk (g : G) (s : ZS) : Prop where
  lW : s.W.length = g.owner.length
  lT : s.T.length = g.owner.length
  fr : ∀ f ∈ s.st, FOk g f
  ch : s.st.Pairwise fun a b => cntS a.in_ < cntS b.in_

theorem ZOk.small {g : G} {s : ZS} (h : ZOk g s) : s.st.length ≤ g.owner.length + 1 := by
  have := nodup_lt (n := g.owner.length + 1) (l := s.st.map fun f => cntS f.in_) (by
    rw [List.nodup_iff_pairwise_ne, List.pairwise_map]
    exact h.ch.imp fun q e => by omega) fun x hx => by
      obtain ⟨f, hf, rfl⟩ := List.mem_map.1 hx
      have := cntS_le f.in_
      rw [(h.fr f hf).len] at this
      omega
  simpa using this

theorem whoP_two (t : Int) : whoP t = 0 ∨ whoP t = 1 := by unfold whoP; split <;> simp

theorem zok_step {g : G} {P : List Int} (ok : POk g P) {s : ZS} (h : ZOk g s) (hne : s.st ≠ []) : ZOk g (zstep g P s) := by
  obtain ⟨st, W, T⟩ := s
  cases st with
  | nil => exact absurd rfl hne
  | cons f K =>
    have hfr := h.fr f (by simp)
    have hK := List.pairwise_cons.1 h.ch
    have lT := h.lT
    have lW := h.lW
    simp only at lT lW
    have pop : ∀ W' T', W'.length = g.owner.length → T'.length = g.owner.length → ZOk g ⟨K, W', T'⟩ := fun W' T' h1 h2 => ⟨h1, h2, fun f' hf' => h.fr f' (by simp [hf']), hK.2⟩
    obtain ⟨a, st, who, best, rest⟩ := f
    by_cases ha : anyL g a = false
    · simp only [zstep, ha, if_true]
      exact pop _ _ lW lT
    · have ha' : anyL g a = true := by simpa using ha
      have hl : a.length = g.owner.length := hfr.len
      match st, hfr with
      | 0, hfr =>
        simp only [zstep, ha', Bool.true_eq_false, if_false]
        obtain ⟨v, v1, v2⟩ := best_some ok hl ha'
        have lb : (bestL P a (topP P a)).length = g.owner.length := by rw [bestL, length_tab]; exact hl
        refine ⟨lW, length_tab _ _, fun f' hf' => ?_, ?_⟩
        · rcases List.mem_cons.1 hf' with rfl | hf'
          · exact ⟨len_and _ _ _, by simp, fun _ => rfl, fun e => (by cases e)⟩
          · rcases List.mem_cons.1 hf' with rfl | hf'
            · exact ⟨hl, by simp, fun e => (by cases e), fun _ => ⟨lb, len_and _ _ _, whoP_two _, fun u hu => by
                have hul : u < g.owner.length := by have := hasN_lt hu; rwa [lessL, len_and] at this
                rw [lessL, has_and hul, Bool.and_eq_true] at hu; exact hu.1⟩⟩
            · exact h.fr f' (by simp [hf'])
        · have hlt := cnt_less (g := g) hl v1 (goes_in (who := whoP (topP P a)) ok v1.1 v2 v1.2)
          refine List.pairwise_cons.2 ⟨fun b hb => ?_, List.pairwise_cons.2 ⟨hK.1, hK.2⟩⟩
          rcases List.mem_cons.1 hb with rfl | hb
          · exact hlt
          · have := hK.1 b hb; simp only at this ⊢; omega
      | 1, hfr =>
        obtain ⟨b1, b2, b3, b4⟩ := hfr.one rfl
        simp only at b1 b2 b3 b4
        simp only [zstep, ha', Bool.true_eq_false, if_false]
        by_cases ho : anyL g (wonL (1 - who) rest W) = false
        · rw [if_pos ho]
          exact pop _ _ (length_tab _ _) (length_tab _ _)
        · rw [if_neg ho]
          obtain ⟨v, v1, v2⟩ := anyL_iff.1 (show anyL g (wonL (1 - who) rest W) = true by simpa using ho)
          have v3 : hasN a v = true := by
            rw [wonL, hasN_tab (by omega), Bool.and_eq_true] at v2
            exact b4 v v2.1
          refine ⟨length_tab _ _, length_tab _ _, fun f' hf' => ?_, ?_⟩
          · rcases List.mem_cons.1 hf' with rfl | hf'
            · exact ⟨len_and _ _ _, by simp, fun _ => rfl, fun e => (by cases e)⟩
            · rcases List.mem_cons.1 hf' with rfl | hf'
              · exact ⟨hl, by simp, fun e => (by cases e), fun e => (by cases e)⟩
              · exact h.fr f' (by simp [hf'])
          · have hlt := cnt_less (g := g) hl ⟨v1, v3⟩ (goes_in (who := 1 - who) ok v1 v2 v3)
            refine List.pairwise_cons.2 ⟨fun b hb => ?_, List.pairwise_cons.2 ⟨hK.1, hK.2⟩⟩
            rcases List.mem_cons.1 hb with rfl | hb
            · exact hlt
            · have := hK.1 b hb; simp only at this ⊢; omega
      | st + 2, hfr =>
        simp only [zstep, ha', Bool.true_eq_false, if_false]
        exact pop _ _ lW lT

structure ZX where
  k : ZN
  F : List (Nat × Ob)
  s : ZS
  m : Nat

theorem Zto.nil {g : G} {P : List Int} {m : Nat} {s s' : ZS} (h : Zto g P m s s') (e : s.st = []) : m = 0 ∧ s = s' := by
  cases m with
  | zero => exact ⟨rfl, h⟩
  | succ m => exact absurd e h.1
theorem Zto.cons {g : G} {P : List Int} {m : Nat} {s s' : ZS} (h : Zto g P m s s') (e : s.st ≠ []) (e' : s'.st = []) : ∃ m', m = m' + 1 ∧ Zto g P m' (zstep g P s) s' := by
  cases m with
  | zero => have : s = s' := h; subst this; exact absurd e' e
  | succ m => exact ⟨m, rfl, h.2⟩

section
variable {h0 : Heap} (g : G) (hf : g.fits) {P : List Int} (ok : POk g P)
include hf ok

end
end Go.Par
