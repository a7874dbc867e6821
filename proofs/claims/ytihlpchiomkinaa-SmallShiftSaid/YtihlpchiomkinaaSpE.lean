/- The lifter: put, should. -/
import Derived.Test.YtihlpchiomkinaaSpD
set_option linter.unusedSimpArgs false
set_option linter.unusedVariables false
set_option maxRecDepth 8000
set_option maxHeartbeats 1000000
namespace Go.Par
open Go.Proofs

/-- What put does. -/
structure PutR (h0 : Heap) (k : LN) (g : G) (P : List Int) (mo : Mo) (R : List Ms) (W : List Bool) (T : List Nat) (v : Nat) (h' : Heap) : Prop where
  ex : ∃ k' : LN, ∃ T', (k'.s = k.s ∧ k'.m = k.m ∧ k'.w = k.w) ∧ LNok h0 k' ∧ h' = LH h0 k' g P mo R (W.set v true) T' ∧ (hasN W v = true → T' = T) ∧ (hasN W v = false → T'.Perm (v :: T))
theorem small_put {h0 : Heap} {k : LN} (N : LNok h0 k) (g : G) (P : List Int) (mo : Mo) (R : List Ms) (W : List Bool) (T : List Nat) (v : Nat) (hW : W.length = g.owner.length) (hv : v < W.length) (ht : T.length < 1099511627776) :
    AC Try.prog 84 [.ptr k.s 0, .int .i64 v] (LH h0 k g P mo R W T) fun _ h' => PutR h0 k g P mo R W T v h' := by
  have hs := LH.s N g P mo R W T
  have hw := LH.w N g P mo R W T
  have dv := map_drop_bool W hv
  have hvn : v < g.owner.length := by omega
  refine AC.body Θ_ok Try.func84 rfl rfl (Nat.le_of_ble_eq_true rfl) ?_
  refine AW.seq fun _ k1 => AW.region [] Θ_ok ?_
  simp [hs, hw, hvn, dv]
  refine k1 _ ?_
  have eh : hasN W v = W[v] := by simp [hasN, hv]
  cases hb : W[v] with
  | true =>
    have e : W.set v true = W := by
      apply List.ext_getElem (by simp)
      intro i h1 h2
      rw [List.getElem_set]
      split
      · rename_i e; subst e; exact hb.symm
      · rfl
    refine AW.cond false (by simp [Int.natCast_inj]) (fun h => by cases h) (fun _ => ?_)
    refine AW.skip ?_
    simp [Try.f84]
    exact Fin.refl ⟨k, T, ⟨rfl, rfl, rfl⟩, N, by rw [e], fun _ => rfl, fun h => by rw [eh, hb] at h; cases h⟩
  | false =>
    have ms := map_set_bool W v true
    have pw := LH.putW N g P mo R W T (W.set v true)
    obtain ⟨W', hW'⟩ : ∃ W', W' = W.set v true := ⟨_, rfl⟩
    rw [← hW'] at ms pw
    have hs' := LH.s N g P mo R W' T
    refine AW.cond true (by simp [Int.natCast_inj]) (fun _ => ?_) (fun h => by cases h)
    refine AW.seq fun _ k1 => AW.region [] Θ_ok ?_
    simp [hs, hw, hvn, hW, ms, obB_mk, pw]
    refine ⟨by omega, k1 _ ?_⟩
    refine AW.region [] Θ_ok ?_
    simp [hs']
    refine (pheap_Push N g P mo R W' T v ht).mono ?_
    rintro r h' ⟨o', T', p, N', rfl⟩
    try simp [Try.f84]
    exact Fin.refl ⟨⟨k.s, k.m, k.w, o', true⟩, T', ⟨rfl, rfl, rfl⟩, N', by rw [hW'], (fun h => by rw [eh, hb] at h; cases h), fun _ => p⟩
end Go.Par
