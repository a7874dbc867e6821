/- The law FoilWalk: for every input the call returns true, and each argument reads afterwards as it read before. -/
import Derived.Test.YtaipmknajpbpkaaRows
import Derived.Test.YtaipmknajpbpkaaMgC
import Derived.Test.YtaipmknajpbpkaaLwFoilWalk
import Derived.WalkKit
import Derived.ProofKit
import Derived.ChangeOld
import Derived.Below
import Derived.SizedLaws
namespace Go.Proofs.Ytaipmknajpbpkaa.foilWalk
open Go.ChangeShapes Go.WideShapes Go.ChangeAt Go.RowKit Go.Par
set_option linter.unusedVariables false

theorem own : ownKnob Try.prog.godebug = none := by kernel_rfl
theorem laidOut : laidOutB Try.prog = true := by kernel_rfl
def kinds : List AK := [.game, .d (.sl (.sl (.bool))), .d (.sl (.sl (.bool))), .d (.int), .d (.sl (.int))]
theorem are : Are Try.prog kinds [25, 26, 26, 3, 22] := .cons ⟨_, _, Try.underlying25, rfl, rfl, by kernel_rfl, ⟨_, Try.underlying22, by kernel_rfl, by kernel_rfl, ⟨by kernel_rfl, by kernel_rfl, by kernel_rfl⟩⟩, ⟨_, Try.underlying23, by kernel_rfl, by kernel_rfl, ⟨_, Try.underlying22, by kernel_rfl, by kernel_rfl, ⟨by kernel_rfl, by kernel_rfl, by kernel_rfl⟩⟩⟩⟩ (by kernel_rfl) (of_decide_eq_true (by kernel_rfl)) (.cons ⟨_, Try.underlying26, by kernel_rfl, by kernel_rfl, ⟨_, Try.underlying31, by kernel_rfl, by kernel_rfl, ⟨by kernel_rfl, by kernel_rfl, by kernel_rfl⟩⟩⟩ (by kernel_rfl) (of_decide_eq_true (by kernel_rfl)) (.cons ⟨_, Try.underlying26, by kernel_rfl, by kernel_rfl, ⟨_, Try.underlying31, by kernel_rfl, by kernel_rfl, ⟨by kernel_rfl, by kernel_rfl, by kernel_rfl⟩⟩⟩ (by kernel_rfl) (of_decide_eq_true (by kernel_rfl)) (.cons ⟨by kernel_rfl, by kernel_rfl, by kernel_rfl⟩ (by kernel_rfl) (of_decide_eq_true (by kernel_rfl)) (.cons ⟨_, Try.underlying22, by kernel_rfl, by kernel_rfl, ⟨by kernel_rfl, by kernel_rfl, by kernel_rfl⟩⟩ (by kernel_rfl) (of_decide_eq_true (by kernel_rfl)) (.nil)))))

theorem told (us : List AV) (h : Got kinds us) : Go.Par.Pure Try.prog 10 us (.bool true) := by
  cases h with | cons y0 w0 h =>
  cases h with | cons y1 w1 h =>
  cases h with | cons y2 w2 h =>
  cases h with | cons y3 w3 h =>
  cases h with | cons y4 w4 h =>
  cases h
  exact law_FoilWalk y0 w0 y1 w1 y2 w2 y3 w3 y4 w4

set_option maxRecDepth 100000 in
theorem lifted (os : Os) (started : os.Started) (H : Type) (enc : TypeId × Value → H) :
    ReturnsInHanded {} Try.checked os 10 .any (Rows.foilWalkSpec.pre6 enc Try.prog Try.f10 Rows.foilWalkRow.domain false) (Rows.foilWalkSpec.post enc Try.prog Try.f10 false true false false) := by
  refine returnsInHanded_of_change_sized (C := Try.checked) own started (by kernel_rfl) Try.func10
    (ChangeSpec.witness6 (enc := enc) (C := Try.checked) false ⟨#[], #[.agg #[.slice none 0 0, .slice none 0 0], .slice none 0 0, .slice none 0 0, .int .i64 0, .slice none 0 0], []⟩ 8 (by kernel_rfl) (by kernel_rfl) (by kernel_rfl) (by kernel_rfl)) ?_
  intro W base args ds gs before hval0 hW hcnd hsz0 _
  have hsz : (DataW.weightsEach Try.prog [25, 26, 26, 3, 22] (ds ++ gs)).all (· ≤ reachBytes) = true := hsz0
  have hval : ∀ (j : Nat) t v, ([25, 26, 26, 3, 22] : List TypeId)[j]? = some t → args.toList[j]? = some v → Value.okWide Try.prog W .any base t v := fun j t v h1 h2 => hval0 j t v (by rw [← h1]; exact List.getElem?_toArray) (by rw [← h2]; exact (Array.getElem?_toList).symm)
  have hW' := hW
  obtain ⟨p, q, hA0, hV, rfl, hfz, hnd⟩ := hW
  have hA : DataW.TrodAll enc Try.prog W 0 (fun _ => true) true [25, 26, 26, 3, 22] args.toList ds p := hA0
  obtain ⟨rfl, rfl⟩ := trodVars_none hV
  obtain ⟨us, hg, hl, hv⟩ := opened (fun _ => none) (B := fun _ => False) (fun _ h => h) are hA hval (fun m hm => by
    rw [List.append_nil] at hsz
    simpa using List.all_eq_true.1 hsz m hm)
  have hlen := trod_len hA
  clear hA0 hval0 hsz0 hsz hval
  refine (run (told us hg) ⟨by simpa using hl, fun j u hj => ?_⟩).mono fun e W' ⟨v, φ, B, he, hr, bel⟩ => ?_
  · obtain ⟨v, h1, h2⟩ := hv j u hj
    rw [Array.getElem?_toList] at h1
    have e : args.getD j undef = v := by simp [Array.getD_eq_getD_getElem?, h1]
    rw [e]; exact h2
  · cases hr
    subst he
    have hA' := stays laidOut are bel hA
    match ds, hlen with
    | [d0, d1, d2, d3, d4], _ => exact ⟨_, rfl, _, _, _, [], _, [], hW', trodAll_mk1 (shut_bool (by kernel_rfl) _), hA', rfl, bel.frame _, fun h => by cases h⟩

theorem over : Rows.foilWalkRow.holds Try.pinned (OpenSpec.ofChange Rows.foilWalkSpec) :=
  OpenClaim.holds_of_wide 10 Try.f10 rfl rfl rfl rfl rfl rfl rfl ⟨rfl, rfl, rfl, rfl, rfl⟩ rfl rfl rfl rfl rfl (by kernel_rfl) Try.func10 (by kernel_rfl)
    (of_decide_eq_true (by kernel_rfl)) (by unfold Func.isWrapper; first | (rw [if_pos (by decide +kernel)]; kernel_rfl) | (rw [if_neg (by decide +kernel)]; exact ⟨rfl, rfl⟩))
    (fun os started H enc _ => lifted os started H enc)

end Go.Proofs.Ytaipmknajpbpkaa.foilWalk
namespace Go.Proofs.Ytaipmknajpbpkaa
theorem foilWalk_holds : Rows.FoilWalkSaid := foilWalk.over
#print axioms foilWalk_holds
end Go.Proofs.Ytaipmknajpbpkaa
