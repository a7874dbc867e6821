/-
  No cell of these rows narrows 'for every input' (looked for: loops, veiled, ifaces, maps, wideKeys, modest, calm, conditions, laid).
  DERIVED. THE GIVEN ROWS OF THIS SEAT. 9 by the template 'for every input the law returns true; each argument reads behind the call as it read before'; 0 by the template 'total and deterministic' (their statements: YtihlpchiomkinaaTotals.lean).
  GIVEN WITH THE SEED: the statements are not yours to turn. If you find one false, say at which input.
  Laid BY PROGRAM, IN A SANDBOX (cutbox-rows.mjs): the forced cells as the released guide's own fill.sh prints them over the translation 3baeea8b932caa25… (all of the seat's roots in one cut). By AI agents, Wed Nov 11 2026. No macro, syntax, notation, axiom, sorry.
-/
import Derived.Test.YtihlpchiomkinaaChecked
import GoSem.Claim
import GoSem.ClaimJoined
import GoSem.ClaimMapViews
import Derived.JoinedTies
import Derived.KernelRfl
namespace Go.Proofs.Ytihlpchiomkinaa
/- THE CELL 'sum', in the pinned program and in every row, IS THE sha256 OF THE DUMP (.gsa) THAT YtihlpchiomkinaaProg.lean LOADS. Nothing in Lean hashes anything: it is a label: what it is worth is what the hold of that sum in a sandbox is worth. -/
noncomputable def Try.pinned : Pinned := { name := "ytihlpchiomkinaa", sum := "3baeea8b932caa2521b6f91055ae95b6883e9f89ea3db107485c8ff6e087fe9a", checked := Try.checked }
namespace Rows
def none {H : Type} : Left H := { results := [], args := [] }

/-- 'parrylaw14.RecurForced': WHATEVER THE INPUT: true; the input reads as it did. -/
def recurForcedSpec : ChangeSpec := { name := "recurForced", fn := fun _ => fun
  | [d1, d2, d3] => { results := [.lit (.bool true)], args := [d1, d2, d3] }
  | _ => none }
def recurForcedRow : OpenClaim := { program := "ytihlpchiomkinaa", sum := "3baeea8b932caa2521b6f91055ae95b6883e9f89ea3db107485c8ff6e087fe9a", func := "parry/parrylaw14.RecurForced", spec := "recurForced", unfollowed := true, recurses := true, apart := false }
def RecurForcedSaid : Prop := recurForcedRow.holds Try.pinned (OpenSpec.ofChange recurForcedSpec)

/-- ITS FALSE NEIGHBOUR: 'it returns false'. Refute it at one input. -/
def recurForcedWrong : ChangeSpec := { name := "recurForced", fn := fun _ => fun
  | [d1, d2, d3] => { results := [.lit (.bool false)], args := [d1, d2, d3] }
  | _ => none }
def RecurForcedWrongFalsely : Prop := recurForcedRow.holds Try.pinned (OpenSpec.ofChange recurForcedWrong)

/-- 'parrylaw14.RecurEither': WHATEVER THE INPUT: true; the input reads as it did. -/
def recurEitherSpec : ChangeSpec := { name := "recurEither", fn := fun _ => fun
  | [d1, d2, d3] => { results := [.lit (.bool true)], args := [d1, d2, d3] }
  | _ => none }
def recurEitherRow : OpenClaim := { program := "ytihlpchiomkinaa", sum := "3baeea8b932caa2521b6f91055ae95b6883e9f89ea3db107485c8ff6e087fe9a", func := "parry/parrylaw14.RecurEither", spec := "recurEither", unfollowed := true, recurses := true, apart := false }
def RecurEitherSaid : Prop := recurEitherRow.holds Try.pinned (OpenSpec.ofChange recurEitherSpec)

/-- ITS FALSE NEIGHBOUR: 'it returns false'. Refute it at one input. -/
def recurEitherWrong : ChangeSpec := { name := "recurEither", fn := fun _ => fun
  | [d1, d2, d3] => { results := [.lit (.bool false)], args := [d1, d2, d3] }
  | _ => none }
def RecurEitherWrongFalsely : Prop := recurEitherRow.holds Try.pinned (OpenSpec.ofChange recurEitherWrong)

/-- 'parrylaw14.RecurMore': WHATEVER THE INPUT: true; the input reads as it did. -/
def recurMoreSpec : ChangeSpec := { name := "recurMore", fn := fun _ => fun
  | [d1, d2, d3, d4] => { results := [.lit (.bool true)], args := [d1, d2, d3, d4] }
  | _ => none }
def recurMoreRow : OpenClaim := { program := "ytihlpchiomkinaa", sum := "3baeea8b932caa2521b6f91055ae95b6883e9f89ea3db107485c8ff6e087fe9a", func := "parry/parrylaw14.RecurMore", spec := "recurMore", unfollowed := true, recurses := true, apart := false }
def RecurMoreSaid : Prop := recurMoreRow.holds Try.pinned (OpenSpec.ofChange recurMoreSpec)

/-- ITS FALSE NEIGHBOUR: 'it returns false'. Refute it at one input. -/
def recurMoreWrong : ChangeSpec := { name := "recurMore", fn := fun _ => fun
  | [d1, d2, d3, d4] => { results := [.lit (.bool false)], args := [d1, d2, d3, d4] }
  | _ => none }
def RecurMoreWrongFalsely : Prop := recurMoreRow.holds Try.pinned (OpenSpec.ofChange recurMoreWrong)

/-- 'parrylaw14.RecurComes': WHATEVER THE INPUT: true; the input reads as it did. -/
def recurComesSpec : ChangeSpec := { name := "recurComes", fn := fun _ => fun
  | [d1, d2, d3] => { results := [.lit (.bool true)], args := [d1, d2, d3] }
  | _ => none }
def recurComesRow : OpenClaim := { program := "ytihlpchiomkinaa", sum := "3baeea8b932caa2521b6f91055ae95b6883e9f89ea3db107485c8ff6e087fe9a", func := "parry/parrylaw14.RecurComes", spec := "recurComes", unfollowed := true, recurses := true, apart := false }
def RecurComesSaid : Prop := recurComesRow.holds Try.pinned (OpenSpec.ofChange recurComesSpec)

/-- ITS FALSE NEIGHBOUR: 'it returns false'. Refute it at one input. -/
def recurComesWrong : ChangeSpec := { name := "recurComes", fn := fun _ => fun
  | [d1, d2, d3] => { results := [.lit (.bool false)], args := [d1, d2, d3] }
  | _ => none }
def RecurComesWrongFalsely : Prop := recurComesRow.holds Try.pinned (OpenSpec.ofChange recurComesWrong)

/-- 'parrylaw16.SmallForms': WHATEVER THE INPUT: true; the input reads as it did. -/
def smallFormsSpec : ChangeSpec := { name := "smallForms", fn := fun _ => fun
  | [d1, d2] => { results := [.lit (.bool true)], args := [d1, d2] }
  | _ => none }
def smallFormsRow : OpenClaim := { program := "ytihlpchiomkinaa", sum := "3baeea8b932caa2521b6f91055ae95b6883e9f89ea3db107485c8ff6e087fe9a", func := "parry/parrylaw16.SmallForms", spec := "smallForms", unfollowed := true, recurses := true, apart := false }
def SmallFormsSaid : Prop := smallFormsRow.holds Try.pinned (OpenSpec.ofChange smallFormsSpec)

/-- ITS FALSE NEIGHBOUR: 'it returns false'. Refute it at one input. -/
def smallFormsWrong : ChangeSpec := { name := "smallForms", fn := fun _ => fun
  | [d1, d2] => { results := [.lit (.bool false)], args := [d1, d2] }
  | _ => none }
def SmallFormsWrongFalsely : Prop := smallFormsRow.holds Try.pinned (OpenSpec.ofChange smallFormsWrong)

/-- 'parrylaw16.SmallFalls': WHATEVER THE INPUT: true; the input reads as it did. -/
def smallFallsSpec : ChangeSpec := { name := "smallFalls", fn := fun _ => fun
  | [d1, d2] => { results := [.lit (.bool true)], args := [d1, d2] }
  | _ => none }
def smallFallsRow : OpenClaim := { program := "ytihlpchiomkinaa", sum := "3baeea8b932caa2521b6f91055ae95b6883e9f89ea3db107485c8ff6e087fe9a", func := "parry/parrylaw16.SmallFalls", spec := "smallFalls", unfollowed := true, recurses := true, apart := false }
def SmallFallsSaid : Prop := smallFallsRow.holds Try.pinned (OpenSpec.ofChange smallFallsSpec)

/-- ITS FALSE NEIGHBOUR: 'it returns false'. Refute it at one input. -/
def smallFallsWrong : ChangeSpec := { name := "smallFalls", fn := fun _ => fun
  | [d1, d2] => { results := [.lit (.bool false)], args := [d1, d2] }
  | _ => none }
def SmallFallsWrongFalsely : Prop := smallFallsRow.holds Try.pinned (OpenSpec.ofChange smallFallsWrong)

/-- 'parrylaw16.SmallBounds': WHATEVER THE INPUT: true; the input reads as it did. -/
def smallBoundsSpec : ChangeSpec := { name := "smallBounds", fn := fun _ => fun
  | [d1, d2] => { results := [.lit (.bool true)], args := [d1, d2] }
  | _ => none }
def smallBoundsRow : OpenClaim := { program := "ytihlpchiomkinaa", sum := "3baeea8b932caa2521b6f91055ae95b6883e9f89ea3db107485c8ff6e087fe9a", func := "parry/parrylaw16.SmallBounds", spec := "smallBounds", unfollowed := true, recurses := true, apart := false }
def SmallBoundsSaid : Prop := smallBoundsRow.holds Try.pinned (OpenSpec.ofChange smallBoundsSpec)

/-- ITS FALSE NEIGHBOUR: 'it returns false'. Refute it at one input. -/
def smallBoundsWrong : ChangeSpec := { name := "smallBounds", fn := fun _ => fun
  | [d1, d2] => { results := [.lit (.bool false)], args := [d1, d2] }
  | _ => none }
def SmallBoundsWrongFalsely : Prop := smallBoundsRow.holds Try.pinned (OpenSpec.ofChange smallBoundsWrong)

/-- 'parrylaw16.SmallShift': WHATEVER THE INPUT: true; the input reads as it did. -/
def smallShiftSpec : ChangeSpec := { name := "smallShift", fn := fun _ => fun
  | [d1, d2] => { results := [.lit (.bool true)], args := [d1, d2] }
  | _ => none }
def smallShiftRow : OpenClaim := { program := "ytihlpchiomkinaa", sum := "3baeea8b932caa2521b6f91055ae95b6883e9f89ea3db107485c8ff6e087fe9a", func := "parry/parrylaw16.SmallShift", spec := "smallShift", unfollowed := true, recurses := true, apart := false }
def SmallShiftSaid : Prop := smallShiftRow.holds Try.pinned (OpenSpec.ofChange smallShiftSpec)

/-- ITS FALSE NEIGHBOUR: 'it returns false'. Refute it at one input. -/
def smallShiftWrong : ChangeSpec := { name := "smallShift", fn := fun _ => fun
  | [d1, d2] => { results := [.lit (.bool false)], args := [d1, d2] }
  | _ => none }
def SmallShiftWrongFalsely : Prop := smallShiftRow.holds Try.pinned (OpenSpec.ofChange smallShiftWrong)

/-- 'parrylaw16.SmallAgrees': WHATEVER THE INPUT: true; the input reads as it did. -/
def smallAgreesSpec : ChangeSpec := { name := "smallAgrees", fn := fun _ => fun
  | [d1, d2] => { results := [.lit (.bool true)], args := [d1, d2] }
  | _ => none }
def smallAgreesRow : OpenClaim := { program := "ytihlpchiomkinaa", sum := "3baeea8b932caa2521b6f91055ae95b6883e9f89ea3db107485c8ff6e087fe9a", func := "parry/parrylaw16.SmallAgrees", spec := "smallAgrees", unfollowed := true, recurses := true, apart := false }
def SmallAgreesSaid : Prop := smallAgreesRow.holds Try.pinned (OpenSpec.ofChange smallAgreesSpec)

/-- ITS FALSE NEIGHBOUR: 'it returns false'. Refute it at one input. -/
def smallAgreesWrong : ChangeSpec := { name := "smallAgrees", fn := fun _ => fun
  | [d1, d2] => { results := [.lit (.bool false)], args := [d1, d2] }
  | _ => none }
def SmallAgreesWrongFalsely : Prop := smallAgreesRow.holds Try.pinned (OpenSpec.ofChange smallAgreesWrong)

/- THE SECOND FORM. 'bulk': how many values and letters a reading holds, each counted each time it is reached (what is shared counts as often as it is met; a slice's spare places count too). A statement '..UptoSaid' is the law's where the arguments, and the package variables that the reading takes, are together of bulk at most 1048576: NARROWER than '..Said'. Prove '..Said' where nothing that the law and all that it calls make is longer than what came in: it says more and counts as full. Else prove '..UptoSaid'. A law counts once. -/
mutual
def uptoBulk {H : Type} : DataW H → Nat
  | .lit (.string bytes) => bytes.length + 1
  | .lit _ => 1
  | .nil => 1
  | .ptr d => uptoBulk d + 1
  | .slice elems spare => uptoBulkAll elems + uptoBulkAll spare + 1
  | .agg parts => uptoBulkAll parts + 1
  | .iface _ d => uptoBulk d + 1
  | .map entries => uptoBulkEntries entries + 1
  | .held _ => 1
def uptoBulkAll {H : Type} : List (DataW H) → Nat
  | [] => 0
  | d :: r => uptoBulk d + uptoBulkAll r
def uptoBulkEntries {H : Type} : List (Lit × DataW H) → Nat
  | [] => 0
  | x :: r => uptoBulkEntry x + uptoBulkEntries r
def uptoBulkEntry {H : Type} : Lit × DataW H → Nat
  | (.string bytes, d) => bytes.length + uptoBulk d + 1
  | (_, d) => uptoBulk d + 1
 end
def uptoSmall : (H : Type) → List (DataW H) → Bool := fun _ ds => decide (uptoBulkAll ds ≤ 1048576)
def OpenSpec.upto (s : _root_.Go.ChangeSpec) : _root_.Go.OpenSpec := { _root_.Go.OpenSpec.ofChange s with cond := some uptoSmall }

/-- 'parrylaw14.RecurForced', WHERE WHAT IT READS IS OF BULK AT MOST 1048576: true; the input reads as it did. -/
def recurForcedUptoRow : OpenClaim := { program := "ytihlpchiomkinaa", sum := "3baeea8b932caa2521b6f91055ae95b6883e9f89ea3db107485c8ff6e087fe9a", func := "parry/parrylaw14.RecurForced", spec := "recurForced", unfollowed := true, recurses := true, apart := false, narrowed := true }
def RecurForcedUptoSaid : Prop := recurForcedUptoRow.holds Try.pinned (OpenSpec.upto recurForcedSpec)

/-- 'parrylaw14.RecurEither', WHERE WHAT IT READS IS OF BULK AT MOST 1048576: true; the input reads as it did. -/
def recurEitherUptoRow : OpenClaim := { program := "ytihlpchiomkinaa", sum := "3baeea8b932caa2521b6f91055ae95b6883e9f89ea3db107485c8ff6e087fe9a", func := "parry/parrylaw14.RecurEither", spec := "recurEither", unfollowed := true, recurses := true, apart := false, narrowed := true }
def RecurEitherUptoSaid : Prop := recurEitherUptoRow.holds Try.pinned (OpenSpec.upto recurEitherSpec)

/-- 'parrylaw14.RecurMore', WHERE WHAT IT READS IS OF BULK AT MOST 1048576: true; the input reads as it did. -/
def recurMoreUptoRow : OpenClaim := { program := "ytihlpchiomkinaa", sum := "3baeea8b932caa2521b6f91055ae95b6883e9f89ea3db107485c8ff6e087fe9a", func := "parry/parrylaw14.RecurMore", spec := "recurMore", unfollowed := true, recurses := true, apart := false, narrowed := true }
def RecurMoreUptoSaid : Prop := recurMoreUptoRow.holds Try.pinned (OpenSpec.upto recurMoreSpec)

/-- 'parrylaw14.RecurComes', WHERE WHAT IT READS IS OF BULK AT MOST 1048576: true; the input reads as it did. -/
def recurComesUptoRow : OpenClaim := { program := "ytihlpchiomkinaa", sum := "3baeea8b932caa2521b6f91055ae95b6883e9f89ea3db107485c8ff6e087fe9a", func := "parry/parrylaw14.RecurComes", spec := "recurComes", unfollowed := true, recurses := true, apart := false, narrowed := true }
def RecurComesUptoSaid : Prop := recurComesUptoRow.holds Try.pinned (OpenSpec.upto recurComesSpec)

/-- 'parrylaw16.SmallForms', WHERE WHAT IT READS IS OF BULK AT MOST 1048576: true; the input reads as it did. -/
def smallFormsUptoRow : OpenClaim := { program := "ytihlpchiomkinaa", sum := "3baeea8b932caa2521b6f91055ae95b6883e9f89ea3db107485c8ff6e087fe9a", func := "parry/parrylaw16.SmallForms", spec := "smallForms", unfollowed := true, recurses := true, apart := false, narrowed := true }
def SmallFormsUptoSaid : Prop := smallFormsUptoRow.holds Try.pinned (OpenSpec.upto smallFormsSpec)

/-- 'parrylaw16.SmallFalls', WHERE WHAT IT READS IS OF BULK AT MOST 1048576: true; the input reads as it did. -/
def smallFallsUptoRow : OpenClaim := { program := "ytihlpchiomkinaa", sum := "3baeea8b932caa2521b6f91055ae95b6883e9f89ea3db107485c8ff6e087fe9a", func := "parry/parrylaw16.SmallFalls", spec := "smallFalls", unfollowed := true, recurses := true, apart := false, narrowed := true }
def SmallFallsUptoSaid : Prop := smallFallsUptoRow.holds Try.pinned (OpenSpec.upto smallFallsSpec)

/-- 'parrylaw16.SmallBounds', WHERE WHAT IT READS IS OF BULK AT MOST 1048576: true; the input reads as it did. -/
def smallBoundsUptoRow : OpenClaim := { program := "ytihlpchiomkinaa", sum := "3baeea8b932caa2521b6f91055ae95b6883e9f89ea3db107485c8ff6e087fe9a", func := "parry/parrylaw16.SmallBounds", spec := "smallBounds", unfollowed := true, recurses := true, apart := false, narrowed := true }
def SmallBoundsUptoSaid : Prop := smallBoundsUptoRow.holds Try.pinned (OpenSpec.upto smallBoundsSpec)

/-- 'parrylaw16.SmallShift', WHERE WHAT IT READS IS OF BULK AT MOST 1048576: true; the input reads as it did. -/
def smallShiftUptoRow : OpenClaim := { program := "ytihlpchiomkinaa", sum := "3baeea8b932caa2521b6f91055ae95b6883e9f89ea3db107485c8ff6e087fe9a", func := "parry/parrylaw16.SmallShift", spec := "smallShift", unfollowed := true, recurses := true, apart := false, narrowed := true }
def SmallShiftUptoSaid : Prop := smallShiftUptoRow.holds Try.pinned (OpenSpec.upto smallShiftSpec)

/-- 'parrylaw16.SmallAgrees', WHERE WHAT IT READS IS OF BULK AT MOST 1048576: true; the input reads as it did. -/
def smallAgreesUptoRow : OpenClaim := { program := "ytihlpchiomkinaa", sum := "3baeea8b932caa2521b6f91055ae95b6883e9f89ea3db107485c8ff6e087fe9a", func := "parry/parrylaw16.SmallAgrees", spec := "smallAgrees", unfollowed := true, recurses := true, apart := false, narrowed := true }
def SmallAgreesUptoSaid : Prop := smallAgreesUptoRow.holds Try.pinned (OpenSpec.upto smallAgreesSpec)

end Rows
end Go.Proofs.Ytihlpchiomkinaa
