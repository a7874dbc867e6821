/-
  No cell of these rows narrows 'for every input' (looked for: loops, veiled, ifaces, maps, wideKeys, modest, calm, conditions, laid).
  DERIVED. THE GIVEN ROWS OF THIS SEAT. 6 by the template 'for every input the law returns true; each argument reads behind the call as it read before'; 0 by the template 'total and deterministic' (their statements: YtmmfdmhjkcbobaaTotals.lean).
  GIVEN WITH THE SEED: the statements are not yours to turn. If you find one false, say at which input.
  Laid BY PROGRAM, IN A SANDBOX (cutbox-rows.mjs): the forced cells as the released guide's own fill.sh prints them over the translation dbd1effa12153d8c… (all of the seat's roots in one cut). By AI agents, Wed Nov 11 2026. No macro, syntax, notation, axiom, sorry.
-/
import Derived.Test.YtmmfdmhjkcbobaaChecked
import GoSem.Claim
import GoSem.ClaimJoined
import GoSem.ClaimMapViews
import Derived.JoinedTies
import Derived.KernelRfl
namespace Go.Proofs.Ytmmfdmhjkcbobaa
/- THE CELL 'sum', in the pinned program and in every row, IS THE sha256 OF THE DUMP (.gsa) THAT YtmmfdmhjkcbobaaProg.lean LOADS. Nothing in Lean hashes anything: it is a label: what it is worth is what the hold of that sum in a sandbox is worth. -/
noncomputable def Try.pinned : Pinned := { name := "ytmmfdmhjkcbobaa", sum := "dbd1effa12153d8cd9c7f5726b8b25d8200d427fd35a3b07aa2f62e9f8bcb364", checked := Try.checked }
namespace Rows
def none {H : Type} : Left H := { results := [], args := [] }

/-- 'parrylaw15.ParityForms': WHATEVER THE INPUT: true; the input reads as it did. -/
def parityFormsSpec : ChangeSpec := { name := "parityForms", fn := fun _ => fun
  | [d1, d2] => { results := [.lit (.bool true)], args := [d1, d2] }
  | _ => none }
def parityFormsRow : OpenClaim := { program := "ytmmfdmhjkcbobaa", sum := "dbd1effa12153d8cd9c7f5726b8b25d8200d427fd35a3b07aa2f62e9f8bcb364", func := "parry/parrylaw15.ParityForms", spec := "parityForms", unfollowed := true, recurses := true, plainKeys := false, apart := false }
def ParityFormsSaid : Prop := parityFormsRow.holds Try.pinned (OpenSpec.ofChange parityFormsSpec)

/-- ITS FALSE NEIGHBOUR: 'it returns false'. Refute it at one input. -/
def parityFormsWrong : ChangeSpec := { name := "parityForms", fn := fun _ => fun
  | [d1, d2] => { results := [.lit (.bool false)], args := [d1, d2] }
  | _ => none }
def ParityFormsWrongFalsely : Prop := parityFormsRow.holds Try.pinned (OpenSpec.ofChange parityFormsWrong)

/-- 'parrylaw15.ParityRight': WHATEVER THE INPUT: true; the input reads as it did. -/
def parityRightSpec : ChangeSpec := { name := "parityRight", fn := fun _ => fun
  | [d1, d2] => { results := [.lit (.bool true)], args := [d1, d2] }
  | _ => none }
def parityRightRow : OpenClaim := { program := "ytmmfdmhjkcbobaa", sum := "dbd1effa12153d8cd9c7f5726b8b25d8200d427fd35a3b07aa2f62e9f8bcb364", func := "parry/parrylaw15.ParityRight", spec := "parityRight", unfollowed := true, recurses := true, plainKeys := false, apart := false }
def ParityRightSaid : Prop := parityRightRow.holds Try.pinned (OpenSpec.ofChange parityRightSpec)

/-- ITS FALSE NEIGHBOUR: 'it returns false'. Refute it at one input. -/
def parityRightWrong : ChangeSpec := { name := "parityRight", fn := fun _ => fun
  | [d1, d2] => { results := [.lit (.bool false)], args := [d1, d2] }
  | _ => none }
def ParityRightWrongFalsely : Prop := parityRightRow.holds Try.pinned (OpenSpec.ofChange parityRightWrong)

/-- 'parrylaw15.ParityTurned': WHATEVER THE INPUT: true; the input reads as it did. -/
def parityTurnedSpec : ChangeSpec := { name := "parityTurned", fn := fun _ => fun
  | [d1, d2] => { results := [.lit (.bool true)], args := [d1, d2] }
  | _ => none }
def parityTurnedRow : OpenClaim := { program := "ytmmfdmhjkcbobaa", sum := "dbd1effa12153d8cd9c7f5726b8b25d8200d427fd35a3b07aa2f62e9f8bcb364", func := "parry/parrylaw15.ParityTurned", spec := "parityTurned", unfollowed := true, recurses := true, plainKeys := false, apart := false }
def ParityTurnedSaid : Prop := parityTurnedRow.holds Try.pinned (OpenSpec.ofChange parityTurnedSpec)

/-- ITS FALSE NEIGHBOUR: 'it returns false'. Refute it at one input. -/
def parityTurnedWrong : ChangeSpec := { name := "parityTurned", fn := fun _ => fun
  | [d1, d2] => { results := [.lit (.bool false)], args := [d1, d2] }
  | _ => none }
def ParityTurnedWrongFalsely : Prop := parityTurnedRow.holds Try.pinned (OpenSpec.ofChange parityTurnedWrong)

/-- 'parrylaw15.ParityOne': WHATEVER THE INPUT: true; the input reads as it did. -/
def parityOneSpec : ChangeSpec := { name := "parityOne", fn := fun _ => fun
  | [d1, d2] => { results := [.lit (.bool true)], args := [d1, d2] }
  | _ => none }
def parityOneRow : OpenClaim := { program := "ytmmfdmhjkcbobaa", sum := "dbd1effa12153d8cd9c7f5726b8b25d8200d427fd35a3b07aa2f62e9f8bcb364", func := "parry/parrylaw15.ParityOne", spec := "parityOne", unfollowed := true, recurses := true, plainKeys := false, apart := false }
def ParityOneSaid : Prop := parityOneRow.holds Try.pinned (OpenSpec.ofChange parityOneSpec)

/-- ITS FALSE NEIGHBOUR: 'it returns false'. Refute it at one input. -/
def parityOneWrong : ChangeSpec := { name := "parityOne", fn := fun _ => fun
  | [d1, d2] => { results := [.lit (.bool false)], args := [d1, d2] }
  | _ => none }
def ParityOneWrongFalsely : Prop := parityOneRow.holds Try.pinned (OpenSpec.ofChange parityOneWrong)

/-- 'parrylaw15.ParityRecur': WHATEVER THE INPUT: true; the input reads as it did. -/
def parityRecurSpec : ChangeSpec := { name := "parityRecur", fn := fun _ => fun
  | [d1, d2] => { results := [.lit (.bool true)], args := [d1, d2] }
  | _ => none }
def parityRecurRow : OpenClaim := { program := "ytmmfdmhjkcbobaa", sum := "dbd1effa12153d8cd9c7f5726b8b25d8200d427fd35a3b07aa2f62e9f8bcb364", func := "parry/parrylaw15.ParityRecur", spec := "parityRecur", unfollowed := true, recurses := true, plainKeys := false, apart := false }
def ParityRecurSaid : Prop := parityRecurRow.holds Try.pinned (OpenSpec.ofChange parityRecurSpec)

/-- ITS FALSE NEIGHBOUR: 'it returns false'. Refute it at one input. -/
def parityRecurWrong : ChangeSpec := { name := "parityRecur", fn := fun _ => fun
  | [d1, d2] => { results := [.lit (.bool false)], args := [d1, d2] }
  | _ => none }
def ParityRecurWrongFalsely : Prop := parityRecurRow.holds Try.pinned (OpenSpec.ofChange parityRecurWrong)

/-- 'parrylaw15.ParityLocal': WHATEVER THE INPUT: true; the input reads as it did. -/
def parityLocalSpec : ChangeSpec := { name := "parityLocal", fn := fun _ => fun
  | [d1, d2, d3, d4] => { results := [.lit (.bool true)], args := [d1, d2, d3, d4] }
  | _ => none }
def parityLocalRow : OpenClaim := { program := "ytmmfdmhjkcbobaa", sum := "dbd1effa12153d8cd9c7f5726b8b25d8200d427fd35a3b07aa2f62e9f8bcb364", func := "parry/parrylaw15.ParityLocal", spec := "parityLocal", unfollowed := true, recurses := true, plainKeys := false, apart := false }
def ParityLocalSaid : Prop := parityLocalRow.holds Try.pinned (OpenSpec.ofChange parityLocalSpec)

/-- ITS FALSE NEIGHBOUR: 'it returns false'. Refute it at one input. -/
def parityLocalWrong : ChangeSpec := { name := "parityLocal", fn := fun _ => fun
  | [d1, d2, d3, d4] => { results := [.lit (.bool false)], args := [d1, d2, d3, d4] }
  | _ => none }
def ParityLocalWrongFalsely : Prop := parityLocalRow.holds Try.pinned (OpenSpec.ofChange parityLocalWrong)

/- THE SECOND FORM. 'bulk': how many values and letters a reading holds, each counted each time it is reached (what is shared counts as often as it is met; a slice's spare places count too). A statement '..UptoSaid' is the law's where the arguments, and the package variables that the reading takes, are together of bulk at most 1048576: NARROWER than '..Said'. Prove '..Said' where nothing that the law and all that it calls make is longer than what came in: it says more and counts as full. Else prove '..UptoSaid'. A law counts once. -/
mutual
def uptoBulk {H : Type} : DataW H → Nat
  | .lit (.string bytes) => bytes.length + 1
  | .lit _ => 1
  | .nil => 1
  | .ptr d => uptoBulk d + 1
  | .slice elems spare => uptoBulkAll elems + uptoBulkAll spare + 1
  | .agg parts => uptoBulkAll parts + 1
  | .iface _ d => uptoBulk d + 1
  | .map entries => uptoBulkEntries entries + 1
  | .held _ => 1
def uptoBulkAll {H : Type} : List (DataW H) → Nat
  | [] => 0
  | d :: r => uptoBulk d + uptoBulkAll r
def uptoBulkEntries {H : Type} : List (Lit × DataW H) → Nat
  | [] => 0
  | x :: r => uptoBulkEntry x + uptoBulkEntries r
def uptoBulkEntry {H : Type} : Lit × DataW H → Nat
  | (.string bytes, d) => bytes.length + uptoBulk d + 1
  | (_, d) => uptoBulk d + 1
 end
def uptoSmall : (H : Type) → List (DataW H) → Bool := fun _ ds => decide (uptoBulkAll ds ≤ 1048576)
def OpenSpec.upto (s : _root_.Go.ChangeSpec) : _root_.Go.OpenSpec := { _root_.Go.OpenSpec.ofChange s with cond := some uptoSmall }

/-- 'parrylaw15.ParityForms', WHERE WHAT IT READS IS OF BULK AT MOST 1048576: true; the input reads as it did. -/
def parityFormsUptoRow : OpenClaim := { program := "ytmmfdmhjkcbobaa", sum := "dbd1effa12153d8cd9c7f5726b8b25d8200d427fd35a3b07aa2f62e9f8bcb364", func := "parry/parrylaw15.ParityForms", spec := "parityForms", unfollowed := true, recurses := true, plainKeys := false, apart := false, narrowed := true }
def ParityFormsUptoSaid : Prop := parityFormsUptoRow.holds Try.pinned (OpenSpec.upto parityFormsSpec)

/-- 'parrylaw15.ParityRight', WHERE WHAT IT READS IS OF BULK AT MOST 1048576: true; the input reads as it did. -/
def parityRightUptoRow : OpenClaim := { program := "ytmmfdmhjkcbobaa", sum := "dbd1effa12153d8cd9c7f5726b8b25d8200d427fd35a3b07aa2f62e9f8bcb364", func := "parry/parrylaw15.ParityRight", spec := "parityRight", unfollowed := true, recurses := true, plainKeys := false, apart := false, narrowed := true }
def ParityRightUptoSaid : Prop := parityRightUptoRow.holds Try.pinned (OpenSpec.upto parityRightSpec)

/-- 'parrylaw15.ParityTurned', WHERE WHAT IT READS IS OF BULK AT MOST 1048576: true; the input reads as it did. -/
def parityTurnedUptoRow : OpenClaim := { program := "ytmmfdmhjkcbobaa", sum := "dbd1effa12153d8cd9c7f5726b8b25d8200d427fd35a3b07aa2f62e9f8bcb364", func := "parry/parrylaw15.ParityTurned", spec := "parityTurned", unfollowed := true, recurses := true, plainKeys := false, apart := false, narrowed := true }
def ParityTurnedUptoSaid : Prop := parityTurnedUptoRow.holds Try.pinned (OpenSpec.upto parityTurnedSpec)

/-- 'parrylaw15.ParityOne', WHERE WHAT IT READS IS OF BULK AT MOST 1048576: true; the input reads as it did. -/
def parityOneUptoRow : OpenClaim := { program := "ytmmfdmhjkcbobaa", sum := "dbd1effa12153d8cd9c7f5726b8b25d8200d427fd35a3b07aa2f62e9f8bcb364", func := "parry/parrylaw15.ParityOne", spec := "parityOne", unfollowed := true, recurses := true, plainKeys := false, apart := false, narrowed := true }
def ParityOneUptoSaid : Prop := parityOneUptoRow.holds Try.pinned (OpenSpec.upto parityOneSpec)

/-- 'parrylaw15.ParityRecur', WHERE WHAT IT READS IS OF BULK AT MOST 1048576: true; the input reads as it did. -/
def parityRecurUptoRow : OpenClaim := { program := "ytmmfdmhjkcbobaa", sum := "dbd1effa12153d8cd9c7f5726b8b25d8200d427fd35a3b07aa2f62e9f8bcb364", func := "parry/parrylaw15.ParityRecur", spec := "parityRecur", unfollowed := true, recurses := true, plainKeys := false, apart := false, narrowed := true }
def ParityRecurUptoSaid : Prop := parityRecurUptoRow.holds Try.pinned (OpenSpec.upto parityRecurSpec)

/-- 'parrylaw15.ParityLocal', WHERE WHAT IT READS IS OF BULK AT MOST 1048576: true; the input reads as it did. -/
def parityLocalUptoRow : OpenClaim := { program := "ytmmfdmhjkcbobaa", sum := "dbd1effa12153d8cd9c7f5726b8b25d8200d427fd35a3b07aa2f62e9f8bcb364", func := "parry/parrylaw15.ParityLocal", spec := "parityLocal", unfollowed := true, recurses := true, plainKeys := false, apart := false, narrowed := true }
def ParityLocalUptoSaid : Prop := parityLocalUptoRow.holds Try.pinned (OpenSpec.upto parityLocalSpec)

end Rows
end Go.Proofs.Ytmmfdmhjkcbobaa
