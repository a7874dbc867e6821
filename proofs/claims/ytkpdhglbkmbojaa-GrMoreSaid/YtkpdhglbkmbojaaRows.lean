/-
  No cell of these rows narrows 'for every input' (looked for: loops, veiled, ifaces, maps, wideKeys, modest, calm, conditions, laid).
  DERIVED. THE GIVEN ROWS OF THIS SEAT. 8 by the template 'for every input the law returns true; each argument reads behind the call as it read before'; 0 by the template 'total and deterministic' (their statements: YtkpdhglbkmbojaaTotals.lean).
  GIVEN WITH THE SEED: the statements are not yours to turn. If you find one false, say at which input.
  Laid BY PROGRAM, IN A SANDBOX (cutbox-rows.mjs): the forced cells as the released guide's own fill.sh prints them over the translation c9687639ad03fcfb… (all of the seat's roots in one cut). By AI agents, Wed Nov 11 2026. No macro, syntax, notation, axiom, sorry.
-/
import Derived.Test.YtkpdhglbkmbojaaChecked
import GoSem.Claim
import GoSem.ClaimJoined
import GoSem.ClaimMapViews
import Derived.JoinedTies
import Derived.KernelRfl
namespace Go.Proofs.Ytkpdhglbkmbojaa
/- THE CELL 'sum', in the pinned program and in every row, IS THE sha256 OF THE DUMP (.gsa) THAT YtkpdhglbkmbojaaProg.lean LOADS. Nothing in Lean hashes anything: it is a label: what it is worth is what the hold of that sum in a sandbox is worth. -/
noncomputable def Try.pinned : Pinned := { name := "ytkpdhglbkmbojaa", sum := "c9687639ad03fcfbf55ffa2114b1397f43a5505c53d62859fb01122c2a8f3890", checked := Try.checked }
namespace Rows
def none {H : Type} : Left H := { results := [], args := [] }

/-- 'parrylaw20.CounterRounds': WHATEVER THE INPUT: true; the input reads as it did. -/
def counterRoundsSpec : ChangeSpec := { name := "counterRounds", fn := fun _ => fun
  | [d1, d2, d3] => { results := [.lit (.bool true)], args := [d1, d2, d3] }
  | _ => none }
def counterRoundsRow : OpenClaim := { program := "ytkpdhglbkmbojaa", sum := "c9687639ad03fcfbf55ffa2114b1397f43a5505c53d62859fb01122c2a8f3890", func := "parry/parrylaw20.CounterRounds", spec := "counterRounds", apart := false }
def CounterRoundsSaid : Prop := counterRoundsRow.holds Try.pinned (OpenSpec.ofChange counterRoundsSpec)

/-- ITS FALSE NEIGHBOUR: 'it returns false'. Refute it at one input. -/
def counterRoundsWrong : ChangeSpec := { name := "counterRounds", fn := fun _ => fun
  | [d1, d2, d3] => { results := [.lit (.bool false)], args := [d1, d2, d3] }
  | _ => none }
def CounterRoundsWrongFalsely : Prop := counterRoundsRow.holds Try.pinned (OpenSpec.ofChange counterRoundsWrong)

/-- 'parrylaw20.CounterWays': WHATEVER THE INPUT: true; the input reads as it did. -/
def counterWaysSpec : ChangeSpec := { name := "counterWays", fn := fun _ => fun
  | [d1, d2, d3] => { results := [.lit (.bool true)], args := [d1, d2, d3] }
  | _ => none }
def counterWaysRow : OpenClaim := { program := "ytkpdhglbkmbojaa", sum := "c9687639ad03fcfbf55ffa2114b1397f43a5505c53d62859fb01122c2a8f3890", func := "parry/parrylaw20.CounterWays", spec := "counterWays", apart := false }
def CounterWaysSaid : Prop := counterWaysRow.holds Try.pinned (OpenSpec.ofChange counterWaysSpec)

/-- ITS FALSE NEIGHBOUR: 'it returns false'. Refute it at one input. -/
def counterWaysWrong : ChangeSpec := { name := "counterWays", fn := fun _ => fun
  | [d1, d2, d3] => { results := [.lit (.bool false)], args := [d1, d2, d3] }
  | _ => none }
def CounterWaysWrongFalsely : Prop := counterWaysRow.holds Try.pinned (OpenSpec.ofChange counterWaysWrong)

/-- 'parrylaw20.CounterForms': WHATEVER THE INPUT: true; the input reads as it did. -/
def counterFormsSpec : ChangeSpec := { name := "counterForms", fn := fun _ => fun
  | [d1, d2, d3, d4, d5] => { results := [.lit (.bool true)], args := [d1, d2, d3, d4, d5] }
  | _ => none }
def counterFormsRow : OpenClaim := { program := "ytkpdhglbkmbojaa", sum := "c9687639ad03fcfbf55ffa2114b1397f43a5505c53d62859fb01122c2a8f3890", func := "parry/parrylaw20.CounterForms", spec := "counterForms", apart := false }
def CounterFormsSaid : Prop := counterFormsRow.holds Try.pinned (OpenSpec.ofChange counterFormsSpec)

/-- ITS FALSE NEIGHBOUR: 'it returns false'. Refute it at one input. -/
def counterFormsWrong : ChangeSpec := { name := "counterForms", fn := fun _ => fun
  | [d1, d2, d3, d4, d5] => { results := [.lit (.bool false)], args := [d1, d2, d3, d4, d5] }
  | _ => none }
def CounterFormsWrongFalsely : Prop := counterFormsRow.holds Try.pinned (OpenSpec.ofChange counterFormsWrong)

/-- 'parrylaw18.GrAgrees': WHATEVER THE INPUT: true; the input reads as it did. -/
def grAgreesSpec : ChangeSpec := { name := "grAgrees", fn := fun _ => fun
  | [d1, d2, d3] => { results := [.lit (.bool true)], args := [d1, d2, d3] }
  | _ => none }
def grAgreesRow : OpenClaim := { program := "ytkpdhglbkmbojaa", sum := "c9687639ad03fcfbf55ffa2114b1397f43a5505c53d62859fb01122c2a8f3890", func := "parry/parrylaw18.GrAgrees", spec := "grAgrees", unfollowed := true, recurses := true, apart := false }
def GrAgreesSaid : Prop := grAgreesRow.holds Try.pinned (OpenSpec.ofChange grAgreesSpec)

/-- ITS FALSE NEIGHBOUR: 'it returns false'. Refute it at one input. -/
def grAgreesWrong : ChangeSpec := { name := "grAgrees", fn := fun _ => fun
  | [d1, d2, d3] => { results := [.lit (.bool false)], args := [d1, d2, d3] }
  | _ => none }
def GrAgreesWrongFalsely : Prop := grAgreesRow.holds Try.pinned (OpenSpec.ofChange grAgreesWrong)

/-- 'parrylaw18.GrMore': WHATEVER THE INPUT: true; the input reads as it did. -/
def grMoreSpec : ChangeSpec := { name := "grMore", fn := fun _ => fun
  | [d1, d2, d3, d4] => { results := [.lit (.bool true)], args := [d1, d2, d3, d4] }
  | _ => none }
def grMoreRow : OpenClaim := { program := "ytkpdhglbkmbojaa", sum := "c9687639ad03fcfbf55ffa2114b1397f43a5505c53d62859fb01122c2a8f3890", func := "parry/parrylaw18.GrMore", spec := "grMore", unfollowed := true, recurses := true, apart := false }
def GrMoreSaid : Prop := grMoreRow.holds Try.pinned (OpenSpec.ofChange grMoreSpec)

/-- ITS FALSE NEIGHBOUR: 'it returns false'. Refute it at one input. -/
def grMoreWrong : ChangeSpec := { name := "grMore", fn := fun _ => fun
  | [d1, d2, d3, d4] => { results := [.lit (.bool false)], args := [d1, d2, d3, d4] }
  | _ => none }
def GrMoreWrongFalsely : Prop := grMoreRow.holds Try.pinned (OpenSpec.ofChange grMoreWrong)

/-- 'parrylaw18.GrForms': WHATEVER THE INPUT: true; the input reads as it did. -/
def grFormsSpec : ChangeSpec := { name := "grForms", fn := fun _ => fun
  | [d1, d2, d3] => { results := [.lit (.bool true)], args := [d1, d2, d3] }
  | _ => none }
def grFormsRow : OpenClaim := { program := "ytkpdhglbkmbojaa", sum := "c9687639ad03fcfbf55ffa2114b1397f43a5505c53d62859fb01122c2a8f3890", func := "parry/parrylaw18.GrForms", spec := "grForms", unfollowed := true, recurses := true, apart := false }
def GrFormsSaid : Prop := grFormsRow.holds Try.pinned (OpenSpec.ofChange grFormsSpec)

/-- ITS FALSE NEIGHBOUR: 'it returns false'. Refute it at one input. -/
def grFormsWrong : ChangeSpec := { name := "grForms", fn := fun _ => fun
  | [d1, d2, d3] => { results := [.lit (.bool false)], args := [d1, d2, d3] }
  | _ => none }
def GrFormsWrongFalsely : Prop := grFormsRow.holds Try.pinned (OpenSpec.ofChange grFormsWrong)

/-- 'parrylaw18.GrForced': WHATEVER THE INPUT: true; the input reads as it did. -/
def grForcedSpec : ChangeSpec := { name := "grForced", fn := fun _ => fun
  | [d1, d2, d3] => { results := [.lit (.bool true)], args := [d1, d2, d3] }
  | _ => none }
def grForcedRow : OpenClaim := { program := "ytkpdhglbkmbojaa", sum := "c9687639ad03fcfbf55ffa2114b1397f43a5505c53d62859fb01122c2a8f3890", func := "parry/parrylaw18.GrForced", spec := "grForced", unfollowed := true, recurses := true, apart := false }
def GrForcedSaid : Prop := grForcedRow.holds Try.pinned (OpenSpec.ofChange grForcedSpec)

/-- ITS FALSE NEIGHBOUR: 'it returns false'. Refute it at one input. -/
def grForcedWrong : ChangeSpec := { name := "grForced", fn := fun _ => fun
  | [d1, d2, d3] => { results := [.lit (.bool false)], args := [d1, d2, d3] }
  | _ => none }
def GrForcedWrongFalsely : Prop := grForcedRow.holds Try.pinned (OpenSpec.ofChange grForcedWrong)

/-- 'parrylaw18.GrAgain': WHATEVER THE INPUT: true; the input reads as it did. -/
def grAgainSpec : ChangeSpec := { name := "grAgain", fn := fun _ => fun
  | [d1, d2] => { results := [.lit (.bool true)], args := [d1, d2] }
  | _ => none }
def grAgainRow : OpenClaim := { program := "ytkpdhglbkmbojaa", sum := "c9687639ad03fcfbf55ffa2114b1397f43a5505c53d62859fb01122c2a8f3890", func := "parry/parrylaw18.GrAgain", spec := "grAgain", unfollowed := true, recurses := true, apart := false }
def GrAgainSaid : Prop := grAgainRow.holds Try.pinned (OpenSpec.ofChange grAgainSpec)

/-- ITS FALSE NEIGHBOUR: 'it returns false'. Refute it at one input. -/
def grAgainWrong : ChangeSpec := { name := "grAgain", fn := fun _ => fun
  | [d1, d2] => { results := [.lit (.bool false)], args := [d1, d2] }
  | _ => none }
def GrAgainWrongFalsely : Prop := grAgainRow.holds Try.pinned (OpenSpec.ofChange grAgainWrong)

/- THE SECOND FORM. 'bulk': how many values and letters a reading holds, each counted each time it is reached (what is shared counts as often as it is met; a slice's spare places count too). A statement '..UptoSaid' is the law's where the arguments, and the package variables that the reading takes, are together of bulk at most 1048576: NARROWER than '..Said'. Prove '..Said' where nothing that the law and all that it calls make is longer than what came in: it says more and counts as full. Else prove '..UptoSaid'. A law counts once. -/
mutual
def uptoBulk {H : Type} : DataW H → Nat
  | .lit (.string bytes) => bytes.length + 1
  | .lit _ => 1
  | .nil => 1
  | .ptr d => uptoBulk d + 1
  | .slice elems spare => uptoBulkAll elems + uptoBulkAll spare + 1
  | .agg parts => uptoBulkAll parts + 1
  | .iface _ d => uptoBulk d + 1
  | .map entries => uptoBulkEntries entries + 1
  | .held _ => 1
def uptoBulkAll {H : Type} : List (DataW H) → Nat
  | [] => 0
  | d :: r => uptoBulk d + uptoBulkAll r
def uptoBulkEntries {H : Type} : List (Lit × DataW H) → Nat
  | [] => 0
  | x :: r => uptoBulkEntry x + uptoBulkEntries r
def uptoBulkEntry {H : Type} : Lit × DataW H → Nat
  | (.string bytes, d) => bytes.length + uptoBulk d + 1
  | (_, d) => uptoBulk d + 1
 end
def uptoSmall : (H : Type) → List (DataW H) → Bool := fun _ ds => decide (uptoBulkAll ds ≤ 1048576)
def OpenSpec.upto (s : _root_.Go.ChangeSpec) : _root_.Go.OpenSpec := { _root_.Go.OpenSpec.ofChange s with cond := some uptoSmall }

/-- 'parrylaw20.CounterRounds', WHERE WHAT IT READS IS OF BULK AT MOST 1048576: true; the input reads as it did. -/
def counterRoundsUptoRow : OpenClaim := { program := "ytkpdhglbkmbojaa", sum := "c9687639ad03fcfbf55ffa2114b1397f43a5505c53d62859fb01122c2a8f3890", func := "parry/parrylaw20.CounterRounds", spec := "counterRounds", apart := false, narrowed := true }
def CounterRoundsUptoSaid : Prop := counterRoundsUptoRow.holds Try.pinned (OpenSpec.upto counterRoundsSpec)

/-- 'parrylaw20.CounterWays', WHERE WHAT IT READS IS OF BULK AT MOST 1048576: true; the input reads as it did. -/
def counterWaysUptoRow : OpenClaim := { program := "ytkpdhglbkmbojaa", sum := "c9687639ad03fcfbf55ffa2114b1397f43a5505c53d62859fb01122c2a8f3890", func := "parry/parrylaw20.CounterWays", spec := "counterWays", apart := false, narrowed := true }
def CounterWaysUptoSaid : Prop := counterWaysUptoRow.holds Try.pinned (OpenSpec.upto counterWaysSpec)

/-- 'parrylaw20.CounterForms', WHERE WHAT IT READS IS OF BULK AT MOST 1048576: true; the input reads as it did. -/
def counterFormsUptoRow : OpenClaim := { program := "ytkpdhglbkmbojaa", sum := "c9687639ad03fcfbf55ffa2114b1397f43a5505c53d62859fb01122c2a8f3890", func := "parry/parrylaw20.CounterForms", spec := "counterForms", apart := false, narrowed := true }
def CounterFormsUptoSaid : Prop := counterFormsUptoRow.holds Try.pinned (OpenSpec.upto counterFormsSpec)

/-- 'parrylaw18.GrAgrees', WHERE WHAT IT READS IS OF BULK AT MOST 1048576: true; the input reads as it did. -/
def grAgreesUptoRow : OpenClaim := { program := "ytkpdhglbkmbojaa", sum := "c9687639ad03fcfbf55ffa2114b1397f43a5505c53d62859fb01122c2a8f3890", func := "parry/parrylaw18.GrAgrees", spec := "grAgrees", unfollowed := true, recurses := true, apart := false, narrowed := true }
def GrAgreesUptoSaid : Prop := grAgreesUptoRow.holds Try.pinned (OpenSpec.upto grAgreesSpec)

/-- 'parrylaw18.GrMore', WHERE WHAT IT READS IS OF BULK AT MOST 1048576: true; the input reads as it did. -/
def grMoreUptoRow : OpenClaim := { program := "ytkpdhglbkmbojaa", sum := "c9687639ad03fcfbf55ffa2114b1397f43a5505c53d62859fb01122c2a8f3890", func := "parry/parrylaw18.GrMore", spec := "grMore", unfollowed := true, recurses := true, apart := false, narrowed := true }
def GrMoreUptoSaid : Prop := grMoreUptoRow.holds Try.pinned (OpenSpec.upto grMoreSpec)

/-- 'parrylaw18.GrForms', WHERE WHAT IT READS IS OF BULK AT MOST 1048576: true; the input reads as it did. -/
def grFormsUptoRow : OpenClaim := { program := "ytkpdhglbkmbojaa", sum := "c9687639ad03fcfbf55ffa2114b1397f43a5505c53d62859fb01122c2a8f3890", func := "parry/parrylaw18.GrForms", spec := "grForms", unfollowed := true, recurses := true, apart := false, narrowed := true }
def GrFormsUptoSaid : Prop := grFormsUptoRow.holds Try.pinned (OpenSpec.upto grFormsSpec)

/-- 'parrylaw18.GrForced', WHERE WHAT IT READS IS OF BULK AT MOST 1048576: true; the input reads as it did. -/
def grForcedUptoRow : OpenClaim := { program := "ytkpdhglbkmbojaa", sum := "c9687639ad03fcfbf55ffa2114b1397f43a5505c53d62859fb01122c2a8f3890", func := "parry/parrylaw18.GrForced", spec := "grForced", unfollowed := true, recurses := true, apart := false, narrowed := true }
def GrForcedUptoSaid : Prop := grForcedUptoRow.holds Try.pinned (OpenSpec.upto grForcedSpec)

/-- 'parrylaw18.GrAgain', WHERE WHAT IT READS IS OF BULK AT MOST 1048576: true; the input reads as it did. -/
def grAgainUptoRow : OpenClaim := { program := "ytkpdhglbkmbojaa", sum := "c9687639ad03fcfbf55ffa2114b1397f43a5505c53d62859fb01122c2a8f3890", func := "parry/parrylaw18.GrAgain", spec := "grAgain", unfollowed := true, recurses := true, apart := false, narrowed := true }
def GrAgainUptoSaid : Prop := grAgainUptoRow.holds Try.pinned (OpenSpec.upto grAgainSpec)

end Rows
end Go.Proofs.Ytkpdhglbkmbojaa
