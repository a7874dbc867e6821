/-
  No cell of these rows narrows 'for every input' (looked for: loops, veiled, ifaces, maps, wideKeys, modest, calm, conditions, laid).
  DERIVED. THE GIVEN ROWS OF THIS SEAT. 8 by the template 'for every input the law returns true; each argument reads behind the call as it read before'; 0 by the template 'total and deterministic' (their statements: YtdicfaplohdopaaTotals.lean).
  GIVEN WITH THE SEED: the statements are not yours to turn. If you find one false, say at which input.
  Laid BY PROGRAM, IN A SANDBOX (cutbox-rows.mjs): the forced cells as the released guide's own fill.sh prints them over the translation 7532f0db0def1633… (all of the seat's roots in one cut). By AI agents, Wed Nov 11 2026. No macro, syntax, notation, axiom, sorry.
-/
import Derived.Test.YtdicfaplohdopaaChecked
import GoSem.Claim
import GoSem.ClaimJoined
import GoSem.ClaimMapViews
import Derived.JoinedTies
import Derived.KernelRfl
namespace Go.Proofs.Ytdicfaplohdopaa
/- THE CELL 'sum', in the pinned program and in every row, IS THE sha256 OF THE DUMP (.gsa) THAT YtdicfaplohdopaaProg.lean LOADS. Nothing in Lean hashes anything: it is a label: what it is worth is what the hold of that sum in a sandbox is worth. -/
noncomputable def Try.pinned : Pinned := { name := "ytdicfaplohdopaa", sum := "7532f0db0def163357bc446a3f9c63566bbdfc7be865ad072b147ceb65927786", checked := Try.checked }
namespace Rows
def none {H : Type} : Left H := { results := [], args := [] }

/-- 'parrylaw11.PreEither': WHATEVER THE INPUT: true; the input reads as it did. -/
def preEitherSpec : ChangeSpec := { name := "preEither", fn := fun _ => fun
  | [d1, d2, d3] => { results := [.lit (.bool true)], args := [d1, d2, d3] }
  | _ => none }
def preEitherRow : OpenClaim := { program := "ytdicfaplohdopaa", sum := "7532f0db0def163357bc446a3f9c63566bbdfc7be865ad072b147ceb65927786", func := "parry/parrylaw11.PreEither", spec := "preEither", unfollowed := true, recurses := true, apart := false }
def PreEitherSaid : Prop := preEitherRow.holds Try.pinned (OpenSpec.ofChange preEitherSpec)

/-- ITS FALSE NEIGHBOUR: 'it returns false'. Refute it at one input. -/
def preEitherWrong : ChangeSpec := { name := "preEither", fn := fun _ => fun
  | [d1, d2, d3] => { results := [.lit (.bool false)], args := [d1, d2, d3] }
  | _ => none }
def PreEitherWrongFalsely : Prop := preEitherRow.holds Try.pinned (OpenSpec.ofChange preEitherWrong)

/-- 'parrylaw11.PreDead': WHATEVER THE INPUT: true; the input reads as it did. -/
def preDeadSpec : ChangeSpec := { name := "preDead", fn := fun _ => fun
  | [d1, d2, d3] => { results := [.lit (.bool true)], args := [d1, d2, d3] }
  | _ => none }
def preDeadRow : OpenClaim := { program := "ytdicfaplohdopaa", sum := "7532f0db0def163357bc446a3f9c63566bbdfc7be865ad072b147ceb65927786", func := "parry/parrylaw11.PreDead", spec := "preDead", unfollowed := true, recurses := true, apart := false }
def PreDeadSaid : Prop := preDeadRow.holds Try.pinned (OpenSpec.ofChange preDeadSpec)

/-- ITS FALSE NEIGHBOUR: 'it returns false'. Refute it at one input. -/
def preDeadWrong : ChangeSpec := { name := "preDead", fn := fun _ => fun
  | [d1, d2, d3] => { results := [.lit (.bool false)], args := [d1, d2, d3] }
  | _ => none }
def PreDeadWrongFalsely : Prop := preDeadRow.holds Try.pinned (OpenSpec.ofChange preDeadWrong)

/-- 'parrylaw11.PreGrows': WHATEVER THE INPUT: true; the input reads as it did. -/
def preGrowsSpec : ChangeSpec := { name := "preGrows", fn := fun _ => fun
  | [d1, d2, d3, d4] => { results := [.lit (.bool true)], args := [d1, d2, d3, d4] }
  | _ => none }
def preGrowsRow : OpenClaim := { program := "ytdicfaplohdopaa", sum := "7532f0db0def163357bc446a3f9c63566bbdfc7be865ad072b147ceb65927786", func := "parry/parrylaw11.PreGrows", spec := "preGrows", unfollowed := true, recurses := true, apart := false }
def PreGrowsSaid : Prop := preGrowsRow.holds Try.pinned (OpenSpec.ofChange preGrowsSpec)

/-- ITS FALSE NEIGHBOUR: 'it returns false'. Refute it at one input. -/
def preGrowsWrong : ChangeSpec := { name := "preGrows", fn := fun _ => fun
  | [d1, d2, d3, d4] => { results := [.lit (.bool false)], args := [d1, d2, d3, d4] }
  | _ => none }
def PreGrowsWrongFalsely : Prop := preGrowsRow.holds Try.pinned (OpenSpec.ofChange preGrowsWrong)

/-- 'parrylaw11.PreForms': WHATEVER THE INPUT: true; the input reads as it did. -/
def preFormsSpec : ChangeSpec := { name := "preForms", fn := fun _ => fun
  | [d1, d2, d3, d4] => { results := [.lit (.bool true)], args := [d1, d2, d3, d4] }
  | _ => none }
def preFormsRow : OpenClaim := { program := "ytdicfaplohdopaa", sum := "7532f0db0def163357bc446a3f9c63566bbdfc7be865ad072b147ceb65927786", func := "parry/parrylaw11.PreForms", spec := "preForms", unfollowed := true, recurses := true, apart := false }
def PreFormsSaid : Prop := preFormsRow.holds Try.pinned (OpenSpec.ofChange preFormsSpec)

/-- ITS FALSE NEIGHBOUR: 'it returns false'. Refute it at one input. -/
def preFormsWrong : ChangeSpec := { name := "preForms", fn := fun _ => fun
  | [d1, d2, d3, d4] => { results := [.lit (.bool false)], args := [d1, d2, d3, d4] }
  | _ => none }
def PreFormsWrongFalsely : Prop := preFormsRow.holds Try.pinned (OpenSpec.ofChange preFormsWrong)

/-- 'parrylaw9.GraphTurned': WHATEVER THE INPUT: true; the input reads as it did. -/
def graphTurnedSpec : ChangeSpec := { name := "graphTurned", fn := fun _ => fun
  | [d1, d2, d3] => { results := [.lit (.bool true)], args := [d1, d2, d3] }
  | _ => none }
def graphTurnedRow : OpenClaim := { program := "ytdicfaplohdopaa", sum := "7532f0db0def163357bc446a3f9c63566bbdfc7be865ad072b147ceb65927786", func := "parry/parrylaw9.GraphTurned", spec := "graphTurned", unfollowed := true, recurses := true, apart := false }
def GraphTurnedSaid : Prop := graphTurnedRow.holds Try.pinned (OpenSpec.ofChange graphTurnedSpec)

/-- ITS FALSE NEIGHBOUR: 'it returns false'. Refute it at one input. -/
def graphTurnedWrong : ChangeSpec := { name := "graphTurned", fn := fun _ => fun
  | [d1, d2, d3] => { results := [.lit (.bool false)], args := [d1, d2, d3] }
  | _ => none }
def GraphTurnedWrongFalsely : Prop := graphTurnedRow.holds Try.pinned (OpenSpec.ofChange graphTurnedWrong)

/-- 'parrylaw9.GraphReaches': WHATEVER THE INPUT: true; the input reads as it did. -/
def graphReachesSpec : ChangeSpec := { name := "graphReaches", fn := fun _ => fun
  | [d1, d2, d3] => { results := [.lit (.bool true)], args := [d1, d2, d3] }
  | _ => none }
def graphReachesRow : OpenClaim := { program := "ytdicfaplohdopaa", sum := "7532f0db0def163357bc446a3f9c63566bbdfc7be865ad072b147ceb65927786", func := "parry/parrylaw9.GraphReaches", spec := "graphReaches", unfollowed := true, recurses := true, apart := false }
def GraphReachesSaid : Prop := graphReachesRow.holds Try.pinned (OpenSpec.ofChange graphReachesSpec)

/-- ITS FALSE NEIGHBOUR: 'it returns false'. Refute it at one input. -/
def graphReachesWrong : ChangeSpec := { name := "graphReaches", fn := fun _ => fun
  | [d1, d2, d3] => { results := [.lit (.bool false)], args := [d1, d2, d3] }
  | _ => none }
def GraphReachesWrongFalsely : Prop := graphReachesRow.holds Try.pinned (OpenSpec.ofChange graphReachesWrong)

/-- 'parrylaw9.GraphOnce': WHATEVER THE INPUT: true; the input reads as it did. -/
def graphOnceSpec : ChangeSpec := { name := "graphOnce", fn := fun _ => fun
  | [d1, d2, d3] => { results := [.lit (.bool true)], args := [d1, d2, d3] }
  | _ => none }
def graphOnceRow : OpenClaim := { program := "ytdicfaplohdopaa", sum := "7532f0db0def163357bc446a3f9c63566bbdfc7be865ad072b147ceb65927786", func := "parry/parrylaw9.GraphOnce", spec := "graphOnce", unfollowed := true, recurses := true, apart := false }
def GraphOnceSaid : Prop := graphOnceRow.holds Try.pinned (OpenSpec.ofChange graphOnceSpec)

/-- ITS FALSE NEIGHBOUR: 'it returns false'. Refute it at one input. -/
def graphOnceWrong : ChangeSpec := { name := "graphOnce", fn := fun _ => fun
  | [d1, d2, d3] => { results := [.lit (.bool false)], args := [d1, d2, d3] }
  | _ => none }
def GraphOnceWrongFalsely : Prop := graphOnceRow.holds Try.pinned (OpenSpec.ofChange graphOnceWrong)

/-- 'parrylaw9.GraphCuts': WHATEVER THE INPUT: true; the input reads as it did. -/
def graphCutsSpec : ChangeSpec := { name := "graphCuts", fn := fun _ => fun
  | [d1, d2, d3, d4] => { results := [.lit (.bool true)], args := [d1, d2, d3, d4] }
  | _ => none }
def graphCutsRow : OpenClaim := { program := "ytdicfaplohdopaa", sum := "7532f0db0def163357bc446a3f9c63566bbdfc7be865ad072b147ceb65927786", func := "parry/parrylaw9.GraphCuts", spec := "graphCuts", unfollowed := true, recurses := true, apart := false }
def GraphCutsSaid : Prop := graphCutsRow.holds Try.pinned (OpenSpec.ofChange graphCutsSpec)

/-- ITS FALSE NEIGHBOUR: 'it returns false'. Refute it at one input. -/
def graphCutsWrong : ChangeSpec := { name := "graphCuts", fn := fun _ => fun
  | [d1, d2, d3, d4] => { results := [.lit (.bool false)], args := [d1, d2, d3, d4] }
  | _ => none }
def GraphCutsWrongFalsely : Prop := graphCutsRow.holds Try.pinned (OpenSpec.ofChange graphCutsWrong)

/- THE SECOND FORM. 'bulk': how many values and letters a reading holds, each counted each time it is reached (what is shared counts as often as it is met; a slice's spare places count too). A statement '..UptoSaid' is the law's where the arguments, and the package variables that the reading takes, are together of bulk at most 1048576: NARROWER than '..Said'. Prove '..Said' where nothing that the law and all that it calls make is longer than what came in: it says more and counts as full. Else prove '..UptoSaid'. A law counts once. -/
mutual
def uptoBulk {H : Type} : DataW H → Nat
  | .lit (.string bytes) => bytes.length + 1
  | .lit _ => 1
  | .nil => 1
  | .ptr d => uptoBulk d + 1
  | .slice elems spare => uptoBulkAll elems + uptoBulkAll spare + 1
  | .agg parts => uptoBulkAll parts + 1
  | .iface _ d => uptoBulk d + 1
  | .map entries => uptoBulkEntries entries + 1
  | .held _ => 1
def uptoBulkAll {H : Type} : List (DataW H) → Nat
  | [] => 0
  | d :: r => uptoBulk d + uptoBulkAll r
def uptoBulkEntries {H : Type} : List (Lit × DataW H) → Nat
  | [] => 0
  | x :: r => uptoBulkEntry x + uptoBulkEntries r
def uptoBulkEntry {H : Type} : Lit × DataW H → Nat
  | (.string bytes, d) => bytes.length + uptoBulk d + 1
  | (_, d) => uptoBulk d + 1
 end
def uptoSmall : (H : Type) → List (DataW H) → Bool := fun _ ds => decide (uptoBulkAll ds ≤ 1048576)
def OpenSpec.upto (s : _root_.Go.ChangeSpec) : _root_.Go.OpenSpec := { _root_.Go.OpenSpec.ofChange s with cond := some uptoSmall }

/-- 'parrylaw11.PreEither', WHERE WHAT IT READS IS OF BULK AT MOST 1048576: true; the input reads as it did. -/
def preEitherUptoRow : OpenClaim := { program := "ytdicfaplohdopaa", sum := "7532f0db0def163357bc446a3f9c63566bbdfc7be865ad072b147ceb65927786", func := "parry/parrylaw11.PreEither", spec := "preEither", unfollowed := true, recurses := true, apart := false, narrowed := true }
def PreEitherUptoSaid : Prop := preEitherUptoRow.holds Try.pinned (OpenSpec.upto preEitherSpec)

/-- 'parrylaw11.PreDead', WHERE WHAT IT READS IS OF BULK AT MOST 1048576: true; the input reads as it did. -/
def preDeadUptoRow : OpenClaim := { program := "ytdicfaplohdopaa", sum := "7532f0db0def163357bc446a3f9c63566bbdfc7be865ad072b147ceb65927786", func := "parry/parrylaw11.PreDead", spec := "preDead", unfollowed := true, recurses := true, apart := false, narrowed := true }
def PreDeadUptoSaid : Prop := preDeadUptoRow.holds Try.pinned (OpenSpec.upto preDeadSpec)

/-- 'parrylaw11.PreGrows', WHERE WHAT IT READS IS OF BULK AT MOST 1048576: true; the input reads as it did. -/
def preGrowsUptoRow : OpenClaim := { program := "ytdicfaplohdopaa", sum := "7532f0db0def163357bc446a3f9c63566bbdfc7be865ad072b147ceb65927786", func := "parry/parrylaw11.PreGrows", spec := "preGrows", unfollowed := true, recurses := true, apart := false, narrowed := true }
def PreGrowsUptoSaid : Prop := preGrowsUptoRow.holds Try.pinned (OpenSpec.upto preGrowsSpec)

/-- 'parrylaw11.PreForms', WHERE WHAT IT READS IS OF BULK AT MOST 1048576: true; the input reads as it did. -/
def preFormsUptoRow : OpenClaim := { program := "ytdicfaplohdopaa", sum := "7532f0db0def163357bc446a3f9c63566bbdfc7be865ad072b147ceb65927786", func := "parry/parrylaw11.PreForms", spec := "preForms", unfollowed := true, recurses := true, apart := false, narrowed := true }
def PreFormsUptoSaid : Prop := preFormsUptoRow.holds Try.pinned (OpenSpec.upto preFormsSpec)

/-- 'parrylaw9.GraphTurned', WHERE WHAT IT READS IS OF BULK AT MOST 1048576: true; the input reads as it did. -/
def graphTurnedUptoRow : OpenClaim := { program := "ytdicfaplohdopaa", sum := "7532f0db0def163357bc446a3f9c63566bbdfc7be865ad072b147ceb65927786", func := "parry/parrylaw9.GraphTurned", spec := "graphTurned", unfollowed := true, recurses := true, apart := false, narrowed := true }
def GraphTurnedUptoSaid : Prop := graphTurnedUptoRow.holds Try.pinned (OpenSpec.upto graphTurnedSpec)

/-- 'parrylaw9.GraphReaches', WHERE WHAT IT READS IS OF BULK AT MOST 1048576: true; the input reads as it did. -/
def graphReachesUptoRow : OpenClaim := { program := "ytdicfaplohdopaa", sum := "7532f0db0def163357bc446a3f9c63566bbdfc7be865ad072b147ceb65927786", func := "parry/parrylaw9.GraphReaches", spec := "graphReaches", unfollowed := true, recurses := true, apart := false, narrowed := true }
def GraphReachesUptoSaid : Prop := graphReachesUptoRow.holds Try.pinned (OpenSpec.upto graphReachesSpec)

/-- 'parrylaw9.GraphOnce', WHERE WHAT IT READS IS OF BULK AT MOST 1048576: true; the input reads as it did. -/
def graphOnceUptoRow : OpenClaim := { program := "ytdicfaplohdopaa", sum := "7532f0db0def163357bc446a3f9c63566bbdfc7be865ad072b147ceb65927786", func := "parry/parrylaw9.GraphOnce", spec := "graphOnce", unfollowed := true, recurses := true, apart := false, narrowed := true }
def GraphOnceUptoSaid : Prop := graphOnceUptoRow.holds Try.pinned (OpenSpec.upto graphOnceSpec)

/-- 'parrylaw9.GraphCuts', WHERE WHAT IT READS IS OF BULK AT MOST 1048576: true; the input reads as it did. -/
def graphCutsUptoRow : OpenClaim := { program := "ytdicfaplohdopaa", sum := "7532f0db0def163357bc446a3f9c63566bbdfc7be865ad072b147ceb65927786", func := "parry/parrylaw9.GraphCuts", spec := "graphCuts", unfollowed := true, recurses := true, apart := false, narrowed := true }
def GraphCutsUptoSaid : Prop := graphCutsUptoRow.holds Try.pinned (OpenSpec.upto graphCutsSpec)

end Rows
end Go.Proofs.Ytdicfaplohdopaa
