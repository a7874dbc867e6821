/-
  No cell of these rows narrows 'for every input' (looked for: loops, veiled, ifaces, maps, wideKeys, modest, calm, conditions, laid).
  DERIVED. THE GIVEN ROWS OF THIS SEAT. 9 by the template 'for every input the law returns true; each argument reads behind the call as it read before'; 0 by the template 'total and deterministic' (their statements: YtaipmknajpbpkaaTotals.lean).
  GIVEN WITH THE SEED: the statements are not yours to turn. If you find one false, say at which input.
  Laid BY PROGRAM, IN A SANDBOX (cutbox-rows.mjs): the forced cells as the released guide's own fill.sh prints them over the translation 5a8f09e7efd3f19f… (all of the seat's roots in one cut). By AI agents, Wed Nov 11 2026. No macro, syntax, notation, axiom, sorry.
-/
import Derived.Test.YtaipmknajpbpkaaChecked
import GoSem.Claim
import GoSem.ClaimJoined
import GoSem.ClaimMapViews
import Derived.JoinedTies
import Derived.KernelRfl
namespace Go.Proofs.Ytaipmknajpbpkaa
/- THE CELL 'sum', in the pinned program and in every row, IS THE sha256 OF THE DUMP (.gsa) THAT YtaipmknajpbpkaaProg.lean LOADS. Nothing in Lean hashes anything: it is a label: what it is worth is what the hold of that sum in a sandbox is worth. -/
noncomputable def Try.pinned : Pinned := { name := "ytaipmknajpbpkaa", sum := "5a8f09e7efd3f19fc37e6cef34042060cb4027e378d82e5427e359bdbf5fb0aa", checked := Try.checked }
namespace Rows
def none {H : Type} : Left H := { results := [], args := [] }

/-- 'parrylaw19.PlanRight': WHATEVER THE INPUT: true; the input reads as it did. -/
def planRightSpec : ChangeSpec := { name := "planRight", fn := fun _ => fun
  | [d1, d2, d3] => { results := [.lit (.bool true)], args := [d1, d2, d3] }
  | _ => none }
def planRightRow : OpenClaim := { program := "ytaipmknajpbpkaa", sum := "5a8f09e7efd3f19fc37e6cef34042060cb4027e378d82e5427e359bdbf5fb0aa", func := "parry/parrylaw19.PlanRight", spec := "planRight", unfollowed := true, recurses := true, plainKeys := false, apart := false }
def PlanRightSaid : Prop := planRightRow.holds Try.pinned (OpenSpec.ofChange planRightSpec)

/-- ITS FALSE NEIGHBOUR: 'it returns false'. Refute it at one input. -/
def planRightWrong : ChangeSpec := { name := "planRight", fn := fun _ => fun
  | [d1, d2, d3] => { results := [.lit (.bool false)], args := [d1, d2, d3] }
  | _ => none }
def PlanRightWrongFalsely : Prop := planRightRow.holds Try.pinned (OpenSpec.ofChange planRightWrong)

/-- 'parrylaw19.PlanThens': WHATEVER THE INPUT: true; the input reads as it did. -/
def planThensSpec : ChangeSpec := { name := "planThens", fn := fun _ => fun
  | [d1, d2, d3, d4] => { results := [.lit (.bool true)], args := [d1, d2, d3, d4] }
  | _ => none }
def planThensRow : OpenClaim := { program := "ytaipmknajpbpkaa", sum := "5a8f09e7efd3f19fc37e6cef34042060cb4027e378d82e5427e359bdbf5fb0aa", func := "parry/parrylaw19.PlanThens", spec := "planThens", unfollowed := true, recurses := true, plainKeys := false, apart := false }
def PlanThensSaid : Prop := planThensRow.holds Try.pinned (OpenSpec.ofChange planThensSpec)

/-- ITS FALSE NEIGHBOUR: 'it returns false'. Refute it at one input. -/
def planThensWrong : ChangeSpec := { name := "planThens", fn := fun _ => fun
  | [d1, d2, d3, d4] => { results := [.lit (.bool false)], args := [d1, d2, d3, d4] }
  | _ => none }
def PlanThensWrongFalsely : Prop := planThensRow.holds Try.pinned (OpenSpec.ofChange planThensWrong)

/-- 'parrylaw19.PlanAll': WHATEVER THE INPUT: true; the input reads as it did. -/
def planAllSpec : ChangeSpec := { name := "planAll", fn := fun _ => fun
  | [d1, d2, d3] => { results := [.lit (.bool true)], args := [d1, d2, d3] }
  | _ => none }
def planAllRow : OpenClaim := { program := "ytaipmknajpbpkaa", sum := "5a8f09e7efd3f19fc37e6cef34042060cb4027e378d82e5427e359bdbf5fb0aa", func := "parry/parrylaw19.PlanAll", spec := "planAll", unfollowed := true, recurses := true, plainKeys := false, apart := false }
def PlanAllSaid : Prop := planAllRow.holds Try.pinned (OpenSpec.ofChange planAllSpec)

/-- ITS FALSE NEIGHBOUR: 'it returns false'. Refute it at one input. -/
def planAllWrong : ChangeSpec := { name := "planAll", fn := fun _ => fun
  | [d1, d2, d3] => { results := [.lit (.bool false)], args := [d1, d2, d3] }
  | _ => none }
def PlanAllWrongFalsely : Prop := planAllRow.holds Try.pinned (OpenSpec.ofChange planAllWrong)

/-- 'parrylaw19.PlanWalk': WHATEVER THE INPUT: true; the input reads as it did. -/
def planWalkSpec : ChangeSpec := { name := "planWalk", fn := fun _ => fun
  | [d1, d2, d3, d4, d5] => { results := [.lit (.bool true)], args := [d1, d2, d3, d4, d5] }
  | _ => none }
def planWalkRow : OpenClaim := { program := "ytaipmknajpbpkaa", sum := "5a8f09e7efd3f19fc37e6cef34042060cb4027e378d82e5427e359bdbf5fb0aa", func := "parry/parrylaw19.PlanWalk", spec := "planWalk", unfollowed := true, recurses := true, plainKeys := false, apart := false }
def PlanWalkSaid : Prop := planWalkRow.holds Try.pinned (OpenSpec.ofChange planWalkSpec)

/-- ITS FALSE NEIGHBOUR: 'it returns false'. Refute it at one input. -/
def planWalkWrong : ChangeSpec := { name := "planWalk", fn := fun _ => fun
  | [d1, d2, d3, d4, d5] => { results := [.lit (.bool false)], args := [d1, d2, d3, d4, d5] }
  | _ => none }
def PlanWalkWrongFalsely : Prop := planWalkRow.holds Try.pinned (OpenSpec.ofChange planWalkWrong)

/-- 'parrylaw21.FoilRight': WHATEVER THE INPUT: true; the input reads as it did. -/
def foilRightSpec : ChangeSpec := { name := "foilRight", fn := fun _ => fun
  | [d1, d2, d3] => { results := [.lit (.bool true)], args := [d1, d2, d3] }
  | _ => none }
def foilRightRow : OpenClaim := { program := "ytaipmknajpbpkaa", sum := "5a8f09e7efd3f19fc37e6cef34042060cb4027e378d82e5427e359bdbf5fb0aa", func := "parry/parrylaw21.FoilRight", spec := "foilRight", unfollowed := true, recurses := true, plainKeys := false, apart := false }
def FoilRightSaid : Prop := foilRightRow.holds Try.pinned (OpenSpec.ofChange foilRightSpec)

/-- ITS FALSE NEIGHBOUR: 'it returns false'. Refute it at one input. -/
def foilRightWrong : ChangeSpec := { name := "foilRight", fn := fun _ => fun
  | [d1, d2, d3] => { results := [.lit (.bool false)], args := [d1, d2, d3] }
  | _ => none }
def FoilRightWrongFalsely : Prop := foilRightRow.holds Try.pinned (OpenSpec.ofChange foilRightWrong)

/-- 'parrylaw21.FoilThens': WHATEVER THE INPUT: true; the input reads as it did. -/
def foilThensSpec : ChangeSpec := { name := "foilThens", fn := fun _ => fun
  | [d1, d2, d3, d4, d5] => { results := [.lit (.bool true)], args := [d1, d2, d3, d4, d5] }
  | _ => none }
def foilThensRow : OpenClaim := { program := "ytaipmknajpbpkaa", sum := "5a8f09e7efd3f19fc37e6cef34042060cb4027e378d82e5427e359bdbf5fb0aa", func := "parry/parrylaw21.FoilThens", spec := "foilThens", unfollowed := true, recurses := true, plainKeys := false, apart := false }
def FoilThensSaid : Prop := foilThensRow.holds Try.pinned (OpenSpec.ofChange foilThensSpec)

/-- ITS FALSE NEIGHBOUR: 'it returns false'. Refute it at one input. -/
def foilThensWrong : ChangeSpec := { name := "foilThens", fn := fun _ => fun
  | [d1, d2, d3, d4, d5] => { results := [.lit (.bool false)], args := [d1, d2, d3, d4, d5] }
  | _ => none }
def FoilThensWrongFalsely : Prop := foilThensRow.holds Try.pinned (OpenSpec.ofChange foilThensWrong)

/-- 'parrylaw21.FoilAll': WHATEVER THE INPUT: true; the input reads as it did. -/
def foilAllSpec : ChangeSpec := { name := "foilAll", fn := fun _ => fun
  | [d1, d2, d3] => { results := [.lit (.bool true)], args := [d1, d2, d3] }
  | _ => none }
def foilAllRow : OpenClaim := { program := "ytaipmknajpbpkaa", sum := "5a8f09e7efd3f19fc37e6cef34042060cb4027e378d82e5427e359bdbf5fb0aa", func := "parry/parrylaw21.FoilAll", spec := "foilAll", unfollowed := true, recurses := true, plainKeys := false, apart := false }
def FoilAllSaid : Prop := foilAllRow.holds Try.pinned (OpenSpec.ofChange foilAllSpec)

/-- ITS FALSE NEIGHBOUR: 'it returns false'. Refute it at one input. -/
def foilAllWrong : ChangeSpec := { name := "foilAll", fn := fun _ => fun
  | [d1, d2, d3] => { results := [.lit (.bool false)], args := [d1, d2, d3] }
  | _ => none }
def FoilAllWrongFalsely : Prop := foilAllRow.holds Try.pinned (OpenSpec.ofChange foilAllWrong)

/-- 'parrylaw21.FoilWalk': WHATEVER THE INPUT: true; the input reads as it did. -/
def foilWalkSpec : ChangeSpec := { name := "foilWalk", fn := fun _ => fun
  | [d1, d2, d3, d4, d5] => { results := [.lit (.bool true)], args := [d1, d2, d3, d4, d5] }
  | _ => none }
def foilWalkRow : OpenClaim := { program := "ytaipmknajpbpkaa", sum := "5a8f09e7efd3f19fc37e6cef34042060cb4027e378d82e5427e359bdbf5fb0aa", func := "parry/parrylaw21.FoilWalk", spec := "foilWalk", unfollowed := true, recurses := true, plainKeys := false, apart := false }
def FoilWalkSaid : Prop := foilWalkRow.holds Try.pinned (OpenSpec.ofChange foilWalkSpec)

/-- ITS FALSE NEIGHBOUR: 'it returns false'. Refute it at one input. -/
def foilWalkWrong : ChangeSpec := { name := "foilWalk", fn := fun _ => fun
  | [d1, d2, d3, d4, d5] => { results := [.lit (.bool false)], args := [d1, d2, d3, d4, d5] }
  | _ => none }
def FoilWalkWrongFalsely : Prop := foilWalkRow.holds Try.pinned (OpenSpec.ofChange foilWalkWrong)

/-- 'parrylaw20.CounterSame': WHATEVER THE INPUT: true; the input reads as it did. -/
def counterSameSpec : ChangeSpec := { name := "counterSame", fn := fun _ => fun
  | [d1, d2, d3] => { results := [.lit (.bool true)], args := [d1, d2, d3] }
  | _ => none }
def counterSameRow : OpenClaim := { program := "ytaipmknajpbpkaa", sum := "5a8f09e7efd3f19fc37e6cef34042060cb4027e378d82e5427e359bdbf5fb0aa", func := "parry/parrylaw20.CounterSame", spec := "counterSame", unfollowed := true, recurses := true, plainKeys := false, apart := false }
def CounterSameSaid : Prop := counterSameRow.holds Try.pinned (OpenSpec.ofChange counterSameSpec)

/-- ITS FALSE NEIGHBOUR: 'it returns false'. Refute it at one input. -/
def counterSameWrong : ChangeSpec := { name := "counterSame", fn := fun _ => fun
  | [d1, d2, d3] => { results := [.lit (.bool false)], args := [d1, d2, d3] }
  | _ => none }
def CounterSameWrongFalsely : Prop := counterSameRow.holds Try.pinned (OpenSpec.ofChange counterSameWrong)

/- THE SECOND FORM. 'bulk': how many values and letters a reading holds, each counted each time it is reached (what is shared counts as often as it is met; a slice's spare places count too). A statement '..UptoSaid' is the law's where the arguments, and the package variables that the reading takes, are together of bulk at most 1048576: NARROWER than '..Said'. Prove '..Said' where nothing that the law and all that it calls make is longer than what came in: it says more and counts as full. Else prove '..UptoSaid'. A law counts once. -/
mutual
def uptoBulk {H : Type} : DataW H → Nat
  | .lit (.string bytes) => bytes.length + 1
  | .lit _ => 1
  | .nil => 1
  | .ptr d => uptoBulk d + 1
  | .slice elems spare => uptoBulkAll elems + uptoBulkAll spare + 1
  | .agg parts => uptoBulkAll parts + 1
  | .iface _ d => uptoBulk d + 1
  | .map entries => uptoBulkEntries entries + 1
  | .held _ => 1
def uptoBulkAll {H : Type} : List (DataW H) → Nat
  | [] => 0
  | d :: r => uptoBulk d + uptoBulkAll r
def uptoBulkEntries {H : Type} : List (Lit × DataW H) → Nat
  | [] => 0
  | x :: r => uptoBulkEntry x + uptoBulkEntries r
def uptoBulkEntry {H : Type} : Lit × DataW H → Nat
  | (.string bytes, d) => bytes.length + uptoBulk d + 1
  | (_, d) => uptoBulk d + 1
 end
def uptoSmall : (H : Type) → List (DataW H) → Bool := fun _ ds => decide (uptoBulkAll ds ≤ 1048576)
def OpenSpec.upto (s : _root_.Go.ChangeSpec) : _root_.Go.OpenSpec := { _root_.Go.OpenSpec.ofChange s with cond := some uptoSmall }

/-- 'parrylaw19.PlanRight', WHERE WHAT IT READS IS OF BULK AT MOST 1048576: true; the input reads as it did. -/
def planRightUptoRow : OpenClaim := { program := "ytaipmknajpbpkaa", sum := "5a8f09e7efd3f19fc37e6cef34042060cb4027e378d82e5427e359bdbf5fb0aa", func := "parry/parrylaw19.PlanRight", spec := "planRight", unfollowed := true, recurses := true, plainKeys := false, apart := false, narrowed := true }
def PlanRightUptoSaid : Prop := planRightUptoRow.holds Try.pinned (OpenSpec.upto planRightSpec)

/-- 'parrylaw19.PlanThens', WHERE WHAT IT READS IS OF BULK AT MOST 1048576: true; the input reads as it did. -/
def planThensUptoRow : OpenClaim := { program := "ytaipmknajpbpkaa", sum := "5a8f09e7efd3f19fc37e6cef34042060cb4027e378d82e5427e359bdbf5fb0aa", func := "parry/parrylaw19.PlanThens", spec := "planThens", unfollowed := true, recurses := true, plainKeys := false, apart := false, narrowed := true }
def PlanThensUptoSaid : Prop := planThensUptoRow.holds Try.pinned (OpenSpec.upto planThensSpec)

/-- 'parrylaw19.PlanAll', WHERE WHAT IT READS IS OF BULK AT MOST 1048576: true; the input reads as it did. -/
def planAllUptoRow : OpenClaim := { program := "ytaipmknajpbpkaa", sum := "5a8f09e7efd3f19fc37e6cef34042060cb4027e378d82e5427e359bdbf5fb0aa", func := "parry/parrylaw19.PlanAll", spec := "planAll", unfollowed := true, recurses := true, plainKeys := false, apart := false, narrowed := true }
def PlanAllUptoSaid : Prop := planAllUptoRow.holds Try.pinned (OpenSpec.upto planAllSpec)

/-- 'parrylaw19.PlanWalk', WHERE WHAT IT READS IS OF BULK AT MOST 1048576: true; the input reads as it did. -/
def planWalkUptoRow : OpenClaim := { program := "ytaipmknajpbpkaa", sum := "5a8f09e7efd3f19fc37e6cef34042060cb4027e378d82e5427e359bdbf5fb0aa", func := "parry/parrylaw19.PlanWalk", spec := "planWalk", unfollowed := true, recurses := true, plainKeys := false, apart := false, narrowed := true }
def PlanWalkUptoSaid : Prop := planWalkUptoRow.holds Try.pinned (OpenSpec.upto planWalkSpec)

/-- 'parrylaw21.FoilRight', WHERE WHAT IT READS IS OF BULK AT MOST 1048576: true; the input reads as it did. -/
def foilRightUptoRow : OpenClaim := { program := "ytaipmknajpbpkaa", sum := "5a8f09e7efd3f19fc37e6cef34042060cb4027e378d82e5427e359bdbf5fb0aa", func := "parry/parrylaw21.FoilRight", spec := "foilRight", unfollowed := true, recurses := true, plainKeys := false, apart := false, narrowed := true }
def FoilRightUptoSaid : Prop := foilRightUptoRow.holds Try.pinned (OpenSpec.upto foilRightSpec)

/-- 'parrylaw21.FoilThens', WHERE WHAT IT READS IS OF BULK AT MOST 1048576: true; the input reads as it did. -/
def foilThensUptoRow : OpenClaim := { program := "ytaipmknajpbpkaa", sum := "5a8f09e7efd3f19fc37e6cef34042060cb4027e378d82e5427e359bdbf5fb0aa", func := "parry/parrylaw21.FoilThens", spec := "foilThens", unfollowed := true, recurses := true, plainKeys := false, apart := false, narrowed := true }
def FoilThensUptoSaid : Prop := foilThensUptoRow.holds Try.pinned (OpenSpec.upto foilThensSpec)

/-- 'parrylaw21.FoilAll', WHERE WHAT IT READS IS OF BULK AT MOST 1048576: true; the input reads as it did. -/
def foilAllUptoRow : OpenClaim := { program := "ytaipmknajpbpkaa", sum := "5a8f09e7efd3f19fc37e6cef34042060cb4027e378d82e5427e359bdbf5fb0aa", func := "parry/parrylaw21.FoilAll", spec := "foilAll", unfollowed := true, recurses := true, plainKeys := false, apart := false, narrowed := true }
def FoilAllUptoSaid : Prop := foilAllUptoRow.holds Try.pinned (OpenSpec.upto foilAllSpec)

/-- 'parrylaw21.FoilWalk', WHERE WHAT IT READS IS OF BULK AT MOST 1048576: true; the input reads as it did. -/
def foilWalkUptoRow : OpenClaim := { program := "ytaipmknajpbpkaa", sum := "5a8f09e7efd3f19fc37e6cef34042060cb4027e378d82e5427e359bdbf5fb0aa", func := "parry/parrylaw21.FoilWalk", spec := "foilWalk", unfollowed := true, recurses := true, plainKeys := false, apart := false, narrowed := true }
def FoilWalkUptoSaid : Prop := foilWalkUptoRow.holds Try.pinned (OpenSpec.upto foilWalkSpec)

/-- 'parrylaw20.CounterSame', WHERE WHAT IT READS IS OF BULK AT MOST 1048576: true; the input reads as it did. -/
def counterSameUptoRow : OpenClaim := { program := "ytaipmknajpbpkaa", sum := "5a8f09e7efd3f19fc37e6cef34042060cb4027e378d82e5427e359bdbf5fb0aa", func := "parry/parrylaw20.CounterSame", spec := "counterSame", unfollowed := true, recurses := true, plainKeys := false, apart := false, narrowed := true }
def CounterSameUptoSaid : Prop := counterSameUptoRow.holds Try.pinned (OpenSpec.upto counterSameSpec)

end Rows
end Go.Proofs.Ytaipmknajpbpkaa
