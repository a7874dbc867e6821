/-
  No cell of these rows narrows 'for every input' (looked for: loops, veiled, ifaces, maps, wideKeys, modest, calm, conditions, laid).
  DERIVED. THE GIVEN ROWS OF THIS SEAT. 10 by the template 'for every input the law returns true; each argument reads behind the call as it read before'; 0 by the template 'total and deterministic' (their statements: YtlpfokngocdanaaTotals.lean).
  GIVEN WITH THE SEED: the statements are not yours to turn. If you find one false, say at which input.
  Laid BY PROGRAM, IN A SANDBOX (cutbox-rows.mjs): the forced cells as the released guide's own fill.sh prints them over the translation d62789110072971b… (all of the seat's roots in one cut). By AI agents, Wed Nov 11 2026. No macro, syntax, notation, axiom, sorry.
-/
import Derived.Test.YtlpfokngocdanaaChecked
import GoSem.Claim
import GoSem.ClaimJoined
import GoSem.ClaimMapViews
import Derived.JoinedTies
import Derived.KernelRfl
namespace Go.Proofs.Ytlpfokngocdanaa
/- THE CELL 'sum', in the pinned program and in every row, IS THE sha256 OF THE DUMP (.gsa) THAT YtlpfokngocdanaaProg.lean LOADS. Nothing in Lean hashes anything: it is a label: what it is worth is what the hold of that sum in a sandbox is worth. -/
noncomputable def Try.pinned : Pinned := { name := "ytlpfokngocdanaa", sum := "d62789110072971b300f39fba12745a7f7ea330037fb9ab148b26af7447fb3d8", checked := Try.checked }
namespace Rows
def none {H : Type} : Left H := { results := [], args := [] }

/-- 'parrylaw12.AttractWalk': WHATEVER THE INPUT: true; the input reads as it did. -/
def attractWalkSpec : ChangeSpec := { name := "attractWalk", fn := fun _ => fun
  | [d1, d2, d3, d4, d5] => { results := [.lit (.bool true)], args := [d1, d2, d3, d4, d5] }
  | _ => none }
def attractWalkRow : OpenClaim := { program := "ytlpfokngocdanaa", sum := "d62789110072971b300f39fba12745a7f7ea330037fb9ab148b26af7447fb3d8", func := "parry/parrylaw12.AttractWalk", spec := "attractWalk", unfollowed := true, recurses := true, apart := false }
def AttractWalkSaid : Prop := attractWalkRow.holds Try.pinned (OpenSpec.ofChange attractWalkSpec)

/-- ITS FALSE NEIGHBOUR: 'it returns false'. Refute it at one input. -/
def attractWalkWrong : ChangeSpec := { name := "attractWalk", fn := fun _ => fun
  | [d1, d2, d3, d4, d5] => { results := [.lit (.bool false)], args := [d1, d2, d3, d4, d5] }
  | _ => none }
def AttractWalkWrongFalsely : Prop := attractWalkRow.holds Try.pinned (OpenSpec.ofChange attractWalkWrong)

/-- 'parrylaw12.AttractGrows': WHATEVER THE INPUT: true; the input reads as it did. -/
def attractGrowsSpec : ChangeSpec := { name := "attractGrows", fn := fun _ => fun
  | [d1, d2, d3, d4] => { results := [.lit (.bool true)], args := [d1, d2, d3, d4] }
  | _ => none }
def attractGrowsRow : OpenClaim := { program := "ytlpfokngocdanaa", sum := "d62789110072971b300f39fba12745a7f7ea330037fb9ab148b26af7447fb3d8", func := "parry/parrylaw12.AttractGrows", spec := "attractGrows", unfollowed := true, recurses := true, apart := false }
def AttractGrowsSaid : Prop := attractGrowsRow.holds Try.pinned (OpenSpec.ofChange attractGrowsSpec)

/-- ITS FALSE NEIGHBOUR: 'it returns false'. Refute it at one input. -/
def attractGrowsWrong : ChangeSpec := { name := "attractGrows", fn := fun _ => fun
  | [d1, d2, d3, d4] => { results := [.lit (.bool false)], args := [d1, d2, d3, d4] }
  | _ => none }
def AttractGrowsWrongFalsely : Prop := attractGrowsRow.holds Try.pinned (OpenSpec.ofChange attractGrowsWrong)

/-- 'parrylaw12.AttractForms': WHATEVER THE INPUT: true; the input reads as it did. -/
def attractFormsSpec : ChangeSpec := { name := "attractForms", fn := fun _ => fun
  | [d1, d2, d3] => { results := [.lit (.bool true)], args := [d1, d2, d3] }
  | _ => none }
def attractFormsRow : OpenClaim := { program := "ytlpfokngocdanaa", sum := "d62789110072971b300f39fba12745a7f7ea330037fb9ab148b26af7447fb3d8", func := "parry/parrylaw12.AttractForms", spec := "attractForms", unfollowed := true, recurses := true, apart := false }
def AttractFormsSaid : Prop := attractFormsRow.holds Try.pinned (OpenSpec.ofChange attractFormsSpec)

/-- ITS FALSE NEIGHBOUR: 'it returns false'. Refute it at one input. -/
def attractFormsWrong : ChangeSpec := { name := "attractForms", fn := fun _ => fun
  | [d1, d2, d3] => { results := [.lit (.bool false)], args := [d1, d2, d3] }
  | _ => none }
def AttractFormsWrongFalsely : Prop := attractFormsRow.holds Try.pinned (OpenSpec.ofChange attractFormsWrong)

/-- 'parrylaw12.AttractEnds': WHATEVER THE INPUT: true; the input reads as it did. -/
def attractEndsSpec : ChangeSpec := { name := "attractEnds", fn := fun _ => fun
  | [d1, d2] => { results := [.lit (.bool true)], args := [d1, d2] }
  | _ => none }
def attractEndsRow : OpenClaim := { program := "ytlpfokngocdanaa", sum := "d62789110072971b300f39fba12745a7f7ea330037fb9ab148b26af7447fb3d8", func := "parry/parrylaw12.AttractEnds", spec := "attractEnds", unfollowed := true, recurses := true, apart := false }
def AttractEndsSaid : Prop := attractEndsRow.holds Try.pinned (OpenSpec.ofChange attractEndsSpec)

/-- ITS FALSE NEIGHBOUR: 'it returns false'. Refute it at one input. -/
def attractEndsWrong : ChangeSpec := { name := "attractEnds", fn := fun _ => fun
  | [d1, d2] => { results := [.lit (.bool false)], args := [d1, d2] }
  | _ => none }
def AttractEndsWrongFalsely : Prop := attractEndsRow.holds Try.pinned (OpenSpec.ofChange attractEndsWrong)

/-- 'parrylaw12.AttractComes': WHATEVER THE INPUT: true; the input reads as it did. -/
def attractComesSpec : ChangeSpec := { name := "attractComes", fn := fun _ => fun
  | [d1, d2, d3] => { results := [.lit (.bool true)], args := [d1, d2, d3] }
  | _ => none }
def attractComesRow : OpenClaim := { program := "ytlpfokngocdanaa", sum := "d62789110072971b300f39fba12745a7f7ea330037fb9ab148b26af7447fb3d8", func := "parry/parrylaw12.AttractComes", spec := "attractComes", unfollowed := true, recurses := true, apart := false }
def AttractComesSaid : Prop := attractComesRow.holds Try.pinned (OpenSpec.ofChange attractComesSpec)

/-- ITS FALSE NEIGHBOUR: 'it returns false'. Refute it at one input. -/
def attractComesWrong : ChangeSpec := { name := "attractComes", fn := fun _ => fun
  | [d1, d2, d3] => { results := [.lit (.bool false)], args := [d1, d2, d3] }
  | _ => none }
def AttractComesWrongFalsely : Prop := attractComesRow.holds Try.pinned (OpenSpec.ofChange attractComesWrong)

/-- 'parrylaw12.AttractLayers': WHATEVER THE INPUT: true; the input reads as it did. -/
def attractLayersSpec : ChangeSpec := { name := "attractLayers", fn := fun _ => fun
  | [d1, d2, d3, d4] => { results := [.lit (.bool true)], args := [d1, d2, d3, d4] }
  | _ => none }
def attractLayersRow : OpenClaim := { program := "ytlpfokngocdanaa", sum := "d62789110072971b300f39fba12745a7f7ea330037fb9ab148b26af7447fb3d8", func := "parry/parrylaw12.AttractLayers", spec := "attractLayers", unfollowed := true, recurses := true, apart := false }
def AttractLayersSaid : Prop := attractLayersRow.holds Try.pinned (OpenSpec.ofChange attractLayersSpec)

/-- ITS FALSE NEIGHBOUR: 'it returns false'. Refute it at one input. -/
def attractLayersWrong : ChangeSpec := { name := "attractLayers", fn := fun _ => fun
  | [d1, d2, d3, d4] => { results := [.lit (.bool false)], args := [d1, d2, d3, d4] }
  | _ => none }
def AttractLayersWrongFalsely : Prop := attractLayersRow.holds Try.pinned (OpenSpec.ofChange attractLayersWrong)

/-- 'parrylaw12.AttractKeeps': WHATEVER THE INPUT: true; the input reads as it did. -/
def attractKeepsSpec : ChangeSpec := { name := "attractKeeps", fn := fun _ => fun
  | [d1, d2, d3] => { results := [.lit (.bool true)], args := [d1, d2, d3] }
  | _ => none }
def attractKeepsRow : OpenClaim := { program := "ytlpfokngocdanaa", sum := "d62789110072971b300f39fba12745a7f7ea330037fb9ab148b26af7447fb3d8", func := "parry/parrylaw12.AttractKeeps", spec := "attractKeeps", unfollowed := true, recurses := true, apart := false }
def AttractKeepsSaid : Prop := attractKeepsRow.holds Try.pinned (OpenSpec.ofChange attractKeepsSpec)

/-- ITS FALSE NEIGHBOUR: 'it returns false'. Refute it at one input. -/
def attractKeepsWrong : ChangeSpec := { name := "attractKeeps", fn := fun _ => fun
  | [d1, d2, d3] => { results := [.lit (.bool false)], args := [d1, d2, d3] }
  | _ => none }
def AttractKeepsWrongFalsely : Prop := attractKeepsRow.holds Try.pinned (OpenSpec.ofChange attractKeepsWrong)

/-- 'parrylaw13.SafeEither': WHATEVER THE INPUT: true; the input reads as it did. -/
def safeEitherSpec : ChangeSpec := { name := "safeEither", fn := fun _ => fun
  | [d1, d2, d3] => { results := [.lit (.bool true)], args := [d1, d2, d3] }
  | _ => none }
def safeEitherRow : OpenClaim := { program := "ytlpfokngocdanaa", sum := "d62789110072971b300f39fba12745a7f7ea330037fb9ab148b26af7447fb3d8", func := "parry/parrylaw13.SafeEither", spec := "safeEither", unfollowed := true, recurses := true, apart := false }
def SafeEitherSaid : Prop := safeEitherRow.holds Try.pinned (OpenSpec.ofChange safeEitherSpec)

/-- ITS FALSE NEIGHBOUR: 'it returns false'. Refute it at one input. -/
def safeEitherWrong : ChangeSpec := { name := "safeEither", fn := fun _ => fun
  | [d1, d2, d3] => { results := [.lit (.bool false)], args := [d1, d2, d3] }
  | _ => none }
def SafeEitherWrongFalsely : Prop := safeEitherRow.holds Try.pinned (OpenSpec.ofChange safeEitherWrong)

/-- 'parrylaw13.SafeMore': WHATEVER THE INPUT: true; the input reads as it did. -/
def safeMoreSpec : ChangeSpec := { name := "safeMore", fn := fun _ => fun
  | [d1, d2, d3, d4] => { results := [.lit (.bool true)], args := [d1, d2, d3, d4] }
  | _ => none }
def safeMoreRow : OpenClaim := { program := "ytlpfokngocdanaa", sum := "d62789110072971b300f39fba12745a7f7ea330037fb9ab148b26af7447fb3d8", func := "parry/parrylaw13.SafeMore", spec := "safeMore", unfollowed := true, recurses := true, apart := false }
def SafeMoreSaid : Prop := safeMoreRow.holds Try.pinned (OpenSpec.ofChange safeMoreSpec)

/-- ITS FALSE NEIGHBOUR: 'it returns false'. Refute it at one input. -/
def safeMoreWrong : ChangeSpec := { name := "safeMore", fn := fun _ => fun
  | [d1, d2, d3, d4] => { results := [.lit (.bool false)], args := [d1, d2, d3, d4] }
  | _ => none }
def SafeMoreWrongFalsely : Prop := safeMoreRow.holds Try.pinned (OpenSpec.ofChange safeMoreWrong)

/-- 'parrylaw13.SafeStays': WHATEVER THE INPUT: true; the input reads as it did. -/
def safeStaysSpec : ChangeSpec := { name := "safeStays", fn := fun _ => fun
  | [d1, d2, d3] => { results := [.lit (.bool true)], args := [d1, d2, d3] }
  | _ => none }
def safeStaysRow : OpenClaim := { program := "ytlpfokngocdanaa", sum := "d62789110072971b300f39fba12745a7f7ea330037fb9ab148b26af7447fb3d8", func := "parry/parrylaw13.SafeStays", spec := "safeStays", unfollowed := true, recurses := true, apart := false }
def SafeStaysSaid : Prop := safeStaysRow.holds Try.pinned (OpenSpec.ofChange safeStaysSpec)

/-- ITS FALSE NEIGHBOUR: 'it returns false'. Refute it at one input. -/
def safeStaysWrong : ChangeSpec := { name := "safeStays", fn := fun _ => fun
  | [d1, d2, d3] => { results := [.lit (.bool false)], args := [d1, d2, d3] }
  | _ => none }
def SafeStaysWrongFalsely : Prop := safeStaysRow.holds Try.pinned (OpenSpec.ofChange safeStaysWrong)

/- THE SECOND FORM. 'bulk': how many values and letters a reading holds, each counted each time it is reached (what is shared counts as often as it is met; a slice's spare places count too). A statement '..UptoSaid' is the law's where the arguments, and the package variables that the reading takes, are together of bulk at most 1048576: NARROWER than '..Said'. Prove '..Said' where nothing that the law and all that it calls make is longer than what came in: it says more and counts as full. Else prove '..UptoSaid'. A law counts once. -/
mutual
def uptoBulk {H : Type} : DataW H → Nat
  | .lit (.string bytes) => bytes.length + 1
  | .lit _ => 1
  | .nil => 1
  | .ptr d => uptoBulk d + 1
  | .slice elems spare => uptoBulkAll elems + uptoBulkAll spare + 1
  | .agg parts => uptoBulkAll parts + 1
  | .iface _ d => uptoBulk d + 1
  | .map entries => uptoBulkEntries entries + 1
  | .held _ => 1
def uptoBulkAll {H : Type} : List (DataW H) → Nat
  | [] => 0
  | d :: r => uptoBulk d + uptoBulkAll r
def uptoBulkEntries {H : Type} : List (Lit × DataW H) → Nat
  | [] => 0
  | x :: r => uptoBulkEntry x + uptoBulkEntries r
def uptoBulkEntry {H : Type} : Lit × DataW H → Nat
  | (.string bytes, d) => bytes.length + uptoBulk d + 1
  | (_, d) => uptoBulk d + 1
 end
def uptoSmall : (H : Type) → List (DataW H) → Bool := fun _ ds => decide (uptoBulkAll ds ≤ 1048576)
def OpenSpec.upto (s : _root_.Go.ChangeSpec) : _root_.Go.OpenSpec := { _root_.Go.OpenSpec.ofChange s with cond := some uptoSmall }

/-- 'parrylaw12.AttractWalk', WHERE WHAT IT READS IS OF BULK AT MOST 1048576: true; the input reads as it did. -/
def attractWalkUptoRow : OpenClaim := { program := "ytlpfokngocdanaa", sum := "d62789110072971b300f39fba12745a7f7ea330037fb9ab148b26af7447fb3d8", func := "parry/parrylaw12.AttractWalk", spec := "attractWalk", unfollowed := true, recurses := true, apart := false, narrowed := true }
def AttractWalkUptoSaid : Prop := attractWalkUptoRow.holds Try.pinned (OpenSpec.upto attractWalkSpec)

/-- 'parrylaw12.AttractGrows', WHERE WHAT IT READS IS OF BULK AT MOST 1048576: true; the input reads as it did. -/
def attractGrowsUptoRow : OpenClaim := { program := "ytlpfokngocdanaa", sum := "d62789110072971b300f39fba12745a7f7ea330037fb9ab148b26af7447fb3d8", func := "parry/parrylaw12.AttractGrows", spec := "attractGrows", unfollowed := true, recurses := true, apart := false, narrowed := true }
def AttractGrowsUptoSaid : Prop := attractGrowsUptoRow.holds Try.pinned (OpenSpec.upto attractGrowsSpec)

/-- 'parrylaw12.AttractForms', WHERE WHAT IT READS IS OF BULK AT MOST 1048576: true; the input reads as it did. -/
def attractFormsUptoRow : OpenClaim := { program := "ytlpfokngocdanaa", sum := "d62789110072971b300f39fba12745a7f7ea330037fb9ab148b26af7447fb3d8", func := "parry/parrylaw12.AttractForms", spec := "attractForms", unfollowed := true, recurses := true, apart := false, narrowed := true }
def AttractFormsUptoSaid : Prop := attractFormsUptoRow.holds Try.pinned (OpenSpec.upto attractFormsSpec)

/-- 'parrylaw12.AttractEnds', WHERE WHAT IT READS IS OF BULK AT MOST 1048576: true; the input reads as it did. -/
def attractEndsUptoRow : OpenClaim := { program := "ytlpfokngocdanaa", sum := "d62789110072971b300f39fba12745a7f7ea330037fb9ab148b26af7447fb3d8", func := "parry/parrylaw12.AttractEnds", spec := "attractEnds", unfollowed := true, recurses := true, apart := false, narrowed := true }
def AttractEndsUptoSaid : Prop := attractEndsUptoRow.holds Try.pinned (OpenSpec.upto attractEndsSpec)

/-- 'parrylaw12.AttractComes', WHERE WHAT IT READS IS OF BULK AT MOST 1048576: true; the input reads as it did. -/
def attractComesUptoRow : OpenClaim := { program := "ytlpfokngocdanaa", sum := "d62789110072971b300f39fba12745a7f7ea330037fb9ab148b26af7447fb3d8", func := "parry/parrylaw12.AttractComes", spec := "attractComes", unfollowed := true, recurses := true, apart := false, narrowed := true }
def AttractComesUptoSaid : Prop := attractComesUptoRow.holds Try.pinned (OpenSpec.upto attractComesSpec)

/-- 'parrylaw12.AttractLayers', WHERE WHAT IT READS IS OF BULK AT MOST 1048576: true; the input reads as it did. -/
def attractLayersUptoRow : OpenClaim := { program := "ytlpfokngocdanaa", sum := "d62789110072971b300f39fba12745a7f7ea330037fb9ab148b26af7447fb3d8", func := "parry/parrylaw12.AttractLayers", spec := "attractLayers", unfollowed := true, recurses := true, apart := false, narrowed := true }
def AttractLayersUptoSaid : Prop := attractLayersUptoRow.holds Try.pinned (OpenSpec.upto attractLayersSpec)

/-- 'parrylaw12.AttractKeeps', WHERE WHAT IT READS IS OF BULK AT MOST 1048576: true; the input reads as it did. -/
def attractKeepsUptoRow : OpenClaim := { program := "ytlpfokngocdanaa", sum := "d62789110072971b300f39fba12745a7f7ea330037fb9ab148b26af7447fb3d8", func := "parry/parrylaw12.AttractKeeps", spec := "attractKeeps", unfollowed := true, recurses := true, apart := false, narrowed := true }
def AttractKeepsUptoSaid : Prop := attractKeepsUptoRow.holds Try.pinned (OpenSpec.upto attractKeepsSpec)

/-- 'parrylaw13.SafeEither', WHERE WHAT IT READS IS OF BULK AT MOST 1048576: true; the input reads as it did. -/
def safeEitherUptoRow : OpenClaim := { program := "ytlpfokngocdanaa", sum := "d62789110072971b300f39fba12745a7f7ea330037fb9ab148b26af7447fb3d8", func := "parry/parrylaw13.SafeEither", spec := "safeEither", unfollowed := true, recurses := true, apart := false, narrowed := true }
def SafeEitherUptoSaid : Prop := safeEitherUptoRow.holds Try.pinned (OpenSpec.upto safeEitherSpec)

/-- 'parrylaw13.SafeMore', WHERE WHAT IT READS IS OF BULK AT MOST 1048576: true; the input reads as it did. -/
def safeMoreUptoRow : OpenClaim := { program := "ytlpfokngocdanaa", sum := "d62789110072971b300f39fba12745a7f7ea330037fb9ab148b26af7447fb3d8", func := "parry/parrylaw13.SafeMore", spec := "safeMore", unfollowed := true, recurses := true, apart := false, narrowed := true }
def SafeMoreUptoSaid : Prop := safeMoreUptoRow.holds Try.pinned (OpenSpec.upto safeMoreSpec)

/-- 'parrylaw13.SafeStays', WHERE WHAT IT READS IS OF BULK AT MOST 1048576: true; the input reads as it did. -/
def safeStaysUptoRow : OpenClaim := { program := "ytlpfokngocdanaa", sum := "d62789110072971b300f39fba12745a7f7ea330037fb9ab148b26af7447fb3d8", func := "parry/parrylaw13.SafeStays", spec := "safeStays", unfollowed := true, recurses := true, apart := false, narrowed := true }
def SafeStaysUptoSaid : Prop := safeStaysUptoRow.holds Try.pinned (OpenSpec.upto safeStaysSpec)

end Rows
end Go.Proofs.Ytlpfokngocdanaa
