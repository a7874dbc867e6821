/-
  No cell of these rows narrows 'for every input' (looked for: loops, veiled, ifaces, maps, wideKeys, modest, calm, conditions, laid).
  DERIVED. THE GIVEN ROWS OF THIS SEAT. 7 by the template 'for every input the law returns true; each argument reads behind the call as it read before'; 0 by the template 'total and deterministic' (their statements: YtigipgahgkngcaaTotals.lean).
  GIVEN WITH THE SEED: the statements are not yours to turn. If you find one false, say at which input.
  Laid BY PROGRAM, IN A SANDBOX (cutbox-rows.mjs): the forced cells as the released guide's own fill.sh prints them over the translation fe892993fc70defc… (all of the seat's roots in one cut). By AI agents, Wed Nov 11 2026. No macro, syntax, notation, axiom, sorry.
-/
import Derived.Test.YtigipgahgkngcaaChecked
import GoSem.Claim
import GoSem.ClaimJoined
import GoSem.ClaimMapViews
import Derived.JoinedTies
import Derived.KernelRfl
namespace Go.Proofs.Ytigipgahgkngcaa
/- THE CELL 'sum', in the pinned program and in every row, IS THE sha256 OF THE DUMP (.gsa) THAT YtigipgahgkngcaaProg.lean LOADS. Nothing in Lean hashes anything: it is a label: what it is worth is what the hold of that sum in a sandbox is worth. -/
noncomputable def Try.pinned : Pinned := { name := "ytigipgahgkngcaa", sum := "fe892993fc70defcd13839b1ebc588598710b122b482bd7d439462525ee2e1ff", checked := Try.checked }
namespace Rows
def none {H : Type} : Left H := { results := [], args := [] }

/-- 'parrylaw17.ProofRows': WHATEVER THE INPUT: true; the input reads as it did. -/
def proofRowsSpec : ChangeSpec := { name := "proofRows", fn := fun _ => fun
  | [d1, d2, d3, d4] => { results := [.lit (.bool true)], args := [d1, d2, d3, d4] }
  | _ => none }
def proofRowsRow : OpenClaim := { program := "ytigipgahgkngcaa", sum := "fe892993fc70defcd13839b1ebc588598710b122b482bd7d439462525ee2e1ff", func := "parry/parrylaw17.ProofRows", spec := "proofRows", unfollowed := true, recurses := true, apart := false }
def ProofRowsSaid : Prop := proofRowsRow.holds Try.pinned (OpenSpec.ofChange proofRowsSpec)

/-- ITS FALSE NEIGHBOUR: 'it returns false'. Refute it at one input. -/
def proofRowsWrong : ChangeSpec := { name := "proofRows", fn := fun _ => fun
  | [d1, d2, d3, d4] => { results := [.lit (.bool false)], args := [d1, d2, d3, d4] }
  | _ => none }
def ProofRowsWrongFalsely : Prop := proofRowsRow.holds Try.pinned (OpenSpec.ofChange proofRowsWrong)

/-- 'parrylaw17.ProofRound': WHATEVER THE INPUT: true; the input reads as it did. -/
def proofRoundSpec : ChangeSpec := { name := "proofRound", fn := fun _ => fun
  | [d1, d2, d3, d4] => { results := [.lit (.bool true)], args := [d1, d2, d3, d4] }
  | _ => none }
def proofRoundRow : OpenClaim := { program := "ytigipgahgkngcaa", sum := "fe892993fc70defcd13839b1ebc588598710b122b482bd7d439462525ee2e1ff", func := "parry/parrylaw17.ProofRound", spec := "proofRound", unfollowed := true, recurses := true, apart := false }
def ProofRoundSaid : Prop := proofRoundRow.holds Try.pinned (OpenSpec.ofChange proofRoundSpec)

/-- ITS FALSE NEIGHBOUR: 'it returns false'. Refute it at one input. -/
def proofRoundWrong : ChangeSpec := { name := "proofRound", fn := fun _ => fun
  | [d1, d2, d3, d4] => { results := [.lit (.bool false)], args := [d1, d2, d3, d4] }
  | _ => none }
def ProofRoundWrongFalsely : Prop := proofRoundRow.holds Try.pinned (OpenSpec.ofChange proofRoundWrong)

/-- 'parrylaw17.ProofLess': WHATEVER THE INPUT: true; the input reads as it did. -/
def proofLessSpec : ChangeSpec := { name := "proofLess", fn := fun _ => fun
  | [d1, d2, d3, d4, d5, d6] => { results := [.lit (.bool true)], args := [d1, d2, d3, d4, d5, d6] }
  | _ => none }
def proofLessRow : OpenClaim := { program := "ytigipgahgkngcaa", sum := "fe892993fc70defcd13839b1ebc588598710b122b482bd7d439462525ee2e1ff", func := "parry/parrylaw17.ProofLess", spec := "proofLess", unfollowed := true, recurses := true, apart := false }
def ProofLessSaid : Prop := proofLessRow.holds Try.pinned (OpenSpec.ofChange proofLessSpec)

/-- ITS FALSE NEIGHBOUR: 'it returns false'. Refute it at one input. -/
def proofLessWrong : ChangeSpec := { name := "proofLess", fn := fun _ => fun
  | [d1, d2, d3, d4, d5, d6] => { results := [.lit (.bool false)], args := [d1, d2, d3, d4, d5, d6] }
  | _ => none }
def ProofLessWrongFalsely : Prop := proofLessRow.holds Try.pinned (OpenSpec.ofChange proofLessWrong)

/-- 'parrylaw17.ProofApart': WHATEVER THE INPUT: true; the input reads as it did. -/
def proofApartSpec : ChangeSpec := { name := "proofApart", fn := fun _ => fun
  | [d1, d2, d3, d4, d5, d6] => { results := [.lit (.bool true)], args := [d1, d2, d3, d4, d5, d6] }
  | _ => none }
def proofApartRow : OpenClaim := { program := "ytigipgahgkngcaa", sum := "fe892993fc70defcd13839b1ebc588598710b122b482bd7d439462525ee2e1ff", func := "parry/parrylaw17.ProofApart", spec := "proofApart", unfollowed := true, recurses := true, apart := false }
def ProofApartSaid : Prop := proofApartRow.holds Try.pinned (OpenSpec.ofChange proofApartSpec)

/-- ITS FALSE NEIGHBOUR: 'it returns false'. Refute it at one input. -/
def proofApartWrong : ChangeSpec := { name := "proofApart", fn := fun _ => fun
  | [d1, d2, d3, d4, d5, d6] => { results := [.lit (.bool false)], args := [d1, d2, d3, d4, d5, d6] }
  | _ => none }
def ProofApartWrongFalsely : Prop := proofApartRow.holds Try.pinned (OpenSpec.ofChange proofApartWrong)

/-- 'parrylaw17.ProofFair': WHATEVER THE INPUT: true; the input reads as it did. -/
def proofFairSpec : ChangeSpec := { name := "proofFair", fn := fun _ => fun
  | [d1, d2, d3, d4] => { results := [.lit (.bool true)], args := [d1, d2, d3, d4] }
  | _ => none }
def proofFairRow : OpenClaim := { program := "ytigipgahgkngcaa", sum := "fe892993fc70defcd13839b1ebc588598710b122b482bd7d439462525ee2e1ff", func := "parry/parrylaw17.ProofFair", spec := "proofFair", unfollowed := true, recurses := true, apart := false }
def ProofFairSaid : Prop := proofFairRow.holds Try.pinned (OpenSpec.ofChange proofFairSpec)

/-- ITS FALSE NEIGHBOUR: 'it returns false'. Refute it at one input. -/
def proofFairWrong : ChangeSpec := { name := "proofFair", fn := fun _ => fun
  | [d1, d2, d3, d4] => { results := [.lit (.bool false)], args := [d1, d2, d3, d4] }
  | _ => none }
def ProofFairWrongFalsely : Prop := proofFairRow.holds Try.pinned (OpenSpec.ofChange proofFairWrong)

/-- 'parrylaw17.ProofForms': WHATEVER THE INPUT: true; the input reads as it did. -/
def proofFormsSpec : ChangeSpec := { name := "proofForms", fn := fun _ => fun
  | [d1, d2, d3, d4, d5, d6] => { results := [.lit (.bool true)], args := [d1, d2, d3, d4, d5, d6] }
  | _ => none }
def proofFormsRow : OpenClaim := { program := "ytigipgahgkngcaa", sum := "fe892993fc70defcd13839b1ebc588598710b122b482bd7d439462525ee2e1ff", func := "parry/parrylaw17.ProofForms", spec := "proofForms", unfollowed := true, recurses := true, apart := false }
def ProofFormsSaid : Prop := proofFormsRow.holds Try.pinned (OpenSpec.ofChange proofFormsSpec)

/-- ITS FALSE NEIGHBOUR: 'it returns false'. Refute it at one input. -/
def proofFormsWrong : ChangeSpec := { name := "proofForms", fn := fun _ => fun
  | [d1, d2, d3, d4, d5, d6] => { results := [.lit (.bool false)], args := [d1, d2, d3, d4, d5, d6] }
  | _ => none }
def ProofFormsWrongFalsely : Prop := proofFormsRow.holds Try.pinned (OpenSpec.ofChange proofFormsWrong)

/-- 'parrylaw17.ProofBoth': WHATEVER THE INPUT: true; the input reads as it did. -/
def proofBothSpec : ChangeSpec := { name := "proofBoth", fn := fun _ => fun
  | [d1, d2, d3, d4, d5] => { results := [.lit (.bool true)], args := [d1, d2, d3, d4, d5] }
  | _ => none }
def proofBothRow : OpenClaim := { program := "ytigipgahgkngcaa", sum := "fe892993fc70defcd13839b1ebc588598710b122b482bd7d439462525ee2e1ff", func := "parry/parrylaw17.ProofBoth", spec := "proofBoth", unfollowed := true, recurses := true, apart := false }
def ProofBothSaid : Prop := proofBothRow.holds Try.pinned (OpenSpec.ofChange proofBothSpec)

/-- ITS FALSE NEIGHBOUR: 'it returns false'. Refute it at one input. -/
def proofBothWrong : ChangeSpec := { name := "proofBoth", fn := fun _ => fun
  | [d1, d2, d3, d4, d5] => { results := [.lit (.bool false)], args := [d1, d2, d3, d4, d5] }
  | _ => none }
def ProofBothWrongFalsely : Prop := proofBothRow.holds Try.pinned (OpenSpec.ofChange proofBothWrong)

/- THE SECOND FORM. 'bulk': how many values and letters a reading holds, each counted each time it is reached (what is shared counts as often as it is met; a slice's spare places count too). A statement '..UptoSaid' is the law's where the arguments, and the package variables that the reading takes, are together of bulk at most 1048576: NARROWER than '..Said'. Prove '..Said' where nothing that the law and all that it calls make is longer than what came in: it says more and counts as full. Else prove '..UptoSaid'. A law counts once. -/
mutual
def uptoBulk {H : Type} : DataW H → Nat
  | .lit (.string bytes) => bytes.length + 1
  | .lit _ => 1
  | .nil => 1
  | .ptr d => uptoBulk d + 1
  | .slice elems spare => uptoBulkAll elems + uptoBulkAll spare + 1
  | .agg parts => uptoBulkAll parts + 1
  | .iface _ d => uptoBulk d + 1
  | .map entries => uptoBulkEntries entries + 1
  | .held _ => 1
def uptoBulkAll {H : Type} : List (DataW H) → Nat
  | [] => 0
  | d :: r => uptoBulk d + uptoBulkAll r
def uptoBulkEntries {H : Type} : List (Lit × DataW H) → Nat
  | [] => 0
  | x :: r => uptoBulkEntry x + uptoBulkEntries r
def uptoBulkEntry {H : Type} : Lit × DataW H → Nat
  | (.string bytes, d) => bytes.length + uptoBulk d + 1
  | (_, d) => uptoBulk d + 1
 end
def uptoSmall : (H : Type) → List (DataW H) → Bool := fun _ ds => decide (uptoBulkAll ds ≤ 1048576)
def OpenSpec.upto (s : _root_.Go.ChangeSpec) : _root_.Go.OpenSpec := { _root_.Go.OpenSpec.ofChange s with cond := some uptoSmall }

/-- 'parrylaw17.ProofRows', WHERE WHAT IT READS IS OF BULK AT MOST 1048576: true; the input reads as it did. -/
def proofRowsUptoRow : OpenClaim := { program := "ytigipgahgkngcaa", sum := "fe892993fc70defcd13839b1ebc588598710b122b482bd7d439462525ee2e1ff", func := "parry/parrylaw17.ProofRows", spec := "proofRows", unfollowed := true, recurses := true, apart := false, narrowed := true }
def ProofRowsUptoSaid : Prop := proofRowsUptoRow.holds Try.pinned (OpenSpec.upto proofRowsSpec)

/-- 'parrylaw17.ProofRound', WHERE WHAT IT READS IS OF BULK AT MOST 1048576: true; the input reads as it did. -/
def proofRoundUptoRow : OpenClaim := { program := "ytigipgahgkngcaa", sum := "fe892993fc70defcd13839b1ebc588598710b122b482bd7d439462525ee2e1ff", func := "parry/parrylaw17.ProofRound", spec := "proofRound", unfollowed := true, recurses := true, apart := false, narrowed := true }
def ProofRoundUptoSaid : Prop := proofRoundUptoRow.holds Try.pinned (OpenSpec.upto proofRoundSpec)

/-- 'parrylaw17.ProofLess', WHERE WHAT IT READS IS OF BULK AT MOST 1048576: true; the input reads as it did. -/
def proofLessUptoRow : OpenClaim := { program := "ytigipgahgkngcaa", sum := "fe892993fc70defcd13839b1ebc588598710b122b482bd7d439462525ee2e1ff", func := "parry/parrylaw17.ProofLess", spec := "proofLess", unfollowed := true, recurses := true, apart := false, narrowed := true }
def ProofLessUptoSaid : Prop := proofLessUptoRow.holds Try.pinned (OpenSpec.upto proofLessSpec)

/-- 'parrylaw17.ProofApart', WHERE WHAT IT READS IS OF BULK AT MOST 1048576: true; the input reads as it did. -/
def proofApartUptoRow : OpenClaim := { program := "ytigipgahgkngcaa", sum := "fe892993fc70defcd13839b1ebc588598710b122b482bd7d439462525ee2e1ff", func := "parry/parrylaw17.ProofApart", spec := "proofApart", unfollowed := true, recurses := true, apart := false, narrowed := true }
def ProofApartUptoSaid : Prop := proofApartUptoRow.holds Try.pinned (OpenSpec.upto proofApartSpec)

/-- 'parrylaw17.ProofFair', WHERE WHAT IT READS IS OF BULK AT MOST 1048576: true; the input reads as it did. -/
def proofFairUptoRow : OpenClaim := { program := "ytigipgahgkngcaa", sum := "fe892993fc70defcd13839b1ebc588598710b122b482bd7d439462525ee2e1ff", func := "parry/parrylaw17.ProofFair", spec := "proofFair", unfollowed := true, recurses := true, apart := false, narrowed := true }
def ProofFairUptoSaid : Prop := proofFairUptoRow.holds Try.pinned (OpenSpec.upto proofFairSpec)

/-- 'parrylaw17.ProofForms', WHERE WHAT IT READS IS OF BULK AT MOST 1048576: true; the input reads as it did. -/
def proofFormsUptoRow : OpenClaim := { program := "ytigipgahgkngcaa", sum := "fe892993fc70defcd13839b1ebc588598710b122b482bd7d439462525ee2e1ff", func := "parry/parrylaw17.ProofForms", spec := "proofForms", unfollowed := true, recurses := true, apart := false, narrowed := true }
def ProofFormsUptoSaid : Prop := proofFormsUptoRow.holds Try.pinned (OpenSpec.upto proofFormsSpec)

/-- 'parrylaw17.ProofBoth', WHERE WHAT IT READS IS OF BULK AT MOST 1048576: true; the input reads as it did. -/
def proofBothUptoRow : OpenClaim := { program := "ytigipgahgkngcaa", sum := "fe892993fc70defcd13839b1ebc588598710b122b482bd7d439462525ee2e1ff", func := "parry/parrylaw17.ProofBoth", spec := "proofBoth", unfollowed := true, recurses := true, apart := false, narrowed := true }
def ProofBothUptoSaid : Prop := proofBothUptoRow.holds Try.pinned (OpenSpec.upto proofBothSpec)

end Rows
end Go.Proofs.Ytigipgahgkngcaa
