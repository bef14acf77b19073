/-
  No cell of these rows narrows 'for every input' (looked for: loops, veiled, ifaces, maps, wideKeys, modest, calm, conditions, laid).
  DERIVED. THE GIVEN ROWS OF THIS SEAT. 7 by the template 'for every input the law returns true; each argument reads behind the call as it read before'; 0 by the template 'total and deterministic' (their statements: YtmamlipgfkmcjaaTotals.lean).
  GIVEN WITH THE SEED: the statements are not yours to turn. If you find one false, say at which input.
  Laid BY PROGRAM, IN A SANDBOX (cutbox-rows.mjs): the forced cells as the released guide's own fill.sh prints them over the translation 1db29dfbfe40e68e… (all of the seat's roots in one cut). By AI agents, Wed Nov 11 2026. No macro, syntax, notation, axiom, sorry.
-/
import Derived.Test.YtmamlipgfkmcjaaChecked
import GoSem.Claim
import GoSem.ClaimJoined
import GoSem.ClaimMapViews
import Derived.JoinedTies
import Derived.KernelRfl
namespace Go.Proofs.Ytmamlipgfkmcjaa
/- THE CELL 'sum', in the pinned program and in every row, IS THE sha256 OF THE DUMP (.gsa) THAT YtmamlipgfkmcjaaProg.lean LOADS. Nothing in Lean hashes anything: it is a label: what it is worth is what the hold of that sum in a sandbox is worth. -/
noncomputable def Try.pinned : Pinned := { name := "ytmamlipgfkmcjaa", sum := "1db29dfbfe40e68eaec67663a89921faceb198b2c7278319dc04397217417243", checked := Try.checked }
namespace Rows
def none {H : Type} : Left H := { results := [], args := [] }

/-- 'refmeshlaw14.HandlesNumbers': WHATEVER THE INPUT: true; the input reads as it did. -/
def handlesNumbersSpec : ChangeSpec := { name := "handlesNumbers", fn := fun _ => fun
  | [d1, d2, d3] => { results := [.lit (.bool true)], args := [d1, d2, d3] }
  | _ => none }
def handlesNumbersRow : OpenClaim := { program := "ytmamlipgfkmcjaa", sum := "1db29dfbfe40e68eaec67663a89921faceb198b2c7278319dc04397217417243", func := "refmesh/refmeshlaw14.HandlesNumbers", spec := "handlesNumbers", unfollowed := true, recurses := true, apart := false }
def HandlesNumbersSaid : Prop := handlesNumbersRow.holds Try.pinned (OpenSpec.ofChange handlesNumbersSpec)

/-- ITS FALSE NEIGHBOUR: 'it returns false'. Refute it at one input. -/
def handlesNumbersWrong : ChangeSpec := { name := "handlesNumbers", fn := fun _ => fun
  | [d1, d2, d3] => { results := [.lit (.bool false)], args := [d1, d2, d3] }
  | _ => none }
def HandlesNumbersWrongFalsely : Prop := handlesNumbersRow.holds Try.pinned (OpenSpec.ofChange handlesNumbersWrong)

/-- 'refmeshlaw14.HandlesOperations': WHATEVER THE INPUT: true; the input reads as it did. -/
def handlesOperationsSpec : ChangeSpec := { name := "handlesOperations", fn := fun _ => fun
  | [d] => { results := [.lit (.bool true)], args := [d] }
  | _ => none }
def handlesOperationsRow : OpenClaim := { program := "ytmamlipgfkmcjaa", sum := "1db29dfbfe40e68eaec67663a89921faceb198b2c7278319dc04397217417243", func := "refmesh/refmeshlaw14.HandlesOperations", spec := "handlesOperations", unfollowed := true, recurses := true, apart := false }
def HandlesOperationsSaid : Prop := handlesOperationsRow.holds Try.pinned (OpenSpec.ofChange handlesOperationsSpec)

/-- ITS FALSE NEIGHBOUR: 'it returns false'. Refute it at one input. -/
def handlesOperationsWrong : ChangeSpec := { name := "handlesOperations", fn := fun _ => fun
  | [d] => { results := [.lit (.bool false)], args := [d] }
  | _ => none }
def HandlesOperationsWrongFalsely : Prop := handlesOperationsRow.holds Try.pinned (OpenSpec.ofChange handlesOperationsWrong)

/-- 'refmeshlaw14.HandlesMissing': WHATEVER THE INPUT: true; the input reads as it did. -/
def handlesMissingSpec : ChangeSpec := { name := "handlesMissing", fn := fun _ => fun
  | [d1, d2, d3] => { results := [.lit (.bool true)], args := [d1, d2, d3] }
  | _ => none }
def handlesMissingRow : OpenClaim := { program := "ytmamlipgfkmcjaa", sum := "1db29dfbfe40e68eaec67663a89921faceb198b2c7278319dc04397217417243", func := "refmesh/refmeshlaw14.HandlesMissing", spec := "handlesMissing", unfollowed := true, recurses := true, apart := false }
def HandlesMissingSaid : Prop := handlesMissingRow.holds Try.pinned (OpenSpec.ofChange handlesMissingSpec)

/-- ITS FALSE NEIGHBOUR: 'it returns false'. Refute it at one input. -/
def handlesMissingWrong : ChangeSpec := { name := "handlesMissing", fn := fun _ => fun
  | [d1, d2, d3] => { results := [.lit (.bool false)], args := [d1, d2, d3] }
  | _ => none }
def HandlesMissingWrongFalsely : Prop := handlesMissingRow.holds Try.pinned (OpenSpec.ofChange handlesMissingWrong)

/-- 'refmeshlaw14.HandlesLists': WHATEVER THE INPUT: true; the input reads as it did. -/
def handlesListsSpec : ChangeSpec := { name := "handlesLists", fn := fun _ => fun
  | [d] => { results := [.lit (.bool true)], args := [d] }
  | _ => none }
def handlesListsRow : OpenClaim := { program := "ytmamlipgfkmcjaa", sum := "1db29dfbfe40e68eaec67663a89921faceb198b2c7278319dc04397217417243", func := "refmesh/refmeshlaw14.HandlesLists", spec := "handlesLists", unfollowed := true, recurses := true, apart := false }
def HandlesListsSaid : Prop := handlesListsRow.holds Try.pinned (OpenSpec.ofChange handlesListsSpec)

/-- ITS FALSE NEIGHBOUR: 'it returns false'. Refute it at one input. -/
def handlesListsWrong : ChangeSpec := { name := "handlesLists", fn := fun _ => fun
  | [d] => { results := [.lit (.bool false)], args := [d] }
  | _ => none }
def HandlesListsWrongFalsely : Prop := handlesListsRow.holds Try.pinned (OpenSpec.ofChange handlesListsWrong)

/-- 'refmeshlaw14.HandlesReplacement': WHATEVER THE INPUT: true; the input reads as it did. -/
def handlesReplacementSpec : ChangeSpec := { name := "handlesReplacement", fn := fun _ => fun
  | [d1, d2, d3] => { results := [.lit (.bool true)], args := [d1, d2, d3] }
  | _ => none }
def handlesReplacementRow : OpenClaim := { program := "ytmamlipgfkmcjaa", sum := "1db29dfbfe40e68eaec67663a89921faceb198b2c7278319dc04397217417243", func := "refmesh/refmeshlaw14.HandlesReplacement", spec := "handlesReplacement", unfollowed := true, recurses := true, apart := false }
def HandlesReplacementSaid : Prop := handlesReplacementRow.holds Try.pinned (OpenSpec.ofChange handlesReplacementSpec)

/-- ITS FALSE NEIGHBOUR: 'it returns false'. Refute it at one input. -/
def handlesReplacementWrong : ChangeSpec := { name := "handlesReplacement", fn := fun _ => fun
  | [d1, d2, d3] => { results := [.lit (.bool false)], args := [d1, d2, d3] }
  | _ => none }
def HandlesReplacementWrongFalsely : Prop := handlesReplacementRow.holds Try.pinned (OpenSpec.ofChange handlesReplacementWrong)

/-- 'refmeshlaw14.HandlesDecoding': WHATEVER THE INPUT: true; the input reads as it did. -/
def handlesDecodingSpec : ChangeSpec := { name := "handlesDecoding", fn := fun _ => fun
  | [d] => { results := [.lit (.bool true)], args := [d] }
  | _ => none }
def handlesDecodingRow : OpenClaim := { program := "ytmamlipgfkmcjaa", sum := "1db29dfbfe40e68eaec67663a89921faceb198b2c7278319dc04397217417243", func := "refmesh/refmeshlaw14.HandlesDecoding", spec := "handlesDecoding", unfollowed := true, recurses := true, apart := false }
def HandlesDecodingSaid : Prop := handlesDecodingRow.holds Try.pinned (OpenSpec.ofChange handlesDecodingSpec)

/-- ITS FALSE NEIGHBOUR: 'it returns false'. Refute it at one input. -/
def handlesDecodingWrong : ChangeSpec := { name := "handlesDecoding", fn := fun _ => fun
  | [d] => { results := [.lit (.bool false)], args := [d] }
  | _ => none }
def HandlesDecodingWrongFalsely : Prop := handlesDecodingRow.holds Try.pinned (OpenSpec.ofChange handlesDecodingWrong)

/-- 'refmeshlaw14.HandlesEncoding': WHATEVER THE INPUT: true; the input reads as it did. -/
def handlesEncodingSpec : ChangeSpec := { name := "handlesEncoding", fn := fun _ => fun
  | [d1, d2] => { results := [.lit (.bool true)], args := [d1, d2] }
  | _ => none }
def handlesEncodingRow : OpenClaim := { program := "ytmamlipgfkmcjaa", sum := "1db29dfbfe40e68eaec67663a89921faceb198b2c7278319dc04397217417243", func := "refmesh/refmeshlaw14.HandlesEncoding", spec := "handlesEncoding", unfollowed := true, recurses := true, apart := false }
def HandlesEncodingSaid : Prop := handlesEncodingRow.holds Try.pinned (OpenSpec.ofChange handlesEncodingSpec)

/-- ITS FALSE NEIGHBOUR: 'it returns false'. Refute it at one input. -/
def handlesEncodingWrong : ChangeSpec := { name := "handlesEncoding", fn := fun _ => fun
  | [d1, d2] => { results := [.lit (.bool false)], args := [d1, d2] }
  | _ => none }
def HandlesEncodingWrongFalsely : Prop := handlesEncodingRow.holds Try.pinned (OpenSpec.ofChange handlesEncodingWrong)

/- THE SECOND FORM. 'bulk': how many values and letters a reading holds, each counted each time it is reached (what is shared counts as often as it is met; a slice's spare places count too). A statement '..UptoSaid' is the law's where the arguments, and the package variables that the reading takes, are together of bulk at most 1048576: NARROWER than '..Said'. Prove '..Said' where nothing that the law and all that it calls make is longer than what came in: it says more and counts as full. Else prove '..UptoSaid'. A law counts once. -/
mutual
def uptoBulk {H : Type} : DataW H → Nat
  | .lit (.string bytes) => bytes.length + 1
  | .lit _ => 1
  | .nil => 1
  | .ptr d => uptoBulk d + 1
  | .slice elems spare => uptoBulkAll elems + uptoBulkAll spare + 1
  | .agg parts => uptoBulkAll parts + 1
  | .iface _ d => uptoBulk d + 1
  | .map entries => uptoBulkEntries entries + 1
  | .held _ => 1
def uptoBulkAll {H : Type} : List (DataW H) → Nat
  | [] => 0
  | d :: r => uptoBulk d + uptoBulkAll r
def uptoBulkEntries {H : Type} : List (Lit × DataW H) → Nat
  | [] => 0
  | x :: r => uptoBulkEntry x + uptoBulkEntries r
def uptoBulkEntry {H : Type} : Lit × DataW H → Nat
  | (.string bytes, d) => bytes.length + uptoBulk d + 1
  | (_, d) => uptoBulk d + 1
 end
def uptoSmall : (H : Type) → List (DataW H) → Bool := fun _ ds => decide (uptoBulkAll ds ≤ 1048576)
def OpenSpec.upto (s : _root_.Go.ChangeSpec) : _root_.Go.OpenSpec := { _root_.Go.OpenSpec.ofChange s with cond := some uptoSmall }

/-- 'refmeshlaw14.HandlesNumbers', WHERE WHAT IT READS IS OF BULK AT MOST 1048576: true; the input reads as it did. -/
def handlesNumbersUptoRow : OpenClaim := { program := "ytmamlipgfkmcjaa", sum := "1db29dfbfe40e68eaec67663a89921faceb198b2c7278319dc04397217417243", func := "refmesh/refmeshlaw14.HandlesNumbers", spec := "handlesNumbers", unfollowed := true, recurses := true, apart := false, narrowed := true }
def HandlesNumbersUptoSaid : Prop := handlesNumbersUptoRow.holds Try.pinned (OpenSpec.upto handlesNumbersSpec)

/-- 'refmeshlaw14.HandlesOperations', WHERE WHAT IT READS IS OF BULK AT MOST 1048576: true; the input reads as it did. -/
def handlesOperationsUptoRow : OpenClaim := { program := "ytmamlipgfkmcjaa", sum := "1db29dfbfe40e68eaec67663a89921faceb198b2c7278319dc04397217417243", func := "refmesh/refmeshlaw14.HandlesOperations", spec := "handlesOperations", unfollowed := true, recurses := true, apart := false, narrowed := true }
def HandlesOperationsUptoSaid : Prop := handlesOperationsUptoRow.holds Try.pinned (OpenSpec.upto handlesOperationsSpec)

/-- 'refmeshlaw14.HandlesMissing', WHERE WHAT IT READS IS OF BULK AT MOST 1048576: true; the input reads as it did. -/
def handlesMissingUptoRow : OpenClaim := { program := "ytmamlipgfkmcjaa", sum := "1db29dfbfe40e68eaec67663a89921faceb198b2c7278319dc04397217417243", func := "refmesh/refmeshlaw14.HandlesMissing", spec := "handlesMissing", unfollowed := true, recurses := true, apart := false, narrowed := true }
def HandlesMissingUptoSaid : Prop := handlesMissingUptoRow.holds Try.pinned (OpenSpec.upto handlesMissingSpec)

/-- 'refmeshlaw14.HandlesLists', WHERE WHAT IT READS IS OF BULK AT MOST 1048576: true; the input reads as it did. -/
def handlesListsUptoRow : OpenClaim := { program := "ytmamlipgfkmcjaa", sum := "1db29dfbfe40e68eaec67663a89921faceb198b2c7278319dc04397217417243", func := "refmesh/refmeshlaw14.HandlesLists", spec := "handlesLists", unfollowed := true, recurses := true, apart := false, narrowed := true }
def HandlesListsUptoSaid : Prop := handlesListsUptoRow.holds Try.pinned (OpenSpec.upto handlesListsSpec)

/-- 'refmeshlaw14.HandlesReplacement', WHERE WHAT IT READS IS OF BULK AT MOST 1048576: true; the input reads as it did. -/
def handlesReplacementUptoRow : OpenClaim := { program := "ytmamlipgfkmcjaa", sum := "1db29dfbfe40e68eaec67663a89921faceb198b2c7278319dc04397217417243", func := "refmesh/refmeshlaw14.HandlesReplacement", spec := "handlesReplacement", unfollowed := true, recurses := true, apart := false, narrowed := true }
def HandlesReplacementUptoSaid : Prop := handlesReplacementUptoRow.holds Try.pinned (OpenSpec.upto handlesReplacementSpec)

/-- 'refmeshlaw14.HandlesDecoding', WHERE WHAT IT READS IS OF BULK AT MOST 1048576: true; the input reads as it did. -/
def handlesDecodingUptoRow : OpenClaim := { program := "ytmamlipgfkmcjaa", sum := "1db29dfbfe40e68eaec67663a89921faceb198b2c7278319dc04397217417243", func := "refmesh/refmeshlaw14.HandlesDecoding", spec := "handlesDecoding", unfollowed := true, recurses := true, apart := false, narrowed := true }
def HandlesDecodingUptoSaid : Prop := handlesDecodingUptoRow.holds Try.pinned (OpenSpec.upto handlesDecodingSpec)

/-- 'refmeshlaw14.HandlesEncoding', WHERE WHAT IT READS IS OF BULK AT MOST 1048576: true; the input reads as it did. -/
def handlesEncodingUptoRow : OpenClaim := { program := "ytmamlipgfkmcjaa", sum := "1db29dfbfe40e68eaec67663a89921faceb198b2c7278319dc04397217417243", func := "refmesh/refmeshlaw14.HandlesEncoding", spec := "handlesEncoding", unfollowed := true, recurses := true, apart := false, narrowed := true }
def HandlesEncodingUptoSaid : Prop := handlesEncodingUptoRow.holds Try.pinned (OpenSpec.upto handlesEncodingSpec)

end Rows
end Go.Proofs.Ytmamlipgfkmcjaa
