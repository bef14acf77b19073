/-
  No cell of these rows narrows 'for every input' (looked for: loops, veiled, ifaces, maps, wideKeys, modest, calm, conditions, laid).
  DERIVED. THE GIVEN ROWS OF THIS SEAT. 7 by the template 'for every input the law returns true; each argument reads behind the call as it read before'; 0 by the template 'total and deterministic' (their statements: YtilmcdieihmiaaaTotals.lean).
  GIVEN WITH THE SEED: the statements are not yours to turn. If you find one false, say at which input.
  Laid BY PROGRAM, IN A SANDBOX (cutbox-rows.mjs): the forced cells as the released guide's own fill.sh prints them over the translation 1d7e92dd155edfb2… (all of the seat's roots in one cut). By AI agents, Wed Nov 11 2026. No macro, syntax, notation, axiom, sorry.
-/
import Derived.Test.YtilmcdieihmiaaaChecked
import GoSem.Claim
import GoSem.ClaimJoined
import GoSem.ClaimMapViews
import Derived.JoinedTies
import Derived.KernelRfl
namespace Go.Proofs.Ytilmcdieihmiaaa
/- THE CELL 'sum', in the pinned program and in every row, IS THE sha256 OF THE DUMP (.gsa) THAT YtilmcdieihmiaaaProg.lean LOADS. Nothing in Lean hashes anything: it is a label: what it is worth is what the hold of that sum in a sandbox is worth. -/
noncomputable def Try.pinned : Pinned := { name := "ytilmcdieihmiaaa", sum := "1d7e92dd155edfb2134a0e88d0f1533be0b5b924826608f13f01e5bc90a34dc3", checked := Try.checked }
namespace Rows
def none {H : Type} : Left H := { results := [], args := [] }

/-- 'refmeshlaw18.ChannelPermutation': WHATEVER THE INPUT: true; the input reads as it did. -/
def channelPermutationSpec : ChangeSpec := { name := "channelPermutation", fn := fun _ => fun
  | [d1, d2] => { results := [.lit (.bool true)], args := [d1, d2] }
  | _ => none }
def channelPermutationRow : OpenClaim := { program := "ytilmcdieihmiaaa", sum := "1d7e92dd155edfb2134a0e88d0f1533be0b5b924826608f13f01e5bc90a34dc3", func := "refmesh/refmeshlaw18.ChannelPermutation", spec := "channelPermutation", unfollowed := true, recurses := true, apart := false }
def ChannelPermutationSaid : Prop := channelPermutationRow.holds Try.pinned (OpenSpec.ofChange channelPermutationSpec)

/-- ITS FALSE NEIGHBOUR: 'it returns false'. Refute it at one input. -/
def channelPermutationWrong : ChangeSpec := { name := "channelPermutation", fn := fun _ => fun
  | [d1, d2] => { results := [.lit (.bool false)], args := [d1, d2] }
  | _ => none }
def ChannelPermutationWrongFalsely : Prop := channelPermutationRow.holds Try.pinned (OpenSpec.ofChange channelPermutationWrong)

/-- 'refmeshlaw18.ChannelOrder': WHATEVER THE INPUT: true; the input reads as it did. -/
def channelOrderSpec : ChangeSpec := { name := "channelOrder", fn := fun _ => fun
  | [d] => { results := [.lit (.bool true)], args := [d] }
  | _ => none }
def channelOrderRow : OpenClaim := { program := "ytilmcdieihmiaaa", sum := "1d7e92dd155edfb2134a0e88d0f1533be0b5b924826608f13f01e5bc90a34dc3", func := "refmesh/refmeshlaw18.ChannelOrder", spec := "channelOrder", unfollowed := true, recurses := true, apart := false }
def ChannelOrderSaid : Prop := channelOrderRow.holds Try.pinned (OpenSpec.ofChange channelOrderSpec)

/-- ITS FALSE NEIGHBOUR: 'it returns false'. Refute it at one input. -/
def channelOrderWrong : ChangeSpec := { name := "channelOrder", fn := fun _ => fun
  | [d] => { results := [.lit (.bool false)], args := [d] }
  | _ => none }
def ChannelOrderWrongFalsely : Prop := channelOrderRow.holds Try.pinned (OpenSpec.ofChange channelOrderWrong)

/-- 'refmeshlaw18.ChannelOperations': WHATEVER THE INPUT: true; the input reads as it did. -/
def channelOperationsSpec : ChangeSpec := { name := "channelOperations", fn := fun _ => fun
  | [d] => { results := [.lit (.bool true)], args := [d] }
  | _ => none }
def channelOperationsRow : OpenClaim := { program := "ytilmcdieihmiaaa", sum := "1d7e92dd155edfb2134a0e88d0f1533be0b5b924826608f13f01e5bc90a34dc3", func := "refmesh/refmeshlaw18.ChannelOperations", spec := "channelOperations", unfollowed := true, recurses := true, apart := false }
def ChannelOperationsSaid : Prop := channelOperationsRow.holds Try.pinned (OpenSpec.ofChange channelOperationsSpec)

/-- ITS FALSE NEIGHBOUR: 'it returns false'. Refute it at one input. -/
def channelOperationsWrong : ChangeSpec := { name := "channelOperations", fn := fun _ => fun
  | [d] => { results := [.lit (.bool false)], args := [d] }
  | _ => none }
def ChannelOperationsWrongFalsely : Prop := channelOperationsRow.holds Try.pinned (OpenSpec.ofChange channelOperationsWrong)

/-- 'refmeshlaw18.ChannelCompletion': WHATEVER THE INPUT: true; the input reads as it did. -/
def channelCompletionSpec : ChangeSpec := { name := "channelCompletion", fn := fun _ => fun
  | [d1, d2] => { results := [.lit (.bool true)], args := [d1, d2] }
  | _ => none }
def channelCompletionRow : OpenClaim := { program := "ytilmcdieihmiaaa", sum := "1d7e92dd155edfb2134a0e88d0f1533be0b5b924826608f13f01e5bc90a34dc3", func := "refmesh/refmeshlaw18.ChannelCompletion", spec := "channelCompletion", unfollowed := true, recurses := true, apart := false }
def ChannelCompletionSaid : Prop := channelCompletionRow.holds Try.pinned (OpenSpec.ofChange channelCompletionSpec)

/-- ITS FALSE NEIGHBOUR: 'it returns false'. Refute it at one input. -/
def channelCompletionWrong : ChangeSpec := { name := "channelCompletion", fn := fun _ => fun
  | [d1, d2] => { results := [.lit (.bool false)], args := [d1, d2] }
  | _ => none }
def ChannelCompletionWrongFalsely : Prop := channelCompletionRow.holds Try.pinned (OpenSpec.ofChange channelCompletionWrong)

/-- 'refmeshlaw18.ChannelRepetition': WHATEVER THE INPUT: true; the input reads as it did. -/
def channelRepetitionSpec : ChangeSpec := { name := "channelRepetition", fn := fun _ => fun
  | [d1, d2] => { results := [.lit (.bool true)], args := [d1, d2] }
  | _ => none }
def channelRepetitionRow : OpenClaim := { program := "ytilmcdieihmiaaa", sum := "1d7e92dd155edfb2134a0e88d0f1533be0b5b924826608f13f01e5bc90a34dc3", func := "refmesh/refmeshlaw18.ChannelRepetition", spec := "channelRepetition", unfollowed := true, recurses := true, apart := false }
def ChannelRepetitionSaid : Prop := channelRepetitionRow.holds Try.pinned (OpenSpec.ofChange channelRepetitionSpec)

/-- ITS FALSE NEIGHBOUR: 'it returns false'. Refute it at one input. -/
def channelRepetitionWrong : ChangeSpec := { name := "channelRepetition", fn := fun _ => fun
  | [d1, d2] => { results := [.lit (.bool false)], args := [d1, d2] }
  | _ => none }
def ChannelRepetitionWrongFalsely : Prop := channelRepetitionRow.holds Try.pinned (OpenSpec.ofChange channelRepetitionWrong)

/-- 'refmeshlaw18.ChannelEncoding': WHATEVER THE INPUT: true; the input reads as it did. -/
def channelEncodingSpec : ChangeSpec := { name := "channelEncoding", fn := fun _ => fun
  | [d1, d2] => { results := [.lit (.bool true)], args := [d1, d2] }
  | _ => none }
def channelEncodingRow : OpenClaim := { program := "ytilmcdieihmiaaa", sum := "1d7e92dd155edfb2134a0e88d0f1533be0b5b924826608f13f01e5bc90a34dc3", func := "refmesh/refmeshlaw18.ChannelEncoding", spec := "channelEncoding", unfollowed := true, recurses := true, apart := false }
def ChannelEncodingSaid : Prop := channelEncodingRow.holds Try.pinned (OpenSpec.ofChange channelEncodingSpec)

/-- ITS FALSE NEIGHBOUR: 'it returns false'. Refute it at one input. -/
def channelEncodingWrong : ChangeSpec := { name := "channelEncoding", fn := fun _ => fun
  | [d1, d2] => { results := [.lit (.bool false)], args := [d1, d2] }
  | _ => none }
def ChannelEncodingWrongFalsely : Prop := channelEncodingRow.holds Try.pinned (OpenSpec.ofChange channelEncodingWrong)

/-- 'refmeshlaw18.ChannelDecoding': WHATEVER THE INPUT: true; the input reads as it did. -/
def channelDecodingSpec : ChangeSpec := { name := "channelDecoding", fn := fun _ => fun
  | [d] => { results := [.lit (.bool true)], args := [d] }
  | _ => none }
def channelDecodingRow : OpenClaim := { program := "ytilmcdieihmiaaa", sum := "1d7e92dd155edfb2134a0e88d0f1533be0b5b924826608f13f01e5bc90a34dc3", func := "refmesh/refmeshlaw18.ChannelDecoding", spec := "channelDecoding", unfollowed := true, recurses := true, apart := false }
def ChannelDecodingSaid : Prop := channelDecodingRow.holds Try.pinned (OpenSpec.ofChange channelDecodingSpec)

/-- ITS FALSE NEIGHBOUR: 'it returns false'. Refute it at one input. -/
def channelDecodingWrong : ChangeSpec := { name := "channelDecoding", fn := fun _ => fun
  | [d] => { results := [.lit (.bool false)], args := [d] }
  | _ => none }
def ChannelDecodingWrongFalsely : Prop := channelDecodingRow.holds Try.pinned (OpenSpec.ofChange channelDecodingWrong)

/- THE SECOND FORM. 'bulk': how many values and letters a reading holds, each counted each time it is reached (what is shared counts as often as it is met; a slice's spare places count too). A statement '..UptoSaid' is the law's where the arguments, and the package variables that the reading takes, are together of bulk at most 1048576: NARROWER than '..Said'. Prove '..Said' where nothing that the law and all that it calls make is longer than what came in: it says more and counts as full. Else prove '..UptoSaid'. A law counts once. -/
mutual
def uptoBulk {H : Type} : DataW H → Nat
  | .lit (.string bytes) => bytes.length + 1
  | .lit _ => 1
  | .nil => 1
  | .ptr d => uptoBulk d + 1
  | .slice elems spare => uptoBulkAll elems + uptoBulkAll spare + 1
  | .agg parts => uptoBulkAll parts + 1
  | .iface _ d => uptoBulk d + 1
  | .map entries => uptoBulkEntries entries + 1
  | .held _ => 1
def uptoBulkAll {H : Type} : List (DataW H) → Nat
  | [] => 0
  | d :: r => uptoBulk d + uptoBulkAll r
def uptoBulkEntries {H : Type} : List (Lit × DataW H) → Nat
  | [] => 0
  | x :: r => uptoBulkEntry x + uptoBulkEntries r
def uptoBulkEntry {H : Type} : Lit × DataW H → Nat
  | (.string bytes, d) => bytes.length + uptoBulk d + 1
  | (_, d) => uptoBulk d + 1
 end
def uptoSmall : (H : Type) → List (DataW H) → Bool := fun _ ds => decide (uptoBulkAll ds ≤ 1048576)
def OpenSpec.upto (s : _root_.Go.ChangeSpec) : _root_.Go.OpenSpec := { _root_.Go.OpenSpec.ofChange s with cond := some uptoSmall }

/-- 'refmeshlaw18.ChannelPermutation', WHERE WHAT IT READS IS OF BULK AT MOST 1048576: true; the input reads as it did. -/
def channelPermutationUptoRow : OpenClaim := { program := "ytilmcdieihmiaaa", sum := "1d7e92dd155edfb2134a0e88d0f1533be0b5b924826608f13f01e5bc90a34dc3", func := "refmesh/refmeshlaw18.ChannelPermutation", spec := "channelPermutation", unfollowed := true, recurses := true, apart := false, narrowed := true }
def ChannelPermutationUptoSaid : Prop := channelPermutationUptoRow.holds Try.pinned (OpenSpec.upto channelPermutationSpec)

/-- 'refmeshlaw18.ChannelOrder', WHERE WHAT IT READS IS OF BULK AT MOST 1048576: true; the input reads as it did. -/
def channelOrderUptoRow : OpenClaim := { program := "ytilmcdieihmiaaa", sum := "1d7e92dd155edfb2134a0e88d0f1533be0b5b924826608f13f01e5bc90a34dc3", func := "refmesh/refmeshlaw18.ChannelOrder", spec := "channelOrder", unfollowed := true, recurses := true, apart := false, narrowed := true }
def ChannelOrderUptoSaid : Prop := channelOrderUptoRow.holds Try.pinned (OpenSpec.upto channelOrderSpec)

/-- 'refmeshlaw18.ChannelOperations', WHERE WHAT IT READS IS OF BULK AT MOST 1048576: true; the input reads as it did. -/
def channelOperationsUptoRow : OpenClaim := { program := "ytilmcdieihmiaaa", sum := "1d7e92dd155edfb2134a0e88d0f1533be0b5b924826608f13f01e5bc90a34dc3", func := "refmesh/refmeshlaw18.ChannelOperations", spec := "channelOperations", unfollowed := true, recurses := true, apart := false, narrowed := true }
def ChannelOperationsUptoSaid : Prop := channelOperationsUptoRow.holds Try.pinned (OpenSpec.upto channelOperationsSpec)

/-- 'refmeshlaw18.ChannelCompletion', WHERE WHAT IT READS IS OF BULK AT MOST 1048576: true; the input reads as it did. -/
def channelCompletionUptoRow : OpenClaim := { program := "ytilmcdieihmiaaa", sum := "1d7e92dd155edfb2134a0e88d0f1533be0b5b924826608f13f01e5bc90a34dc3", func := "refmesh/refmeshlaw18.ChannelCompletion", spec := "channelCompletion", unfollowed := true, recurses := true, apart := false, narrowed := true }
def ChannelCompletionUptoSaid : Prop := channelCompletionUptoRow.holds Try.pinned (OpenSpec.upto channelCompletionSpec)

/-- 'refmeshlaw18.ChannelRepetition', WHERE WHAT IT READS IS OF BULK AT MOST 1048576: true; the input reads as it did. -/
def channelRepetitionUptoRow : OpenClaim := { program := "ytilmcdieihmiaaa", sum := "1d7e92dd155edfb2134a0e88d0f1533be0b5b924826608f13f01e5bc90a34dc3", func := "refmesh/refmeshlaw18.ChannelRepetition", spec := "channelRepetition", unfollowed := true, recurses := true, apart := false, narrowed := true }
def ChannelRepetitionUptoSaid : Prop := channelRepetitionUptoRow.holds Try.pinned (OpenSpec.upto channelRepetitionSpec)

/-- 'refmeshlaw18.ChannelEncoding', WHERE WHAT IT READS IS OF BULK AT MOST 1048576: true; the input reads as it did. -/
def channelEncodingUptoRow : OpenClaim := { program := "ytilmcdieihmiaaa", sum := "1d7e92dd155edfb2134a0e88d0f1533be0b5b924826608f13f01e5bc90a34dc3", func := "refmesh/refmeshlaw18.ChannelEncoding", spec := "channelEncoding", unfollowed := true, recurses := true, apart := false, narrowed := true }
def ChannelEncodingUptoSaid : Prop := channelEncodingUptoRow.holds Try.pinned (OpenSpec.upto channelEncodingSpec)

/-- 'refmeshlaw18.ChannelDecoding', WHERE WHAT IT READS IS OF BULK AT MOST 1048576: true; the input reads as it did. -/
def channelDecodingUptoRow : OpenClaim := { program := "ytilmcdieihmiaaa", sum := "1d7e92dd155edfb2134a0e88d0f1533be0b5b924826608f13f01e5bc90a34dc3", func := "refmesh/refmeshlaw18.ChannelDecoding", spec := "channelDecoding", unfollowed := true, recurses := true, apart := false, narrowed := true }
def ChannelDecodingUptoSaid : Prop := channelDecodingUptoRow.holds Try.pinned (OpenSpec.upto channelDecodingSpec)

end Rows
end Go.Proofs.Ytilmcdieihmiaaa
