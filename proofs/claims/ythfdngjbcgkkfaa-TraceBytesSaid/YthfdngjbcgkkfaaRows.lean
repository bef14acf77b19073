/-
  No cell of these rows narrows 'for every input' (looked for: loops, veiled, ifaces, maps, wideKeys, modest, calm, conditions, laid).
  DERIVED. THE GIVEN ROWS OF THIS SEAT. 6 by the template 'for every input the law returns true; each argument reads behind the call as it read before'; 0 by the template 'total and deterministic' (their statements: YthfdngjbcgkkfaaTotals.lean).
  GIVEN WITH THE SEED: the statements are not yours to turn. If you find one false, say at which input.
  Laid BY PROGRAM, IN A SANDBOX (cutbox-rows.mjs): the forced cells as the released guide's own fill.sh prints them over the translation 4b613c17ea8d6436… (all of the seat's roots in one cut). By AI agents, Wed Nov 11 2026. No macro, syntax, notation, axiom, sorry.
-/
import Derived.Test.YthfdngjbcgkkfaaChecked
import GoSem.Claim
import GoSem.ClaimJoined
import GoSem.ClaimMapViews
import Derived.JoinedTies
import Derived.KernelRfl
namespace Go.Proofs.Ythfdngjbcgkkfaa
/- THE CELL 'sum', in the pinned program and in every row, IS THE sha256 OF THE DUMP (.gsa) THAT YthfdngjbcgkkfaaProg.lean LOADS. Nothing in Lean hashes anything: it is a label: what it is worth is what the hold of that sum in a sandbox is worth. -/
noncomputable def Try.pinned : Pinned := { name := "ythfdngjbcgkkfaa", sum := "4b613c17ea8d64363ec7a6d40d5e96b42cc3675dac0e5a8a3a6b8758aa5c2346", checked := Try.checked }
namespace Rows
def none {H : Type} : Left H := { results := [], args := [] }

/-- 'refmeshlaw33.TraceOrder': WHATEVER THE INPUT: true; the input reads as it did. -/
def traceOrderSpec : ChangeSpec := { name := "traceOrder", fn := fun _ => fun
  | [d1, d2, d3, d4, d5] => { results := [.lit (.bool true)], args := [d1, d2, d3, d4, d5] }
  | _ => none }
def traceOrderRow : OpenClaim := { program := "ythfdngjbcgkkfaa", sum := "4b613c17ea8d64363ec7a6d40d5e96b42cc3675dac0e5a8a3a6b8758aa5c2346", func := "refmesh/refmeshlaw33.TraceOrder", spec := "traceOrder", unfollowed := true, recurses := true, plainKeys := false, apart := false }
def TraceOrderSaid : Prop := traceOrderRow.holds Try.pinned (OpenSpec.ofChange traceOrderSpec)

/-- ITS FALSE NEIGHBOUR: 'it returns false'. Refute it at one input. -/
def traceOrderWrong : ChangeSpec := { name := "traceOrder", fn := fun _ => fun
  | [d1, d2, d3, d4, d5] => { results := [.lit (.bool false)], args := [d1, d2, d3, d4, d5] }
  | _ => none }
def TraceOrderWrongFalsely : Prop := traceOrderRow.holds Try.pinned (OpenSpec.ofChange traceOrderWrong)

/-- 'refmeshlaw33.TraceClosed': WHATEVER THE INPUT: true; the input reads as it did. -/
def traceClosedSpec : ChangeSpec := { name := "traceClosed", fn := fun _ => fun
  | [d1, d2, d3, d4] => { results := [.lit (.bool true)], args := [d1, d2, d3, d4] }
  | _ => none }
def traceClosedRow : OpenClaim := { program := "ythfdngjbcgkkfaa", sum := "4b613c17ea8d64363ec7a6d40d5e96b42cc3675dac0e5a8a3a6b8758aa5c2346", func := "refmesh/refmeshlaw33.TraceClosed", spec := "traceClosed", unfollowed := true, recurses := true, plainKeys := false, apart := false }
def TraceClosedSaid : Prop := traceClosedRow.holds Try.pinned (OpenSpec.ofChange traceClosedSpec)

/-- ITS FALSE NEIGHBOUR: 'it returns false'. Refute it at one input. -/
def traceClosedWrong : ChangeSpec := { name := "traceClosed", fn := fun _ => fun
  | [d1, d2, d3, d4] => { results := [.lit (.bool false)], args := [d1, d2, d3, d4] }
  | _ => none }
def TraceClosedWrongFalsely : Prop := traceClosedRow.holds Try.pinned (OpenSpec.ofChange traceClosedWrong)

/-- 'refmeshlaw33.TraceNames': WHATEVER THE INPUT: true; the input reads as it did. -/
def traceNamesSpec : ChangeSpec := { name := "traceNames", fn := fun _ => fun
  | [d] => { results := [.lit (.bool true)], args := [d] }
  | _ => none }
def traceNamesRow : OpenClaim := { program := "ythfdngjbcgkkfaa", sum := "4b613c17ea8d64363ec7a6d40d5e96b42cc3675dac0e5a8a3a6b8758aa5c2346", func := "refmesh/refmeshlaw33.TraceNames", spec := "traceNames", unfollowed := true, recurses := true, plainKeys := false, apart := false }
def TraceNamesSaid : Prop := traceNamesRow.holds Try.pinned (OpenSpec.ofChange traceNamesSpec)

/-- ITS FALSE NEIGHBOUR: 'it returns false'. Refute it at one input. -/
def traceNamesWrong : ChangeSpec := { name := "traceNames", fn := fun _ => fun
  | [d] => { results := [.lit (.bool false)], args := [d] }
  | _ => none }
def TraceNamesWrongFalsely : Prop := traceNamesRow.holds Try.pinned (OpenSpec.ofChange traceNamesWrong)

/-- 'refmeshlaw33.TraceCertificates': WHATEVER THE INPUT: true; the input reads as it did. -/
def traceCertificatesSpec : ChangeSpec := { name := "traceCertificates", fn := fun _ => fun
  | [d1, d2, d3] => { results := [.lit (.bool true)], args := [d1, d2, d3] }
  | _ => none }
def traceCertificatesRow : OpenClaim := { program := "ythfdngjbcgkkfaa", sum := "4b613c17ea8d64363ec7a6d40d5e96b42cc3675dac0e5a8a3a6b8758aa5c2346", func := "refmesh/refmeshlaw33.TraceCertificates", spec := "traceCertificates", unfollowed := true, recurses := true, plainKeys := false, apart := false }
def TraceCertificatesSaid : Prop := traceCertificatesRow.holds Try.pinned (OpenSpec.ofChange traceCertificatesSpec)

/-- ITS FALSE NEIGHBOUR: 'it returns false'. Refute it at one input. -/
def traceCertificatesWrong : ChangeSpec := { name := "traceCertificates", fn := fun _ => fun
  | [d1, d2, d3] => { results := [.lit (.bool false)], args := [d1, d2, d3] }
  | _ => none }
def TraceCertificatesWrongFalsely : Prop := traceCertificatesRow.holds Try.pinned (OpenSpec.ofChange traceCertificatesWrong)

/-- 'refmeshlaw33.TraceOperations': WHATEVER THE INPUT: true; the input reads as it did. -/
def traceOperationsSpec : ChangeSpec := { name := "traceOperations", fn := fun _ => fun
  | [d1, d2, d3] => { results := [.lit (.bool true)], args := [d1, d2, d3] }
  | _ => none }
def traceOperationsRow : OpenClaim := { program := "ythfdngjbcgkkfaa", sum := "4b613c17ea8d64363ec7a6d40d5e96b42cc3675dac0e5a8a3a6b8758aa5c2346", func := "refmesh/refmeshlaw33.TraceOperations", spec := "traceOperations", unfollowed := true, recurses := true, plainKeys := false, apart := false }
def TraceOperationsSaid : Prop := traceOperationsRow.holds Try.pinned (OpenSpec.ofChange traceOperationsSpec)

/-- ITS FALSE NEIGHBOUR: 'it returns false'. Refute it at one input. -/
def traceOperationsWrong : ChangeSpec := { name := "traceOperations", fn := fun _ => fun
  | [d1, d2, d3] => { results := [.lit (.bool false)], args := [d1, d2, d3] }
  | _ => none }
def TraceOperationsWrongFalsely : Prop := traceOperationsRow.holds Try.pinned (OpenSpec.ofChange traceOperationsWrong)

/-- 'refmeshlaw33.TraceBytes': WHATEVER THE INPUT: true; the input reads as it did. -/
def traceBytesSpec : ChangeSpec := { name := "traceBytes", fn := fun _ => fun
  | [d] => { results := [.lit (.bool true)], args := [d] }
  | _ => none }
def traceBytesRow : OpenClaim := { program := "ythfdngjbcgkkfaa", sum := "4b613c17ea8d64363ec7a6d40d5e96b42cc3675dac0e5a8a3a6b8758aa5c2346", func := "refmesh/refmeshlaw33.TraceBytes", spec := "traceBytes", unfollowed := true, recurses := true, plainKeys := false, apart := false }
def TraceBytesSaid : Prop := traceBytesRow.holds Try.pinned (OpenSpec.ofChange traceBytesSpec)

/-- ITS FALSE NEIGHBOUR: 'it returns false'. Refute it at one input. -/
def traceBytesWrong : ChangeSpec := { name := "traceBytes", fn := fun _ => fun
  | [d] => { results := [.lit (.bool false)], args := [d] }
  | _ => none }
def TraceBytesWrongFalsely : Prop := traceBytesRow.holds Try.pinned (OpenSpec.ofChange traceBytesWrong)

/- THE SECOND FORM. 'bulk': how many values and letters a reading holds, each counted each time it is reached (what is shared counts as often as it is met; a slice's spare places count too). A statement '..UptoSaid' is the law's where the arguments, and the package variables that the reading takes, are together of bulk at most 1048576: NARROWER than '..Said'. Prove '..Said' where nothing that the law and all that it calls make is longer than what came in: it says more and counts as full. Else prove '..UptoSaid'. A law counts once. -/
mutual
def uptoBulk {H : Type} : DataW H → Nat
  | .lit (.string bytes) => bytes.length + 1
  | .lit _ => 1
  | .nil => 1
  | .ptr d => uptoBulk d + 1
  | .slice elems spare => uptoBulkAll elems + uptoBulkAll spare + 1
  | .agg parts => uptoBulkAll parts + 1
  | .iface _ d => uptoBulk d + 1
  | .map entries => uptoBulkEntries entries + 1
  | .held _ => 1
def uptoBulkAll {H : Type} : List (DataW H) → Nat
  | [] => 0
  | d :: r => uptoBulk d + uptoBulkAll r
def uptoBulkEntries {H : Type} : List (Lit × DataW H) → Nat
  | [] => 0
  | x :: r => uptoBulkEntry x + uptoBulkEntries r
def uptoBulkEntry {H : Type} : Lit × DataW H → Nat
  | (.string bytes, d) => bytes.length + uptoBulk d + 1
  | (_, d) => uptoBulk d + 1
 end
def uptoSmall : (H : Type) → List (DataW H) → Bool := fun _ ds => decide (uptoBulkAll ds ≤ 1048576)
def OpenSpec.upto (s : _root_.Go.ChangeSpec) : _root_.Go.OpenSpec := { _root_.Go.OpenSpec.ofChange s with cond := some uptoSmall }

/-- 'refmeshlaw33.TraceOrder', WHERE WHAT IT READS IS OF BULK AT MOST 1048576: true; the input reads as it did. -/
def traceOrderUptoRow : OpenClaim := { program := "ythfdngjbcgkkfaa", sum := "4b613c17ea8d64363ec7a6d40d5e96b42cc3675dac0e5a8a3a6b8758aa5c2346", func := "refmesh/refmeshlaw33.TraceOrder", spec := "traceOrder", unfollowed := true, recurses := true, plainKeys := false, apart := false, narrowed := true }
def TraceOrderUptoSaid : Prop := traceOrderUptoRow.holds Try.pinned (OpenSpec.upto traceOrderSpec)

/-- 'refmeshlaw33.TraceClosed', WHERE WHAT IT READS IS OF BULK AT MOST 1048576: true; the input reads as it did. -/
def traceClosedUptoRow : OpenClaim := { program := "ythfdngjbcgkkfaa", sum := "4b613c17ea8d64363ec7a6d40d5e96b42cc3675dac0e5a8a3a6b8758aa5c2346", func := "refmesh/refmeshlaw33.TraceClosed", spec := "traceClosed", unfollowed := true, recurses := true, plainKeys := false, apart := false, narrowed := true }
def TraceClosedUptoSaid : Prop := traceClosedUptoRow.holds Try.pinned (OpenSpec.upto traceClosedSpec)

/-- 'refmeshlaw33.TraceNames', WHERE WHAT IT READS IS OF BULK AT MOST 1048576: true; the input reads as it did. -/
def traceNamesUptoRow : OpenClaim := { program := "ythfdngjbcgkkfaa", sum := "4b613c17ea8d64363ec7a6d40d5e96b42cc3675dac0e5a8a3a6b8758aa5c2346", func := "refmesh/refmeshlaw33.TraceNames", spec := "traceNames", unfollowed := true, recurses := true, plainKeys := false, apart := false, narrowed := true }
def TraceNamesUptoSaid : Prop := traceNamesUptoRow.holds Try.pinned (OpenSpec.upto traceNamesSpec)

/-- 'refmeshlaw33.TraceCertificates', WHERE WHAT IT READS IS OF BULK AT MOST 1048576: true; the input reads as it did. -/
def traceCertificatesUptoRow : OpenClaim := { program := "ythfdngjbcgkkfaa", sum := "4b613c17ea8d64363ec7a6d40d5e96b42cc3675dac0e5a8a3a6b8758aa5c2346", func := "refmesh/refmeshlaw33.TraceCertificates", spec := "traceCertificates", unfollowed := true, recurses := true, plainKeys := false, apart := false, narrowed := true }
def TraceCertificatesUptoSaid : Prop := traceCertificatesUptoRow.holds Try.pinned (OpenSpec.upto traceCertificatesSpec)

/-- 'refmeshlaw33.TraceOperations', WHERE WHAT IT READS IS OF BULK AT MOST 1048576: true; the input reads as it did. -/
def traceOperationsUptoRow : OpenClaim := { program := "ythfdngjbcgkkfaa", sum := "4b613c17ea8d64363ec7a6d40d5e96b42cc3675dac0e5a8a3a6b8758aa5c2346", func := "refmesh/refmeshlaw33.TraceOperations", spec := "traceOperations", unfollowed := true, recurses := true, plainKeys := false, apart := false, narrowed := true }
def TraceOperationsUptoSaid : Prop := traceOperationsUptoRow.holds Try.pinned (OpenSpec.upto traceOperationsSpec)

/-- 'refmeshlaw33.TraceBytes', WHERE WHAT IT READS IS OF BULK AT MOST 1048576: true; the input reads as it did. -/
def traceBytesUptoRow : OpenClaim := { program := "ythfdngjbcgkkfaa", sum := "4b613c17ea8d64363ec7a6d40d5e96b42cc3675dac0e5a8a3a6b8758aa5c2346", func := "refmesh/refmeshlaw33.TraceBytes", spec := "traceBytes", unfollowed := true, recurses := true, plainKeys := false, apart := false, narrowed := true }
def TraceBytesUptoSaid : Prop := traceBytesUptoRow.holds Try.pinned (OpenSpec.upto traceBytesSpec)

end Rows
end Go.Proofs.Ythfdngjbcgkkfaa
