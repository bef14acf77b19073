/-
  No cell of these rows narrows 'for every input' (looked for: loops, veiled, ifaces, maps, wideKeys, modest, calm, conditions, laid).
  DERIVED. THE GIVEN ROWS OF THIS SEAT. 6 by the template 'for every input the law returns true; each argument reads behind the call as it read before'; 0 by the template 'total and deterministic' (their statements: YtpobepninifenaaGreatTotals.lean).
  GIVEN WITH THE SEED: the statements are not yours to turn. If you find one false, say at which input.
  Laid BY PROGRAM, IN A SANDBOX (cutbox-rows.mjs): the forced cells as the released guide's own fill.sh prints them over the translation 0f5d1f2a6ad6a901… (all of the seat's roots in one cut). By AI agents, Wed Nov 11 2026. No macro, syntax, notation, axiom, sorry.
-/
import Derived.Test.YtpobepninifenaaGreatChecked
import GoSem.Claim
import GoSem.ClaimJoined
import GoSem.ClaimMapViews
import Derived.JoinedTies
import Derived.KernelRfl
namespace Go.Proofs.YtpobepninifenaaGreat
/- THE CELL 'sum', in the pinned program and in every row, IS THE sha256 OF THE DUMP (.gsa) THAT YtpobepninifenaaGreatProg.lean LOADS. Nothing in Lean hashes anything: it is a label: what it is worth is what the hold of that sum in a sandbox is worth. -/
noncomputable def Tryz.pinned : Pinned := { name := "ytpobepninifenaagreat", sum := "0f5d1f2a6ad6a901f82a32fb7e227a5ba620709813de05f5a01e4cba1e221869", checked := Tryz.checked }
namespace Rows
def none {H : Type} : Left H := { results := [], args := [] }

/-- 'refmeshlaw35.TracerCalls': WHATEVER THE INPUT: true; the input reads as it did. -/
def tracerCallsSpec : ChangeSpec := { name := "tracerCalls", fn := fun _ => fun
  | [d1, d2] => { results := [.lit (.bool true)], args := [d1, d2] }
  | _ => none }
def tracerCallsRow : OpenClaim := { program := "ytpobepninifenaagreat", sum := "0f5d1f2a6ad6a901f82a32fb7e227a5ba620709813de05f5a01e4cba1e221869", func := "refmesh/refmeshlaw35.TracerCalls", spec := "tracerCalls", unfollowed := true, recurses := true, plainKeys := false, apart := false }
def TracerCallsSaid : Prop := tracerCallsRow.holds Tryz.pinned (OpenSpec.ofChange tracerCallsSpec)

/-- ITS FALSE NEIGHBOUR: 'it returns false'. Refute it at one input. -/
def tracerCallsWrong : ChangeSpec := { name := "tracerCalls", fn := fun _ => fun
  | [d1, d2] => { results := [.lit (.bool false)], args := [d1, d2] }
  | _ => none }
def TracerCallsWrongFalsely : Prop := tracerCallsRow.holds Tryz.pinned (OpenSpec.ofChange tracerCallsWrong)

/-- 'refmeshlaw35.TracerStarts': WHATEVER THE INPUT: true; the input reads as it did. -/
def tracerStartsSpec : ChangeSpec := { name := "tracerStarts", fn := fun _ => fun
  | [d1, d2, d3] => { results := [.lit (.bool true)], args := [d1, d2, d3] }
  | _ => none }
def tracerStartsRow : OpenClaim := { program := "ytpobepninifenaagreat", sum := "0f5d1f2a6ad6a901f82a32fb7e227a5ba620709813de05f5a01e4cba1e221869", func := "refmesh/refmeshlaw35.TracerStarts", spec := "tracerStarts", unfollowed := true, recurses := true, plainKeys := false, apart := false }
def TracerStartsSaid : Prop := tracerStartsRow.holds Tryz.pinned (OpenSpec.ofChange tracerStartsSpec)

/-- ITS FALSE NEIGHBOUR: 'it returns false'. Refute it at one input. -/
def tracerStartsWrong : ChangeSpec := { name := "tracerStarts", fn := fun _ => fun
  | [d1, d2, d3] => { results := [.lit (.bool false)], args := [d1, d2, d3] }
  | _ => none }
def TracerStartsWrongFalsely : Prop := tracerStartsRow.holds Tryz.pinned (OpenSpec.ofChange tracerStartsWrong)

/-- 'refmeshlaw35.TracerFinishes': WHATEVER THE INPUT: true; the input reads as it did. -/
def tracerFinishesSpec : ChangeSpec := { name := "tracerFinishes", fn := fun _ => fun
  | [d1, d2, d3, d4] => { results := [.lit (.bool true)], args := [d1, d2, d3, d4] }
  | _ => none }
def tracerFinishesRow : OpenClaim := { program := "ytpobepninifenaagreat", sum := "0f5d1f2a6ad6a901f82a32fb7e227a5ba620709813de05f5a01e4cba1e221869", func := "refmesh/refmeshlaw35.TracerFinishes", spec := "tracerFinishes", unfollowed := true, recurses := true, plainKeys := false, apart := false }
def TracerFinishesSaid : Prop := tracerFinishesRow.holds Tryz.pinned (OpenSpec.ofChange tracerFinishesSpec)

/-- ITS FALSE NEIGHBOUR: 'it returns false'. Refute it at one input. -/
def tracerFinishesWrong : ChangeSpec := { name := "tracerFinishes", fn := fun _ => fun
  | [d1, d2, d3, d4] => { results := [.lit (.bool false)], args := [d1, d2, d3, d4] }
  | _ => none }
def TracerFinishesWrongFalsely : Prop := tracerFinishesRow.holds Tryz.pinned (OpenSpec.ofChange tracerFinishesWrong)

/-- 'refmeshlaw35.TracerCertificates': WHATEVER THE INPUT: true; the input reads as it did. -/
def tracerCertificatesSpec : ChangeSpec := { name := "tracerCertificates", fn := fun _ => fun
  | [d1, d2, d3] => { results := [.lit (.bool true)], args := [d1, d2, d3] }
  | _ => none }
def tracerCertificatesRow : OpenClaim := { program := "ytpobepninifenaagreat", sum := "0f5d1f2a6ad6a901f82a32fb7e227a5ba620709813de05f5a01e4cba1e221869", func := "refmesh/refmeshlaw35.TracerCertificates", spec := "tracerCertificates", unfollowed := true, recurses := true, plainKeys := false, apart := false }
def TracerCertificatesSaid : Prop := tracerCertificatesRow.holds Tryz.pinned (OpenSpec.ofChange tracerCertificatesSpec)

/-- ITS FALSE NEIGHBOUR: 'it returns false'. Refute it at one input. -/
def tracerCertificatesWrong : ChangeSpec := { name := "tracerCertificates", fn := fun _ => fun
  | [d1, d2, d3] => { results := [.lit (.bool false)], args := [d1, d2, d3] }
  | _ => none }
def TracerCertificatesWrongFalsely : Prop := tracerCertificatesRow.holds Tryz.pinned (OpenSpec.ofChange tracerCertificatesWrong)

/-- 'refmeshlaw35.TracerDecoding': WHATEVER THE INPUT: true; the input reads as it did. -/
def tracerDecodingSpec : ChangeSpec := { name := "tracerDecoding", fn := fun _ => fun
  | [d] => { results := [.lit (.bool true)], args := [d] }
  | _ => none }
def tracerDecodingRow : OpenClaim := { program := "ytpobepninifenaagreat", sum := "0f5d1f2a6ad6a901f82a32fb7e227a5ba620709813de05f5a01e4cba1e221869", func := "refmesh/refmeshlaw35.TracerDecoding", spec := "tracerDecoding", unfollowed := true, recurses := true, plainKeys := false, apart := false }
def TracerDecodingSaid : Prop := tracerDecodingRow.holds Tryz.pinned (OpenSpec.ofChange tracerDecodingSpec)

/-- ITS FALSE NEIGHBOUR: 'it returns false'. Refute it at one input. -/
def tracerDecodingWrong : ChangeSpec := { name := "tracerDecoding", fn := fun _ => fun
  | [d] => { results := [.lit (.bool false)], args := [d] }
  | _ => none }
def TracerDecodingWrongFalsely : Prop := tracerDecodingRow.holds Tryz.pinned (OpenSpec.ofChange tracerDecodingWrong)

/-- 'refmeshlaw35.TracerCodec': WHATEVER THE INPUT: true; the input reads as it did. -/
def tracerCodecSpec : ChangeSpec := { name := "tracerCodec", fn := fun _ => fun
  | [d1, d2, d3] => { results := [.lit (.bool true)], args := [d1, d2, d3] }
  | _ => none }
def tracerCodecRow : OpenClaim := { program := "ytpobepninifenaagreat", sum := "0f5d1f2a6ad6a901f82a32fb7e227a5ba620709813de05f5a01e4cba1e221869", func := "refmesh/refmeshlaw35.TracerCodec", spec := "tracerCodec", unfollowed := true, recurses := true, plainKeys := false, apart := false }
def TracerCodecSaid : Prop := tracerCodecRow.holds Tryz.pinned (OpenSpec.ofChange tracerCodecSpec)

/-- ITS FALSE NEIGHBOUR: 'it returns false'. Refute it at one input. -/
def tracerCodecWrong : ChangeSpec := { name := "tracerCodec", fn := fun _ => fun
  | [d1, d2, d3] => { results := [.lit (.bool false)], args := [d1, d2, d3] }
  | _ => none }
def TracerCodecWrongFalsely : Prop := tracerCodecRow.holds Tryz.pinned (OpenSpec.ofChange tracerCodecWrong)

/- THE SECOND FORM. 'bulk': how many values and letters a reading holds, each counted each time it is reached (what is shared counts as often as it is met; a slice's spare places count too). A statement '..UptoSaid' is the law's where the arguments, and the package variables that the reading takes, are together of bulk at most 1048576: NARROWER than '..Said'. Prove '..Said' where nothing that the law and all that it calls make is longer than what came in: it says more and counts as full. Else prove '..UptoSaid'. A law counts once. -/
mutual
def uptoBulk {H : Type} : DataW H → Nat
  | .lit (.string bytes) => bytes.length + 1
  | .lit _ => 1
  | .nil => 1
  | .ptr d => uptoBulk d + 1
  | .slice elems spare => uptoBulkAll elems + uptoBulkAll spare + 1
  | .agg parts => uptoBulkAll parts + 1
  | .iface _ d => uptoBulk d + 1
  | .map entries => uptoBulkEntries entries + 1
  | .held _ => 1
def uptoBulkAll {H : Type} : List (DataW H) → Nat
  | [] => 0
  | d :: r => uptoBulk d + uptoBulkAll r
def uptoBulkEntries {H : Type} : List (Lit × DataW H) → Nat
  | [] => 0
  | x :: r => uptoBulkEntry x + uptoBulkEntries r
def uptoBulkEntry {H : Type} : Lit × DataW H → Nat
  | (.string bytes, d) => bytes.length + uptoBulk d + 1
  | (_, d) => uptoBulk d + 1
 end
def uptoSmall : (H : Type) → List (DataW H) → Bool := fun _ ds => decide (uptoBulkAll ds ≤ 1048576)
def OpenSpec.upto (s : _root_.Go.ChangeSpec) : _root_.Go.OpenSpec := { _root_.Go.OpenSpec.ofChange s with cond := some uptoSmall }

/-- 'refmeshlaw35.TracerCalls', WHERE WHAT IT READS IS OF BULK AT MOST 1048576: true; the input reads as it did. -/
def tracerCallsUptoRow : OpenClaim := { program := "ytpobepninifenaagreat", sum := "0f5d1f2a6ad6a901f82a32fb7e227a5ba620709813de05f5a01e4cba1e221869", func := "refmesh/refmeshlaw35.TracerCalls", spec := "tracerCalls", unfollowed := true, recurses := true, plainKeys := false, apart := false, narrowed := true }
def TracerCallsUptoSaid : Prop := tracerCallsUptoRow.holds Tryz.pinned (OpenSpec.upto tracerCallsSpec)

/-- 'refmeshlaw35.TracerStarts', WHERE WHAT IT READS IS OF BULK AT MOST 1048576: true; the input reads as it did. -/
def tracerStartsUptoRow : OpenClaim := { program := "ytpobepninifenaagreat", sum := "0f5d1f2a6ad6a901f82a32fb7e227a5ba620709813de05f5a01e4cba1e221869", func := "refmesh/refmeshlaw35.TracerStarts", spec := "tracerStarts", unfollowed := true, recurses := true, plainKeys := false, apart := false, narrowed := true }
def TracerStartsUptoSaid : Prop := tracerStartsUptoRow.holds Tryz.pinned (OpenSpec.upto tracerStartsSpec)

/-- 'refmeshlaw35.TracerFinishes', WHERE WHAT IT READS IS OF BULK AT MOST 1048576: true; the input reads as it did. -/
def tracerFinishesUptoRow : OpenClaim := { program := "ytpobepninifenaagreat", sum := "0f5d1f2a6ad6a901f82a32fb7e227a5ba620709813de05f5a01e4cba1e221869", func := "refmesh/refmeshlaw35.TracerFinishes", spec := "tracerFinishes", unfollowed := true, recurses := true, plainKeys := false, apart := false, narrowed := true }
def TracerFinishesUptoSaid : Prop := tracerFinishesUptoRow.holds Tryz.pinned (OpenSpec.upto tracerFinishesSpec)

/-- 'refmeshlaw35.TracerCertificates', WHERE WHAT IT READS IS OF BULK AT MOST 1048576: true; the input reads as it did. -/
def tracerCertificatesUptoRow : OpenClaim := { program := "ytpobepninifenaagreat", sum := "0f5d1f2a6ad6a901f82a32fb7e227a5ba620709813de05f5a01e4cba1e221869", func := "refmesh/refmeshlaw35.TracerCertificates", spec := "tracerCertificates", unfollowed := true, recurses := true, plainKeys := false, apart := false, narrowed := true }
def TracerCertificatesUptoSaid : Prop := tracerCertificatesUptoRow.holds Tryz.pinned (OpenSpec.upto tracerCertificatesSpec)

/-- 'refmeshlaw35.TracerDecoding', WHERE WHAT IT READS IS OF BULK AT MOST 1048576: true; the input reads as it did. -/
def tracerDecodingUptoRow : OpenClaim := { program := "ytpobepninifenaagreat", sum := "0f5d1f2a6ad6a901f82a32fb7e227a5ba620709813de05f5a01e4cba1e221869", func := "refmesh/refmeshlaw35.TracerDecoding", spec := "tracerDecoding", unfollowed := true, recurses := true, plainKeys := false, apart := false, narrowed := true }
def TracerDecodingUptoSaid : Prop := tracerDecodingUptoRow.holds Tryz.pinned (OpenSpec.upto tracerDecodingSpec)

/-- 'refmeshlaw35.TracerCodec', WHERE WHAT IT READS IS OF BULK AT MOST 1048576: true; the input reads as it did. -/
def tracerCodecUptoRow : OpenClaim := { program := "ytpobepninifenaagreat", sum := "0f5d1f2a6ad6a901f82a32fb7e227a5ba620709813de05f5a01e4cba1e221869", func := "refmesh/refmeshlaw35.TracerCodec", spec := "tracerCodec", unfollowed := true, recurses := true, plainKeys := false, apart := false, narrowed := true }
def TracerCodecUptoSaid : Prop := tracerCodecUptoRow.holds Tryz.pinned (OpenSpec.upto tracerCodecSpec)

end Rows
end Go.Proofs.YtpobepninifenaaGreat
