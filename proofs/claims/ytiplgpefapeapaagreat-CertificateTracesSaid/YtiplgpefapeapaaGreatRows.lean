/-
  No cell of these rows narrows 'for every input' (looked for: loops, veiled, ifaces, maps, wideKeys, modest, calm, conditions, laid).
  DERIVED. THE GIVEN ROWS OF THIS SEAT. 3 by the template 'for every input the law returns true; each argument reads behind the call as it read before'; 0 by the template 'total and deterministic' (their statements: YtiplgpefapeapaaGreatTotals.lean).
  GIVEN WITH THE SEED: the statements are not yours to turn. If you find one false, say at which input.
  Laid BY PROGRAM, IN A SANDBOX (cutbox-rows.mjs): the forced cells as the released guide's own fill.sh prints them over the translation 6db3f99d79953258… (all of the seat's roots in one cut). By AI agents, Wed Nov 11 2026. No macro, syntax, notation, axiom, sorry.
-/
import Derived.Test.YtiplgpefapeapaaGreatChecked
import GoSem.Claim
import GoSem.ClaimJoined
import GoSem.ClaimMapViews
import Derived.JoinedTies
import Derived.KernelRfl
namespace Go.Proofs.YtiplgpefapeapaaGreat
/- THE CELL 'sum', in the pinned program and in every row, IS THE sha256 OF THE DUMP (.gsa) THAT YtiplgpefapeapaaGreatProg.lean LOADS. Nothing in Lean hashes anything: it is a label: what it is worth is what the hold of that sum in a sandbox is worth. -/
noncomputable def Tryz.pinned : Pinned := { name := "ytiplgpefapeapaagreat", sum := "6db3f99d799532589a044c0b2b8fbf3fd078f354987902f9ba733aa0a466dca5", checked := Tryz.checked }
namespace Rows
def none {H : Type} : Left H := { results := [], args := [] }

/-- 'refmeshlaw36.CertificateDecodes': WHATEVER THE INPUT: true; the input reads as it did. -/
def certificateDecodesSpec : ChangeSpec := { name := "certificateDecodes", fn := fun _ => fun
  | [d] => { results := [.lit (.bool true)], args := [d] }
  | _ => none }
def certificateDecodesRow : OpenClaim := { program := "ytiplgpefapeapaagreat", sum := "6db3f99d799532589a044c0b2b8fbf3fd078f354987902f9ba733aa0a466dca5", func := "refmesh/refmeshlaw36.CertificateDecodes", spec := "certificateDecodes", unfollowed := true, recurses := true, plainKeys := false, apart := false }
def CertificateDecodesSaid : Prop := certificateDecodesRow.holds Tryz.pinned (OpenSpec.ofChange certificateDecodesSpec)

/-- ITS FALSE NEIGHBOUR: 'it returns false'. Refute it at one input. -/
def certificateDecodesWrong : ChangeSpec := { name := "certificateDecodes", fn := fun _ => fun
  | [d] => { results := [.lit (.bool false)], args := [d] }
  | _ => none }
def CertificateDecodesWrongFalsely : Prop := certificateDecodesRow.holds Tryz.pinned (OpenSpec.ofChange certificateDecodesWrong)

/-- 'refmeshlaw36.CertificateEncoding': WHATEVER THE INPUT: true; the input reads as it did. -/
def certificateEncodingSpec : ChangeSpec := { name := "certificateEncoding", fn := fun _ => fun
  | [d] => { results := [.lit (.bool true)], args := [d] }
  | _ => none }
def certificateEncodingRow : OpenClaim := { program := "ytiplgpefapeapaagreat", sum := "6db3f99d799532589a044c0b2b8fbf3fd078f354987902f9ba733aa0a466dca5", func := "refmesh/refmeshlaw36.CertificateEncoding", spec := "certificateEncoding", unfollowed := true, recurses := true, plainKeys := false, apart := false }
def CertificateEncodingSaid : Prop := certificateEncodingRow.holds Tryz.pinned (OpenSpec.ofChange certificateEncodingSpec)

/-- ITS FALSE NEIGHBOUR: 'it returns false'. Refute it at one input. -/
def certificateEncodingWrong : ChangeSpec := { name := "certificateEncoding", fn := fun _ => fun
  | [d] => { results := [.lit (.bool false)], args := [d] }
  | _ => none }
def CertificateEncodingWrongFalsely : Prop := certificateEncodingRow.holds Tryz.pinned (OpenSpec.ofChange certificateEncodingWrong)

/-- 'refmeshlaw36.CertificateTraces': WHATEVER THE INPUT: true; the input reads as it did. -/
def certificateTracesSpec : ChangeSpec := { name := "certificateTraces", fn := fun _ => fun
  | [d1, d2, d3] => { results := [.lit (.bool true)], args := [d1, d2, d3] }
  | _ => none }
def certificateTracesRow : OpenClaim := { program := "ytiplgpefapeapaagreat", sum := "6db3f99d799532589a044c0b2b8fbf3fd078f354987902f9ba733aa0a466dca5", func := "refmesh/refmeshlaw36.CertificateTraces", spec := "certificateTraces", unfollowed := true, recurses := true, plainKeys := false, apart := false }
def CertificateTracesSaid : Prop := certificateTracesRow.holds Tryz.pinned (OpenSpec.ofChange certificateTracesSpec)

/-- ITS FALSE NEIGHBOUR: 'it returns false'. Refute it at one input. -/
def certificateTracesWrong : ChangeSpec := { name := "certificateTraces", fn := fun _ => fun
  | [d1, d2, d3] => { results := [.lit (.bool false)], args := [d1, d2, d3] }
  | _ => none }
def CertificateTracesWrongFalsely : Prop := certificateTracesRow.holds Tryz.pinned (OpenSpec.ofChange certificateTracesWrong)

/- THE SECOND FORM. 'bulk': how many values and letters a reading holds, each counted each time it is reached (what is shared counts as often as it is met; a slice's spare places count too). A statement '..UptoSaid' is the law's where the arguments, and the package variables that the reading takes, are together of bulk at most 1048576: NARROWER than '..Said'. Prove '..Said' where nothing that the law and all that it calls make is longer than what came in: it says more and counts as full. Else prove '..UptoSaid'. A law counts once. -/
mutual
def uptoBulk {H : Type} : DataW H → Nat
  | .lit (.string bytes) => bytes.length + 1
  | .lit _ => 1
  | .nil => 1
  | .ptr d => uptoBulk d + 1
  | .slice elems spare => uptoBulkAll elems + uptoBulkAll spare + 1
  | .agg parts => uptoBulkAll parts + 1
  | .iface _ d => uptoBulk d + 1
  | .map entries => uptoBulkEntries entries + 1
  | .held _ => 1
def uptoBulkAll {H : Type} : List (DataW H) → Nat
  | [] => 0
  | d :: r => uptoBulk d + uptoBulkAll r
def uptoBulkEntries {H : Type} : List (Lit × DataW H) → Nat
  | [] => 0
  | x :: r => uptoBulkEntry x + uptoBulkEntries r
def uptoBulkEntry {H : Type} : Lit × DataW H → Nat
  | (.string bytes, d) => bytes.length + uptoBulk d + 1
  | (_, d) => uptoBulk d + 1
 end
def uptoSmall : (H : Type) → List (DataW H) → Bool := fun _ ds => decide (uptoBulkAll ds ≤ 1048576)
def OpenSpec.upto (s : _root_.Go.ChangeSpec) : _root_.Go.OpenSpec := { _root_.Go.OpenSpec.ofChange s with cond := some uptoSmall }

/-- 'refmeshlaw36.CertificateDecodes', WHERE WHAT IT READS IS OF BULK AT MOST 1048576: true; the input reads as it did. -/
def certificateDecodesUptoRow : OpenClaim := { program := "ytiplgpefapeapaagreat", sum := "6db3f99d799532589a044c0b2b8fbf3fd078f354987902f9ba733aa0a466dca5", func := "refmesh/refmeshlaw36.CertificateDecodes", spec := "certificateDecodes", unfollowed := true, recurses := true, plainKeys := false, apart := false, narrowed := true }
def CertificateDecodesUptoSaid : Prop := certificateDecodesUptoRow.holds Tryz.pinned (OpenSpec.upto certificateDecodesSpec)

/-- 'refmeshlaw36.CertificateEncoding', WHERE WHAT IT READS IS OF BULK AT MOST 1048576: true; the input reads as it did. -/
def certificateEncodingUptoRow : OpenClaim := { program := "ytiplgpefapeapaagreat", sum := "6db3f99d799532589a044c0b2b8fbf3fd078f354987902f9ba733aa0a466dca5", func := "refmesh/refmeshlaw36.CertificateEncoding", spec := "certificateEncoding", unfollowed := true, recurses := true, plainKeys := false, apart := false, narrowed := true }
def CertificateEncodingUptoSaid : Prop := certificateEncodingUptoRow.holds Tryz.pinned (OpenSpec.upto certificateEncodingSpec)

/-- 'refmeshlaw36.CertificateTraces', WHERE WHAT IT READS IS OF BULK AT MOST 1048576: true; the input reads as it did. -/
def certificateTracesUptoRow : OpenClaim := { program := "ytiplgpefapeapaagreat", sum := "6db3f99d799532589a044c0b2b8fbf3fd078f354987902f9ba733aa0a466dca5", func := "refmesh/refmeshlaw36.CertificateTraces", spec := "certificateTraces", unfollowed := true, recurses := true, plainKeys := false, apart := false, narrowed := true }
def CertificateTracesUptoSaid : Prop := certificateTracesUptoRow.holds Tryz.pinned (OpenSpec.upto certificateTracesSpec)

end Rows
end Go.Proofs.YtiplgpefapeapaaGreat
