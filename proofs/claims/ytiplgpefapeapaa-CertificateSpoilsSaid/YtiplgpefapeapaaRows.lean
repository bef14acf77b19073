/-
  No cell of these rows narrows 'for every input' (looked for: loops, veiled, ifaces, maps, wideKeys, modest, calm, conditions, laid).
  DERIVED. THE GIVEN ROWS OF THIS SEAT. 3 by the template 'for every input the law returns true; each argument reads behind the call as it read before'; 0 by the template 'total and deterministic' (their statements: YtiplgpefapeapaaTotals.lean).
  GIVEN WITH THE SEED: the statements are not yours to turn. If you find one false, say at which input.
  Laid BY PROGRAM, IN A SANDBOX (cutbox-rows.mjs): the forced cells as the released guide's own fill.sh prints them over the translation 05dcb34d96cf2ad0… (all of the seat's roots in one cut). By AI agents, Wed Nov 11 2026. No macro, syntax, notation, axiom, sorry.
-/
import Derived.Test.YtiplgpefapeapaaChecked
import GoSem.Claim
import GoSem.ClaimJoined
import GoSem.ClaimMapViews
import Derived.JoinedTies
import Derived.KernelRfl
namespace Go.Proofs.Ytiplgpefapeapaa
/- THE CELL 'sum', in the pinned program and in every row, IS THE sha256 OF THE DUMP (.gsa) THAT YtiplgpefapeapaaProg.lean LOADS. Nothing in Lean hashes anything: it is a label: what it is worth is what the hold of that sum in a sandbox is worth. -/
noncomputable def Try.pinned : Pinned := { name := "ytiplgpefapeapaa", sum := "05dcb34d96cf2ad02146ad904f37551d6cdd00b4326d814816ea9232af59bfe0", checked := Try.checked }
namespace Rows
def none {H : Type} : Left H := { results := [], args := [] }

/-- 'refmeshlaw36.CertificateChecks': WHATEVER THE INPUT: true; the input reads as it did. -/
def certificateChecksSpec : ChangeSpec := { name := "certificateChecks", fn := fun _ => fun
  | [d] => { results := [.lit (.bool true)], args := [d] }
  | _ => none }
def certificateChecksRow : OpenClaim := { program := "ytiplgpefapeapaa", sum := "05dcb34d96cf2ad02146ad904f37551d6cdd00b4326d814816ea9232af59bfe0", func := "refmesh/refmeshlaw36.CertificateChecks", spec := "certificateChecks", unfollowed := true, recurses := true, plainKeys := false, apart := false }
def CertificateChecksSaid : Prop := certificateChecksRow.holds Try.pinned (OpenSpec.ofChange certificateChecksSpec)

/-- ITS FALSE NEIGHBOUR: 'it returns false'. Refute it at one input. -/
def certificateChecksWrong : ChangeSpec := { name := "certificateChecks", fn := fun _ => fun
  | [d] => { results := [.lit (.bool false)], args := [d] }
  | _ => none }
def CertificateChecksWrongFalsely : Prop := certificateChecksRow.holds Try.pinned (OpenSpec.ofChange certificateChecksWrong)

/-- 'refmeshlaw36.CertificateClosed': WHATEVER THE INPUT: true; the input reads as it did. -/
def certificateClosedSpec : ChangeSpec := { name := "certificateClosed", fn := fun _ => fun
  | [d] => { results := [.lit (.bool true)], args := [d] }
  | _ => none }
def certificateClosedRow : OpenClaim := { program := "ytiplgpefapeapaa", sum := "05dcb34d96cf2ad02146ad904f37551d6cdd00b4326d814816ea9232af59bfe0", func := "refmesh/refmeshlaw36.CertificateClosed", spec := "certificateClosed", unfollowed := true, recurses := true, plainKeys := false, apart := false }
def CertificateClosedSaid : Prop := certificateClosedRow.holds Try.pinned (OpenSpec.ofChange certificateClosedSpec)

/-- ITS FALSE NEIGHBOUR: 'it returns false'. Refute it at one input. -/
def certificateClosedWrong : ChangeSpec := { name := "certificateClosed", fn := fun _ => fun
  | [d] => { results := [.lit (.bool false)], args := [d] }
  | _ => none }
def CertificateClosedWrongFalsely : Prop := certificateClosedRow.holds Try.pinned (OpenSpec.ofChange certificateClosedWrong)

/-- 'refmeshlaw36.CertificateSpoils': WHATEVER THE INPUT: true; the input reads as it did. -/
def certificateSpoilsSpec : ChangeSpec := { name := "certificateSpoils", fn := fun _ => fun
  | [d1, d2, d3] => { results := [.lit (.bool true)], args := [d1, d2, d3] }
  | _ => none }
def certificateSpoilsRow : OpenClaim := { program := "ytiplgpefapeapaa", sum := "05dcb34d96cf2ad02146ad904f37551d6cdd00b4326d814816ea9232af59bfe0", func := "refmesh/refmeshlaw36.CertificateSpoils", spec := "certificateSpoils", unfollowed := true, recurses := true, plainKeys := false, apart := false }
def CertificateSpoilsSaid : Prop := certificateSpoilsRow.holds Try.pinned (OpenSpec.ofChange certificateSpoilsSpec)

/-- ITS FALSE NEIGHBOUR: 'it returns false'. Refute it at one input. -/
def certificateSpoilsWrong : ChangeSpec := { name := "certificateSpoils", fn := fun _ => fun
  | [d1, d2, d3] => { results := [.lit (.bool false)], args := [d1, d2, d3] }
  | _ => none }
def CertificateSpoilsWrongFalsely : Prop := certificateSpoilsRow.holds Try.pinned (OpenSpec.ofChange certificateSpoilsWrong)

/- THE SECOND FORM. 'bulk': how many values and letters a reading holds, each counted each time it is reached (what is shared counts as often as it is met; a slice's spare places count too). A statement '..UptoSaid' is the law's where the arguments, and the package variables that the reading takes, are together of bulk at most 1048576: NARROWER than '..Said'. Prove '..Said' where nothing that the law and all that it calls make is longer than what came in: it says more and counts as full. Else prove '..UptoSaid'. A law counts once. -/
mutual
def uptoBulk {H : Type} : DataW H → Nat
  | .lit (.string bytes) => bytes.length + 1
  | .lit _ => 1
  | .nil => 1
  | .ptr d => uptoBulk d + 1
  | .slice elems spare => uptoBulkAll elems + uptoBulkAll spare + 1
  | .agg parts => uptoBulkAll parts + 1
  | .iface _ d => uptoBulk d + 1
  | .map entries => uptoBulkEntries entries + 1
  | .held _ => 1
def uptoBulkAll {H : Type} : List (DataW H) → Nat
  | [] => 0
  | d :: r => uptoBulk d + uptoBulkAll r
def uptoBulkEntries {H : Type} : List (Lit × DataW H) → Nat
  | [] => 0
  | x :: r => uptoBulkEntry x + uptoBulkEntries r
def uptoBulkEntry {H : Type} : Lit × DataW H → Nat
  | (.string bytes, d) => bytes.length + uptoBulk d + 1
  | (_, d) => uptoBulk d + 1
 end
def uptoSmall : (H : Type) → List (DataW H) → Bool := fun _ ds => decide (uptoBulkAll ds ≤ 1048576)
def OpenSpec.upto (s : _root_.Go.ChangeSpec) : _root_.Go.OpenSpec := { _root_.Go.OpenSpec.ofChange s with cond := some uptoSmall }

/-- 'refmeshlaw36.CertificateChecks', WHERE WHAT IT READS IS OF BULK AT MOST 1048576: true; the input reads as it did. -/
def certificateChecksUptoRow : OpenClaim := { program := "ytiplgpefapeapaa", sum := "05dcb34d96cf2ad02146ad904f37551d6cdd00b4326d814816ea9232af59bfe0", func := "refmesh/refmeshlaw36.CertificateChecks", spec := "certificateChecks", unfollowed := true, recurses := true, plainKeys := false, apart := false, narrowed := true }
def CertificateChecksUptoSaid : Prop := certificateChecksUptoRow.holds Try.pinned (OpenSpec.upto certificateChecksSpec)

/-- 'refmeshlaw36.CertificateClosed', WHERE WHAT IT READS IS OF BULK AT MOST 1048576: true; the input reads as it did. -/
def certificateClosedUptoRow : OpenClaim := { program := "ytiplgpefapeapaa", sum := "05dcb34d96cf2ad02146ad904f37551d6cdd00b4326d814816ea9232af59bfe0", func := "refmesh/refmeshlaw36.CertificateClosed", spec := "certificateClosed", unfollowed := true, recurses := true, plainKeys := false, apart := false, narrowed := true }
def CertificateClosedUptoSaid : Prop := certificateClosedUptoRow.holds Try.pinned (OpenSpec.upto certificateClosedSpec)

/-- 'refmeshlaw36.CertificateSpoils', WHERE WHAT IT READS IS OF BULK AT MOST 1048576: true; the input reads as it did. -/
def certificateSpoilsUptoRow : OpenClaim := { program := "ytiplgpefapeapaa", sum := "05dcb34d96cf2ad02146ad904f37551d6cdd00b4326d814816ea9232af59bfe0", func := "refmesh/refmeshlaw36.CertificateSpoils", spec := "certificateSpoils", unfollowed := true, recurses := true, plainKeys := false, apart := false, narrowed := true }
def CertificateSpoilsUptoSaid : Prop := certificateSpoilsUptoRow.holds Try.pinned (OpenSpec.upto certificateSpoilsSpec)

end Rows
end Go.Proofs.Ytiplgpefapeapaa
