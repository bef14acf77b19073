/-
  No cell of these rows narrows 'for every input' (looked for: loops, veiled, ifaces, maps, wideKeys, modest, calm, conditions, laid).
  DERIVED. THE GIVEN ROWS OF THIS SEAT. 3 by the template 'for every input the law returns true; each argument reads behind the call as it read before'; 0 by the template 'total and deterministic' (their statements: YtblaaafpglomnaaGreatTotals.lean).
  GIVEN WITH THE SEED: the statements are not yours to turn. If you find one false, say at which input.
  Laid BY PROGRAM, IN A SANDBOX (cutbox-rows.mjs): the forced cells as the released guide's own fill.sh prints them over the translation 2c98443ac8703b2b… (all of the seat's roots in one cut). By AI agents, Wed Nov 11 2026. No macro, syntax, notation, axiom, sorry.
-/
import Derived.Test.YtblaaafpglomnaaGreatChecked
import GoSem.Claim
import GoSem.ClaimJoined
import GoSem.ClaimMapViews
import Derived.JoinedTies
import Derived.KernelRfl
namespace Go.Proofs.YtblaaafpglomnaaGreat
/- THE CELL 'sum', in the pinned program and in every row, IS THE sha256 OF THE DUMP (.gsa) THAT YtblaaafpglomnaaGreatProg.lean LOADS. Nothing in Lean hashes anything: it is a label: what it is worth is what the hold of that sum in a sandbox is worth. -/
noncomputable def Tryz.pinned : Pinned := { name := "ytblaaafpglomnaagreat", sum := "2c98443ac8703b2b49b0749c2ad7f8bb9feee9a0da8fa82466761e834d8a4673", checked := Tryz.checked }
namespace Rows
def none {H : Type} : Left H := { results := [], args := [] }

/-- 'refmeshlaw24.ScionsDecodes': WHATEVER THE INPUT: true; the input reads as it did. -/
def scionsDecodesSpec : ChangeSpec := { name := "scionsDecodes", fn := fun _ => fun
  | [d] => { results := [.lit (.bool true)], args := [d] }
  | _ => none }
def scionsDecodesRow : OpenClaim := { program := "ytblaaafpglomnaagreat", sum := "2c98443ac8703b2b49b0749c2ad7f8bb9feee9a0da8fa82466761e834d8a4673", func := "refmesh/refmeshlaw24.ScionsDecodes", spec := "scionsDecodes", unfollowed := true, recurses := true, plainKeys := false, apart := false }
def ScionsDecodesSaid : Prop := scionsDecodesRow.holds Tryz.pinned (OpenSpec.ofChange scionsDecodesSpec)

/-- ITS FALSE NEIGHBOUR: 'it returns false'. Refute it at one input. -/
def scionsDecodesWrong : ChangeSpec := { name := "scionsDecodes", fn := fun _ => fun
  | [d] => { results := [.lit (.bool false)], args := [d] }
  | _ => none }
def ScionsDecodesWrongFalsely : Prop := scionsDecodesRow.holds Tryz.pinned (OpenSpec.ofChange scionsDecodesWrong)

/-- 'refmeshlaw24.ScionsEncoding': WHATEVER THE INPUT: true; the input reads as it did. -/
def scionsEncodingSpec : ChangeSpec := { name := "scionsEncoding", fn := fun _ => fun
  | [d] => { results := [.lit (.bool true)], args := [d] }
  | _ => none }
def scionsEncodingRow : OpenClaim := { program := "ytblaaafpglomnaagreat", sum := "2c98443ac8703b2b49b0749c2ad7f8bb9feee9a0da8fa82466761e834d8a4673", func := "refmesh/refmeshlaw24.ScionsEncoding", spec := "scionsEncoding", unfollowed := true, recurses := true, plainKeys := false, apart := false }
def ScionsEncodingSaid : Prop := scionsEncodingRow.holds Tryz.pinned (OpenSpec.ofChange scionsEncodingSpec)

/-- ITS FALSE NEIGHBOUR: 'it returns false'. Refute it at one input. -/
def scionsEncodingWrong : ChangeSpec := { name := "scionsEncoding", fn := fun _ => fun
  | [d] => { results := [.lit (.bool false)], args := [d] }
  | _ => none }
def ScionsEncodingWrongFalsely : Prop := scionsEncodingRow.holds Tryz.pinned (OpenSpec.ofChange scionsEncodingWrong)

/-- 'refmeshlaw24.ScionsCalls': WHATEVER THE INPUT: true; the input reads as it did. -/
def scionsCallsSpec : ChangeSpec := { name := "scionsCalls", fn := fun _ => fun
  | [d] => { results := [.lit (.bool true)], args := [d] }
  | _ => none }
def scionsCallsRow : OpenClaim := { program := "ytblaaafpglomnaagreat", sum := "2c98443ac8703b2b49b0749c2ad7f8bb9feee9a0da8fa82466761e834d8a4673", func := "refmesh/refmeshlaw24.ScionsCalls", spec := "scionsCalls", unfollowed := true, recurses := true, plainKeys := false, apart := false }
def ScionsCallsSaid : Prop := scionsCallsRow.holds Tryz.pinned (OpenSpec.ofChange scionsCallsSpec)

/-- ITS FALSE NEIGHBOUR: 'it returns false'. Refute it at one input. -/
def scionsCallsWrong : ChangeSpec := { name := "scionsCalls", fn := fun _ => fun
  | [d] => { results := [.lit (.bool false)], args := [d] }
  | _ => none }
def ScionsCallsWrongFalsely : Prop := scionsCallsRow.holds Tryz.pinned (OpenSpec.ofChange scionsCallsWrong)

/- THE SECOND FORM. 'bulk': how many values and letters a reading holds, each counted each time it is reached (what is shared counts as often as it is met; a slice's spare places count too). A statement '..UptoSaid' is the law's where the arguments, and the package variables that the reading takes, are together of bulk at most 1048576: NARROWER than '..Said'. Prove '..Said' where nothing that the law and all that it calls make is longer than what came in: it says more and counts as full. Else prove '..UptoSaid'. A law counts once. -/
mutual
def uptoBulk {H : Type} : DataW H → Nat
  | .lit (.string bytes) => bytes.length + 1
  | .lit _ => 1
  | .nil => 1
  | .ptr d => uptoBulk d + 1
  | .slice elems spare => uptoBulkAll elems + uptoBulkAll spare + 1
  | .agg parts => uptoBulkAll parts + 1
  | .iface _ d => uptoBulk d + 1
  | .map entries => uptoBulkEntries entries + 1
  | .held _ => 1
def uptoBulkAll {H : Type} : List (DataW H) → Nat
  | [] => 0
  | d :: r => uptoBulk d + uptoBulkAll r
def uptoBulkEntries {H : Type} : List (Lit × DataW H) → Nat
  | [] => 0
  | x :: r => uptoBulkEntry x + uptoBulkEntries r
def uptoBulkEntry {H : Type} : Lit × DataW H → Nat
  | (.string bytes, d) => bytes.length + uptoBulk d + 1
  | (_, d) => uptoBulk d + 1
 end
def uptoSmall : (H : Type) → List (DataW H) → Bool := fun _ ds => decide (uptoBulkAll ds ≤ 1048576)
def OpenSpec.upto (s : _root_.Go.ChangeSpec) : _root_.Go.OpenSpec := { _root_.Go.OpenSpec.ofChange s with cond := some uptoSmall }

/-- 'refmeshlaw24.ScionsDecodes', WHERE WHAT IT READS IS OF BULK AT MOST 1048576: true; the input reads as it did. -/
def scionsDecodesUptoRow : OpenClaim := { program := "ytblaaafpglomnaagreat", sum := "2c98443ac8703b2b49b0749c2ad7f8bb9feee9a0da8fa82466761e834d8a4673", func := "refmesh/refmeshlaw24.ScionsDecodes", spec := "scionsDecodes", unfollowed := true, recurses := true, plainKeys := false, apart := false, narrowed := true }
def ScionsDecodesUptoSaid : Prop := scionsDecodesUptoRow.holds Tryz.pinned (OpenSpec.upto scionsDecodesSpec)

/-- 'refmeshlaw24.ScionsEncoding', WHERE WHAT IT READS IS OF BULK AT MOST 1048576: true; the input reads as it did. -/
def scionsEncodingUptoRow : OpenClaim := { program := "ytblaaafpglomnaagreat", sum := "2c98443ac8703b2b49b0749c2ad7f8bb9feee9a0da8fa82466761e834d8a4673", func := "refmesh/refmeshlaw24.ScionsEncoding", spec := "scionsEncoding", unfollowed := true, recurses := true, plainKeys := false, apart := false, narrowed := true }
def ScionsEncodingUptoSaid : Prop := scionsEncodingUptoRow.holds Tryz.pinned (OpenSpec.upto scionsEncodingSpec)

/-- 'refmeshlaw24.ScionsCalls', WHERE WHAT IT READS IS OF BULK AT MOST 1048576: true; the input reads as it did. -/
def scionsCallsUptoRow : OpenClaim := { program := "ytblaaafpglomnaagreat", sum := "2c98443ac8703b2b49b0749c2ad7f8bb9feee9a0da8fa82466761e834d8a4673", func := "refmesh/refmeshlaw24.ScionsCalls", spec := "scionsCalls", unfollowed := true, recurses := true, plainKeys := false, apart := false, narrowed := true }
def ScionsCallsUptoSaid : Prop := scionsCallsUptoRow.holds Tryz.pinned (OpenSpec.upto scionsCallsSpec)

end Rows
end Go.Proofs.YtblaaafpglomnaaGreat
