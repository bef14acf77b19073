/-
  No cell of these rows narrows 'for every input' (looked for: loops, veiled, ifaces, maps, wideKeys, modest, calm, conditions, laid).
  DERIVED. THE GIVEN ROWS OF THIS SEAT. 7 by the template 'for every input the law returns true; each argument reads behind the call as it read before'; 0 by the template 'total and deterministic' (their statements: YthhhciofcmmnfaaTotals.lean).
  GIVEN WITH THE SEED: the statements are not yours to turn. If you find one false, say at which input.
  Laid BY PROGRAM, IN A SANDBOX (cutbox-rows.mjs): the forced cells as the released guide's own fill.sh prints them over the translation fae6a6ee97cebd9e… (all of the seat's roots in one cut). By AI agents, Wed Nov 11 2026. No macro, syntax, notation, axiom, sorry.
-/
import Derived.Test.YthhhciofcmmnfaaChecked
import GoSem.Claim
import GoSem.ClaimJoined
import GoSem.ClaimMapViews
import Derived.JoinedTies
import Derived.KernelRfl
namespace Go.Proofs.Ythhhciofcmmnfaa
/- THE CELL 'sum', in the pinned program and in every row, IS THE sha256 OF THE DUMP (.gsa) THAT YthhhciofcmmnfaaProg.lean LOADS. Nothing in Lean hashes anything: it is a label: what it is worth is what the hold of that sum in a sandbox is worth. -/
noncomputable def Try.pinned : Pinned := { name := "ythhhciofcmmnfaa", sum := "fae6a6ee97cebd9e6411143d7d2758342e29c21334741b736de6132168721c64", checked := Try.checked }
namespace Rows
def none {H : Type} : Left H := { results := [], args := [] }

/-- 'refmeshlaw28.MigrationCalls': WHATEVER THE INPUT: true; the input reads as it did. -/
def migrationCallsSpec : ChangeSpec := { name := "migrationCalls", fn := fun _ => fun
  | [d1, d2] => { results := [.lit (.bool true)], args := [d1, d2] }
  | _ => none }
def migrationCallsRow : OpenClaim := { program := "ythhhciofcmmnfaa", sum := "fae6a6ee97cebd9e6411143d7d2758342e29c21334741b736de6132168721c64", func := "refmesh/refmeshlaw28.MigrationCalls", spec := "migrationCalls", inPlace := ["maps.clone"], unfollowed := true, recurses := true, plainKeys := false, apart := false }
def MigrationCallsSaid : Prop := migrationCallsRow.holds Try.pinned (OpenSpec.ofChange migrationCallsSpec)

/-- ITS FALSE NEIGHBOUR: 'it returns false'. Refute it at one input. -/
def migrationCallsWrong : ChangeSpec := { name := "migrationCalls", fn := fun _ => fun
  | [d1, d2] => { results := [.lit (.bool false)], args := [d1, d2] }
  | _ => none }
def MigrationCallsWrongFalsely : Prop := migrationCallsRow.holds Try.pinned (OpenSpec.ofChange migrationCallsWrong)

/-- 'refmeshlaw28.MigrationChains': WHATEVER THE INPUT: true; the input reads as it did. -/
def migrationChainsSpec : ChangeSpec := { name := "migrationChains", fn := fun _ => fun
  | [d1, d2] => { results := [.lit (.bool true)], args := [d1, d2] }
  | _ => none }
def migrationChainsRow : OpenClaim := { program := "ythhhciofcmmnfaa", sum := "fae6a6ee97cebd9e6411143d7d2758342e29c21334741b736de6132168721c64", func := "refmesh/refmeshlaw28.MigrationChains", spec := "migrationChains", inPlace := ["maps.clone"], unfollowed := true, recurses := true, plainKeys := false, apart := false }
def MigrationChainsSaid : Prop := migrationChainsRow.holds Try.pinned (OpenSpec.ofChange migrationChainsSpec)

/-- ITS FALSE NEIGHBOUR: 'it returns false'. Refute it at one input. -/
def migrationChainsWrong : ChangeSpec := { name := "migrationChains", fn := fun _ => fun
  | [d1, d2] => { results := [.lit (.bool false)], args := [d1, d2] }
  | _ => none }
def MigrationChainsWrongFalsely : Prop := migrationChainsRow.holds Try.pinned (OpenSpec.ofChange migrationChainsWrong)

/-- 'refmeshlaw28.MigrationLocates': WHATEVER THE INPUT: true; the input reads as it did. -/
def migrationLocatesSpec : ChangeSpec := { name := "migrationLocates", fn := fun _ => fun
  | [d1, d2, d3, d4] => { results := [.lit (.bool true)], args := [d1, d2, d3, d4] }
  | _ => none }
def migrationLocatesRow : OpenClaim := { program := "ythhhciofcmmnfaa", sum := "fae6a6ee97cebd9e6411143d7d2758342e29c21334741b736de6132168721c64", func := "refmesh/refmeshlaw28.MigrationLocates", spec := "migrationLocates", inPlace := ["maps.clone"], unfollowed := true, recurses := true, plainKeys := false, apart := false }
def MigrationLocatesSaid : Prop := migrationLocatesRow.holds Try.pinned (OpenSpec.ofChange migrationLocatesSpec)

/-- ITS FALSE NEIGHBOUR: 'it returns false'. Refute it at one input. -/
def migrationLocatesWrong : ChangeSpec := { name := "migrationLocates", fn := fun _ => fun
  | [d1, d2, d3, d4] => { results := [.lit (.bool false)], args := [d1, d2, d3, d4] }
  | _ => none }
def MigrationLocatesWrongFalsely : Prop := migrationLocatesRow.holds Try.pinned (OpenSpec.ofChange migrationLocatesWrong)

/-- 'refmeshlaw28.MigrationMoves': WHATEVER THE INPUT: true; the input reads as it did. -/
def migrationMovesSpec : ChangeSpec := { name := "migrationMoves", fn := fun _ => fun
  | [d1, d2, d3, d4, d5] => { results := [.lit (.bool true)], args := [d1, d2, d3, d4, d5] }
  | _ => none }
def migrationMovesRow : OpenClaim := { program := "ythhhciofcmmnfaa", sum := "fae6a6ee97cebd9e6411143d7d2758342e29c21334741b736de6132168721c64", func := "refmesh/refmeshlaw28.MigrationMoves", spec := "migrationMoves", inPlace := ["maps.clone"], unfollowed := true, recurses := true, plainKeys := false, apart := false }
def MigrationMovesSaid : Prop := migrationMovesRow.holds Try.pinned (OpenSpec.ofChange migrationMovesSpec)

/-- ITS FALSE NEIGHBOUR: 'it returns false'. Refute it at one input. -/
def migrationMovesWrong : ChangeSpec := { name := "migrationMoves", fn := fun _ => fun
  | [d1, d2, d3, d4, d5] => { results := [.lit (.bool false)], args := [d1, d2, d3, d4, d5] }
  | _ => none }
def MigrationMovesWrongFalsely : Prop := migrationMovesRow.holds Try.pinned (OpenSpec.ofChange migrationMovesWrong)

/-- 'refmeshlaw28.MigrationDrops': WHATEVER THE INPUT: true; the input reads as it did. -/
def migrationDropsSpec : ChangeSpec := { name := "migrationDrops", fn := fun _ => fun
  | [d1, d2, d3, d4] => { results := [.lit (.bool true)], args := [d1, d2, d3, d4] }
  | _ => none }
def migrationDropsRow : OpenClaim := { program := "ythhhciofcmmnfaa", sum := "fae6a6ee97cebd9e6411143d7d2758342e29c21334741b736de6132168721c64", func := "refmesh/refmeshlaw28.MigrationDrops", spec := "migrationDrops", inPlace := ["maps.clone"], unfollowed := true, recurses := true, plainKeys := false, apart := false }
def MigrationDropsSaid : Prop := migrationDropsRow.holds Try.pinned (OpenSpec.ofChange migrationDropsSpec)

/-- ITS FALSE NEIGHBOUR: 'it returns false'. Refute it at one input. -/
def migrationDropsWrong : ChangeSpec := { name := "migrationDrops", fn := fun _ => fun
  | [d1, d2, d3, d4] => { results := [.lit (.bool false)], args := [d1, d2, d3, d4] }
  | _ => none }
def MigrationDropsWrongFalsely : Prop := migrationDropsRow.holds Try.pinned (OpenSpec.ofChange migrationDropsWrong)

/-- 'refmeshlaw28.MigrationIndependent': WHATEVER THE INPUT: true; the input reads as it did. -/
def migrationIndependentSpec : ChangeSpec := { name := "migrationIndependent", fn := fun _ => fun
  | [d1, d2, d3, d4] => { results := [.lit (.bool true)], args := [d1, d2, d3, d4] }
  | _ => none }
def migrationIndependentRow : OpenClaim := { program := "ythhhciofcmmnfaa", sum := "fae6a6ee97cebd9e6411143d7d2758342e29c21334741b736de6132168721c64", func := "refmesh/refmeshlaw28.MigrationIndependent", spec := "migrationIndependent", inPlace := ["maps.clone"], unfollowed := true, recurses := true, plainKeys := false, apart := false }
def MigrationIndependentSaid : Prop := migrationIndependentRow.holds Try.pinned (OpenSpec.ofChange migrationIndependentSpec)

/-- ITS FALSE NEIGHBOUR: 'it returns false'. Refute it at one input. -/
def migrationIndependentWrong : ChangeSpec := { name := "migrationIndependent", fn := fun _ => fun
  | [d1, d2, d3, d4] => { results := [.lit (.bool false)], args := [d1, d2, d3, d4] }
  | _ => none }
def MigrationIndependentWrongFalsely : Prop := migrationIndependentRow.holds Try.pinned (OpenSpec.ofChange migrationIndependentWrong)

/-- 'refmeshlaw28.MigrationReturns': WHATEVER THE INPUT: true; the input reads as it did. -/
def migrationReturnsSpec : ChangeSpec := { name := "migrationReturns", fn := fun _ => fun
  | [d1, d2, d3, d4] => { results := [.lit (.bool true)], args := [d1, d2, d3, d4] }
  | _ => none }
def migrationReturnsRow : OpenClaim := { program := "ythhhciofcmmnfaa", sum := "fae6a6ee97cebd9e6411143d7d2758342e29c21334741b736de6132168721c64", func := "refmesh/refmeshlaw28.MigrationReturns", spec := "migrationReturns", inPlace := ["maps.clone"], unfollowed := true, recurses := true, plainKeys := false, apart := false }
def MigrationReturnsSaid : Prop := migrationReturnsRow.holds Try.pinned (OpenSpec.ofChange migrationReturnsSpec)

/-- ITS FALSE NEIGHBOUR: 'it returns false'. Refute it at one input. -/
def migrationReturnsWrong : ChangeSpec := { name := "migrationReturns", fn := fun _ => fun
  | [d1, d2, d3, d4] => { results := [.lit (.bool false)], args := [d1, d2, d3, d4] }
  | _ => none }
def MigrationReturnsWrongFalsely : Prop := migrationReturnsRow.holds Try.pinned (OpenSpec.ofChange migrationReturnsWrong)

/- THE SECOND FORM. 'bulk': how many values and letters a reading holds, each counted each time it is reached (what is shared counts as often as it is met; a slice's spare places count too). A statement '..UptoSaid' is the law's where the arguments, and the package variables that the reading takes, are together of bulk at most 1048576: NARROWER than '..Said'. Prove '..Said' where nothing that the law and all that it calls make is longer than what came in: it says more and counts as full. Else prove '..UptoSaid'. A law counts once. -/
mutual
def uptoBulk {H : Type} : DataW H → Nat
  | .lit (.string bytes) => bytes.length + 1
  | .lit _ => 1
  | .nil => 1
  | .ptr d => uptoBulk d + 1
  | .slice elems spare => uptoBulkAll elems + uptoBulkAll spare + 1
  | .agg parts => uptoBulkAll parts + 1
  | .iface _ d => uptoBulk d + 1
  | .map entries => uptoBulkEntries entries + 1
  | .held _ => 1
def uptoBulkAll {H : Type} : List (DataW H) → Nat
  | [] => 0
  | d :: r => uptoBulk d + uptoBulkAll r
def uptoBulkEntries {H : Type} : List (Lit × DataW H) → Nat
  | [] => 0
  | x :: r => uptoBulkEntry x + uptoBulkEntries r
def uptoBulkEntry {H : Type} : Lit × DataW H → Nat
  | (.string bytes, d) => bytes.length + uptoBulk d + 1
  | (_, d) => uptoBulk d + 1
 end
def uptoSmall : (H : Type) → List (DataW H) → Bool := fun _ ds => decide (uptoBulkAll ds ≤ 1048576)
def OpenSpec.upto (s : _root_.Go.ChangeSpec) : _root_.Go.OpenSpec := { _root_.Go.OpenSpec.ofChange s with cond := some uptoSmall }

/-- 'refmeshlaw28.MigrationCalls', WHERE WHAT IT READS IS OF BULK AT MOST 1048576: true; the input reads as it did. -/
def migrationCallsUptoRow : OpenClaim := { program := "ythhhciofcmmnfaa", sum := "fae6a6ee97cebd9e6411143d7d2758342e29c21334741b736de6132168721c64", func := "refmesh/refmeshlaw28.MigrationCalls", spec := "migrationCalls", inPlace := ["maps.clone"], unfollowed := true, recurses := true, plainKeys := false, apart := false, narrowed := true }
def MigrationCallsUptoSaid : Prop := migrationCallsUptoRow.holds Try.pinned (OpenSpec.upto migrationCallsSpec)

/-- 'refmeshlaw28.MigrationChains', WHERE WHAT IT READS IS OF BULK AT MOST 1048576: true; the input reads as it did. -/
def migrationChainsUptoRow : OpenClaim := { program := "ythhhciofcmmnfaa", sum := "fae6a6ee97cebd9e6411143d7d2758342e29c21334741b736de6132168721c64", func := "refmesh/refmeshlaw28.MigrationChains", spec := "migrationChains", inPlace := ["maps.clone"], unfollowed := true, recurses := true, plainKeys := false, apart := false, narrowed := true }
def MigrationChainsUptoSaid : Prop := migrationChainsUptoRow.holds Try.pinned (OpenSpec.upto migrationChainsSpec)

/-- 'refmeshlaw28.MigrationLocates', WHERE WHAT IT READS IS OF BULK AT MOST 1048576: true; the input reads as it did. -/
def migrationLocatesUptoRow : OpenClaim := { program := "ythhhciofcmmnfaa", sum := "fae6a6ee97cebd9e6411143d7d2758342e29c21334741b736de6132168721c64", func := "refmesh/refmeshlaw28.MigrationLocates", spec := "migrationLocates", inPlace := ["maps.clone"], unfollowed := true, recurses := true, plainKeys := false, apart := false, narrowed := true }
def MigrationLocatesUptoSaid : Prop := migrationLocatesUptoRow.holds Try.pinned (OpenSpec.upto migrationLocatesSpec)

/-- 'refmeshlaw28.MigrationMoves', WHERE WHAT IT READS IS OF BULK AT MOST 1048576: true; the input reads as it did. -/
def migrationMovesUptoRow : OpenClaim := { program := "ythhhciofcmmnfaa", sum := "fae6a6ee97cebd9e6411143d7d2758342e29c21334741b736de6132168721c64", func := "refmesh/refmeshlaw28.MigrationMoves", spec := "migrationMoves", inPlace := ["maps.clone"], unfollowed := true, recurses := true, plainKeys := false, apart := false, narrowed := true }
def MigrationMovesUptoSaid : Prop := migrationMovesUptoRow.holds Try.pinned (OpenSpec.upto migrationMovesSpec)

/-- 'refmeshlaw28.MigrationDrops', WHERE WHAT IT READS IS OF BULK AT MOST 1048576: true; the input reads as it did. -/
def migrationDropsUptoRow : OpenClaim := { program := "ythhhciofcmmnfaa", sum := "fae6a6ee97cebd9e6411143d7d2758342e29c21334741b736de6132168721c64", func := "refmesh/refmeshlaw28.MigrationDrops", spec := "migrationDrops", inPlace := ["maps.clone"], unfollowed := true, recurses := true, plainKeys := false, apart := false, narrowed := true }
def MigrationDropsUptoSaid : Prop := migrationDropsUptoRow.holds Try.pinned (OpenSpec.upto migrationDropsSpec)

/-- 'refmeshlaw28.MigrationIndependent', WHERE WHAT IT READS IS OF BULK AT MOST 1048576: true; the input reads as it did. -/
def migrationIndependentUptoRow : OpenClaim := { program := "ythhhciofcmmnfaa", sum := "fae6a6ee97cebd9e6411143d7d2758342e29c21334741b736de6132168721c64", func := "refmesh/refmeshlaw28.MigrationIndependent", spec := "migrationIndependent", inPlace := ["maps.clone"], unfollowed := true, recurses := true, plainKeys := false, apart := false, narrowed := true }
def MigrationIndependentUptoSaid : Prop := migrationIndependentUptoRow.holds Try.pinned (OpenSpec.upto migrationIndependentSpec)

/-- 'refmeshlaw28.MigrationReturns', WHERE WHAT IT READS IS OF BULK AT MOST 1048576: true; the input reads as it did. -/
def migrationReturnsUptoRow : OpenClaim := { program := "ythhhciofcmmnfaa", sum := "fae6a6ee97cebd9e6411143d7d2758342e29c21334741b736de6132168721c64", func := "refmesh/refmeshlaw28.MigrationReturns", spec := "migrationReturns", inPlace := ["maps.clone"], unfollowed := true, recurses := true, plainKeys := false, apart := false, narrowed := true }
def MigrationReturnsUptoSaid : Prop := migrationReturnsUptoRow.holds Try.pinned (OpenSpec.upto migrationReturnsSpec)

end Rows
end Go.Proofs.Ythhhciofcmmnfaa
