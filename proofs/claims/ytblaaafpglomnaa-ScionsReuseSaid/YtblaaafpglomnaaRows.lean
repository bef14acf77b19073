/-
  No cell of these rows narrows 'for every input' (looked for: loops, veiled, ifaces, maps, wideKeys, modest, calm, conditions, laid).
  DERIVED. THE GIVEN ROWS OF THIS SEAT. 5 by the template 'for every input the law returns true; each argument reads behind the call as it read before'; 0 by the template 'total and deterministic' (their statements: YtblaaafpglomnaaTotals.lean).
  GIVEN WITH THE SEED: the statements are not yours to turn. If you find one false, say at which input.
  Laid BY PROGRAM, IN A SANDBOX (cutbox-rows.mjs): the forced cells as the released guide's own fill.sh prints them over the translation 467ae15aa38622ed… (all of the seat's roots in one cut). By AI agents, Wed Nov 11 2026. No macro, syntax, notation, axiom, sorry.
-/
import Derived.Test.YtblaaafpglomnaaChecked
import GoSem.Claim
import GoSem.ClaimJoined
import GoSem.ClaimMapViews
import Derived.JoinedTies
import Derived.KernelRfl
namespace Go.Proofs.Ytblaaafpglomnaa
/- THE CELL 'sum', in the pinned program and in every row, IS THE sha256 OF THE DUMP (.gsa) THAT YtblaaafpglomnaaProg.lean LOADS. Nothing in Lean hashes anything: it is a label: what it is worth is what the hold of that sum in a sandbox is worth. -/
noncomputable def Try.pinned : Pinned := { name := "ytblaaafpglomnaa", sum := "467ae15aa38622ed35b30605d283ca92e93f61f045ee0aadf1c4952fd05209d4", checked := Try.checked }
namespace Rows
def none {H : Type} : Left H := { results := [], args := [] }

/-- 'refmeshlaw24.ScionsTouches': WHATEVER THE INPUT: true; the input reads as it did. -/
def scionsTouchesSpec : ChangeSpec := { name := "scionsTouches", fn := fun _ => fun
  | [d1, d2, d3] => { results := [.lit (.bool true)], args := [d1, d2, d3] }
  | _ => none }
def scionsTouchesRow : OpenClaim := { program := "ytblaaafpglomnaa", sum := "467ae15aa38622ed35b30605d283ca92e93f61f045ee0aadf1c4952fd05209d4", func := "refmesh/refmeshlaw24.ScionsTouches", spec := "scionsTouches", unfollowed := true, recurses := true, plainKeys := false, apart := false }
def ScionsTouchesSaid : Prop := scionsTouchesRow.holds Try.pinned (OpenSpec.ofChange scionsTouchesSpec)

/-- ITS FALSE NEIGHBOUR: 'it returns false'. Refute it at one input. -/
def scionsTouchesWrong : ChangeSpec := { name := "scionsTouches", fn := fun _ => fun
  | [d1, d2, d3] => { results := [.lit (.bool false)], args := [d1, d2, d3] }
  | _ => none }
def ScionsTouchesWrongFalsely : Prop := scionsTouchesRow.holds Try.pinned (OpenSpec.ofChange scionsTouchesWrong)

/-- 'refmeshlaw24.ScionsOrder': WHATEVER THE INPUT: true; the input reads as it did. -/
def scionsOrderSpec : ChangeSpec := { name := "scionsOrder", fn := fun _ => fun
  | [d1, d2] => { results := [.lit (.bool true)], args := [d1, d2] }
  | _ => none }
def scionsOrderRow : OpenClaim := { program := "ytblaaafpglomnaa", sum := "467ae15aa38622ed35b30605d283ca92e93f61f045ee0aadf1c4952fd05209d4", func := "refmesh/refmeshlaw24.ScionsOrder", spec := "scionsOrder", unfollowed := true, recurses := true, plainKeys := false, apart := false }
def ScionsOrderSaid : Prop := scionsOrderRow.holds Try.pinned (OpenSpec.ofChange scionsOrderSpec)

/-- ITS FALSE NEIGHBOUR: 'it returns false'. Refute it at one input. -/
def scionsOrderWrong : ChangeSpec := { name := "scionsOrder", fn := fun _ => fun
  | [d1, d2] => { results := [.lit (.bool false)], args := [d1, d2] }
  | _ => none }
def ScionsOrderWrongFalsely : Prop := scionsOrderRow.holds Try.pinned (OpenSpec.ofChange scionsOrderWrong)

/-- 'refmeshlaw24.ScionsFinds': WHATEVER THE INPUT: true; the input reads as it did. -/
def scionsFindsSpec : ChangeSpec := { name := "scionsFinds", fn := fun _ => fun
  | [d1, d2, d3, d4] => { results := [.lit (.bool true)], args := [d1, d2, d3, d4] }
  | _ => none }
def scionsFindsRow : OpenClaim := { program := "ytblaaafpglomnaa", sum := "467ae15aa38622ed35b30605d283ca92e93f61f045ee0aadf1c4952fd05209d4", func := "refmesh/refmeshlaw24.ScionsFinds", spec := "scionsFinds", unfollowed := true, recurses := true, plainKeys := false, apart := false }
def ScionsFindsSaid : Prop := scionsFindsRow.holds Try.pinned (OpenSpec.ofChange scionsFindsSpec)

/-- ITS FALSE NEIGHBOUR: 'it returns false'. Refute it at one input. -/
def scionsFindsWrong : ChangeSpec := { name := "scionsFinds", fn := fun _ => fun
  | [d1, d2, d3, d4] => { results := [.lit (.bool false)], args := [d1, d2, d3, d4] }
  | _ => none }
def ScionsFindsWrongFalsely : Prop := scionsFindsRow.holds Try.pinned (OpenSpec.ofChange scionsFindsWrong)

/-- 'refmeshlaw24.ScionsReuse': WHATEVER THE INPUT: true; the input reads as it did. -/
def scionsReuseSpec : ChangeSpec := { name := "scionsReuse", fn := fun _ => fun
  | [d1, d2, d3] => { results := [.lit (.bool true)], args := [d1, d2, d3] }
  | _ => none }
def scionsReuseRow : OpenClaim := { program := "ytblaaafpglomnaa", sum := "467ae15aa38622ed35b30605d283ca92e93f61f045ee0aadf1c4952fd05209d4", func := "refmesh/refmeshlaw24.ScionsReuse", spec := "scionsReuse", unfollowed := true, recurses := true, plainKeys := false, apart := false }
def ScionsReuseSaid : Prop := scionsReuseRow.holds Try.pinned (OpenSpec.ofChange scionsReuseSpec)

/-- ITS FALSE NEIGHBOUR: 'it returns false'. Refute it at one input. -/
def scionsReuseWrong : ChangeSpec := { name := "scionsReuse", fn := fun _ => fun
  | [d1, d2, d3] => { results := [.lit (.bool false)], args := [d1, d2, d3] }
  | _ => none }
def ScionsReuseWrongFalsely : Prop := scionsReuseRow.holds Try.pinned (OpenSpec.ofChange scionsReuseWrong)

/-- 'refmeshlaw24.ScionsRemoves': WHATEVER THE INPUT: true; the input reads as it did. -/
def scionsRemovesSpec : ChangeSpec := { name := "scionsRemoves", fn := fun _ => fun
  | [d1, d2, d3] => { results := [.lit (.bool true)], args := [d1, d2, d3] }
  | _ => none }
def scionsRemovesRow : OpenClaim := { program := "ytblaaafpglomnaa", sum := "467ae15aa38622ed35b30605d283ca92e93f61f045ee0aadf1c4952fd05209d4", func := "refmesh/refmeshlaw24.ScionsRemoves", spec := "scionsRemoves", unfollowed := true, recurses := true, plainKeys := false, apart := false }
def ScionsRemovesSaid : Prop := scionsRemovesRow.holds Try.pinned (OpenSpec.ofChange scionsRemovesSpec)

/-- ITS FALSE NEIGHBOUR: 'it returns false'. Refute it at one input. -/
def scionsRemovesWrong : ChangeSpec := { name := "scionsRemoves", fn := fun _ => fun
  | [d1, d2, d3] => { results := [.lit (.bool false)], args := [d1, d2, d3] }
  | _ => none }
def ScionsRemovesWrongFalsely : Prop := scionsRemovesRow.holds Try.pinned (OpenSpec.ofChange scionsRemovesWrong)

/- THE SECOND FORM. 'bulk': how many values and letters a reading holds, each counted each time it is reached (what is shared counts as often as it is met; a slice's spare places count too). A statement '..UptoSaid' is the law's where the arguments, and the package variables that the reading takes, are together of bulk at most 1048576: NARROWER than '..Said'. Prove '..Said' where nothing that the law and all that it calls make is longer than what came in: it says more and counts as full. Else prove '..UptoSaid'. A law counts once. -/
mutual
def uptoBulk {H : Type} : DataW H → Nat
  | .lit (.string bytes) => bytes.length + 1
  | .lit _ => 1
  | .nil => 1
  | .ptr d => uptoBulk d + 1
  | .slice elems spare => uptoBulkAll elems + uptoBulkAll spare + 1
  | .agg parts => uptoBulkAll parts + 1
  | .iface _ d => uptoBulk d + 1
  | .map entries => uptoBulkEntries entries + 1
  | .held _ => 1
def uptoBulkAll {H : Type} : List (DataW H) → Nat
  | [] => 0
  | d :: r => uptoBulk d + uptoBulkAll r
def uptoBulkEntries {H : Type} : List (Lit × DataW H) → Nat
  | [] => 0
  | x :: r => uptoBulkEntry x + uptoBulkEntries r
def uptoBulkEntry {H : Type} : Lit × DataW H → Nat
  | (.string bytes, d) => bytes.length + uptoBulk d + 1
  | (_, d) => uptoBulk d + 1
 end
def uptoSmall : (H : Type) → List (DataW H) → Bool := fun _ ds => decide (uptoBulkAll ds ≤ 1048576)
def OpenSpec.upto (s : _root_.Go.ChangeSpec) : _root_.Go.OpenSpec := { _root_.Go.OpenSpec.ofChange s with cond := some uptoSmall }

/-- 'refmeshlaw24.ScionsTouches', WHERE WHAT IT READS IS OF BULK AT MOST 1048576: true; the input reads as it did. -/
def scionsTouchesUptoRow : OpenClaim := { program := "ytblaaafpglomnaa", sum := "467ae15aa38622ed35b30605d283ca92e93f61f045ee0aadf1c4952fd05209d4", func := "refmesh/refmeshlaw24.ScionsTouches", spec := "scionsTouches", unfollowed := true, recurses := true, plainKeys := false, apart := false, narrowed := true }
def ScionsTouchesUptoSaid : Prop := scionsTouchesUptoRow.holds Try.pinned (OpenSpec.upto scionsTouchesSpec)

/-- 'refmeshlaw24.ScionsOrder', WHERE WHAT IT READS IS OF BULK AT MOST 1048576: true; the input reads as it did. -/
def scionsOrderUptoRow : OpenClaim := { program := "ytblaaafpglomnaa", sum := "467ae15aa38622ed35b30605d283ca92e93f61f045ee0aadf1c4952fd05209d4", func := "refmesh/refmeshlaw24.ScionsOrder", spec := "scionsOrder", unfollowed := true, recurses := true, plainKeys := false, apart := false, narrowed := true }
def ScionsOrderUptoSaid : Prop := scionsOrderUptoRow.holds Try.pinned (OpenSpec.upto scionsOrderSpec)

/-- 'refmeshlaw24.ScionsFinds', WHERE WHAT IT READS IS OF BULK AT MOST 1048576: true; the input reads as it did. -/
def scionsFindsUptoRow : OpenClaim := { program := "ytblaaafpglomnaa", sum := "467ae15aa38622ed35b30605d283ca92e93f61f045ee0aadf1c4952fd05209d4", func := "refmesh/refmeshlaw24.ScionsFinds", spec := "scionsFinds", unfollowed := true, recurses := true, plainKeys := false, apart := false, narrowed := true }
def ScionsFindsUptoSaid : Prop := scionsFindsUptoRow.holds Try.pinned (OpenSpec.upto scionsFindsSpec)

/-- 'refmeshlaw24.ScionsReuse', WHERE WHAT IT READS IS OF BULK AT MOST 1048576: true; the input reads as it did. -/
def scionsReuseUptoRow : OpenClaim := { program := "ytblaaafpglomnaa", sum := "467ae15aa38622ed35b30605d283ca92e93f61f045ee0aadf1c4952fd05209d4", func := "refmesh/refmeshlaw24.ScionsReuse", spec := "scionsReuse", unfollowed := true, recurses := true, plainKeys := false, apart := false, narrowed := true }
def ScionsReuseUptoSaid : Prop := scionsReuseUptoRow.holds Try.pinned (OpenSpec.upto scionsReuseSpec)

/-- 'refmeshlaw24.ScionsRemoves', WHERE WHAT IT READS IS OF BULK AT MOST 1048576: true; the input reads as it did. -/
def scionsRemovesUptoRow : OpenClaim := { program := "ytblaaafpglomnaa", sum := "467ae15aa38622ed35b30605d283ca92e93f61f045ee0aadf1c4952fd05209d4", func := "refmesh/refmeshlaw24.ScionsRemoves", spec := "scionsRemoves", unfollowed := true, recurses := true, plainKeys := false, apart := false, narrowed := true }
def ScionsRemovesUptoSaid : Prop := scionsRemovesUptoRow.holds Try.pinned (OpenSpec.upto scionsRemovesSpec)

end Rows
end Go.Proofs.Ytblaaafpglomnaa
