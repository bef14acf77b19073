/-
  DERIVED. GIVEN WITH THE SEED: THE CARDS: each row of YtiplgpefapeapaaGreatDoorRows.lean that lists a variable, with what it lists TIED to the program's text (the seventh form; the later family's looks); each row that meets fmt, with fmt's text TOLD by the authors' own Lean function (tested against real Go, not proved from fmt's source: count such statements apart). THE CARD IS WHAT COUNTS. Prove the row's statement (the work); the ties are given (YtiplgpefapeapaaGreatDoorTie.lean); close each card by the builder's one call (the guide's Derived/Test/ToyasCard.lean, 'card_holds'). Laid BY PROGRAM, IN A SANDBOX (cutbox-door.mjs). By AI agents, Wed Nov 11 2026. No macro, syntax, notation, axiom, sorry.
-/
import Derived.Test.YtiplgpefapeapaaGreatDoorRows
import GoSem.ClaimSeven
namespace Go.Proofs.YtiplgpefapeapaaGreatDoor
namespace Rows

/-- THE TIED CARD OF 'refmeshlaw36.CertificateLists'. -/
def certificateListsCard : Claim7 := { stood := { row := certificateListsRow, standIns := [], harness := (true, "26eab58dc08a65f2fe78a593761b0d086e3541632da6d395375836a2830656da"), looks := false }, kinds := [], alts := [], laidByText := true, laidKinds := [.data, .data, .data], laidTests := true, laidLooks := .later }
def CertificateListsCardSaid : Prop := Claim7.holds Tryz.pinned (.plain (OpenSpec.ofChange certificateListsSpec)) certificateListsCard

/-- THE SECOND FORM's CARD OF 'refmeshlaw36.CertificateLists'. -/
def certificateListsUptoCard : Claim7 := { stood := { row := certificateListsUptoRow, standIns := [], harness := (true, "26eab58dc08a65f2fe78a593761b0d086e3541632da6d395375836a2830656da"), looks := false }, kinds := [], alts := [], laidByText := true, laidKinds := [.data, .data, .data], laidTests := true, laidLooks := .later }
def CertificateListsUptoCardSaid : Prop := Claim7.holds Tryz.pinned (.plain (OpenSpec.upto certificateListsSpec)) certificateListsUptoCard
end Rows
end Go.Proofs.YtiplgpefapeapaaGreatDoor
