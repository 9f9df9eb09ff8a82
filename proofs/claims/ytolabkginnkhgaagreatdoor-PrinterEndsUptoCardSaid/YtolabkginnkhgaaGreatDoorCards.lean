/-
  DERIVED. GIVEN WITH THE SEED: THE CARDS: each row of YtolabkginnkhgaaGreatDoorRows.lean that lists a variable, with what it lists TIED to the program's text (the seventh form; the later family's looks); each row that meets fmt, with fmt's text TOLD by the authors' own Lean function (tested against real Go, not proved from fmt's source: count such statements apart). THE CARD IS WHAT COUNTS. Prove the row's statement (the work); the ties are given (YtolabkginnkhgaaGreatDoorTie.lean); close each card by the builder's one call (the guide's Derived/Test/ToyasCard.lean, 'card_holds'). Laid BY PROGRAM, IN A SANDBOX (cutbox-door.mjs). By AI agents, Wed Nov 11 2026. No macro, syntax, notation, axiom, sorry.
-/
import Derived.Test.YtolabkginnkhgaaGreatDoorRows
import GoSem.ClaimSeven
namespace Go.Proofs.YtolabkginnkhgaaGreatDoor
namespace Rows

/-- THE TIED CARD OF 'pergolalaw11.PrinterDocuments'. -/
def printerDocumentsCard : Claim7 := { stood := { row := printerDocumentsRow, standIns := [], harness := (true, "33c3ebcd9de3e05833985da0c1b75b03fde61db36ac036fe722a8c9e1f1d372a"), looks := false }, kinds := [], alts := [], laidByText := true, laidKinds := [.data, .pinned], laidTests := true, laidLooks := .later }
def PrinterDocumentsCardSaid : Prop := Claim7.holds Tryz.pinned (.plain (OpenSpec.ofChange printerDocumentsSpec)) printerDocumentsCard

/-- THE TIED CARD OF 'pergolalaw11.PrinterSystems'. -/
def printerSystemsCard : Claim7 := { stood := { row := printerSystemsRow, standIns := [], harness := (true, "33c3ebcd9de3e05833985da0c1b75b03fde61db36ac036fe722a8c9e1f1d372a"), looks := false }, kinds := [], alts := [], laidByText := true, laidKinds := [.data, .pinned], laidTests := true, laidLooks := .later }
def PrinterSystemsCardSaid : Prop := Claim7.holds Tryz.pinned (.plain (OpenSpec.ofChange printerSystemsSpec)) printerSystemsCard

/-- THE TIED CARD OF 'pergolalaw11.PrinterLits'. -/
def printerLitsCard : Claim7 := { stood := { row := printerLitsRow, standIns := [], harness := (true, "33c3ebcd9de3e05833985da0c1b75b03fde61db36ac036fe722a8c9e1f1d372a"), looks := false }, kinds := [], alts := [], laidByText := true, laidKinds := [.data, .pinned], laidTests := true, laidLooks := .later }
def PrinterLitsCardSaid : Prop := Claim7.holds Tryz.pinned (.plain (OpenSpec.ofChange printerLitsSpec)) printerLitsCard

/-- THE TIED CARD OF 'pergolalaw11.PrinterEnds'. -/
def printerEndsCard : Claim7 := { stood := { row := printerEndsRow, standIns := [], harness := (true, "33c3ebcd9de3e05833985da0c1b75b03fde61db36ac036fe722a8c9e1f1d372a"), looks := false }, kinds := [], alts := [], laidByText := true, laidKinds := [.data, .pinned], laidTests := true, laidLooks := .later }
def PrinterEndsCardSaid : Prop := Claim7.holds Tryz.pinned (.plain (OpenSpec.ofChange printerEndsSpec)) printerEndsCard

/-- THE SECOND FORM's CARD OF 'pergolalaw11.PrinterDocuments'. -/
def printerDocumentsUptoCard : Claim7 := { stood := { row := printerDocumentsUptoRow, standIns := [], harness := (true, "33c3ebcd9de3e05833985da0c1b75b03fde61db36ac036fe722a8c9e1f1d372a"), looks := false }, kinds := [], alts := [], laidByText := true, laidKinds := [.data, .pinned], laidTests := true, laidLooks := .later }
def PrinterDocumentsUptoCardSaid : Prop := Claim7.holds Tryz.pinned (.plain (OpenSpec.upto printerDocumentsSpec)) printerDocumentsUptoCard

/-- THE SECOND FORM's CARD OF 'pergolalaw11.PrinterSystems'. -/
def printerSystemsUptoCard : Claim7 := { stood := { row := printerSystemsUptoRow, standIns := [], harness := (true, "33c3ebcd9de3e05833985da0c1b75b03fde61db36ac036fe722a8c9e1f1d372a"), looks := false }, kinds := [], alts := [], laidByText := true, laidKinds := [.data, .pinned], laidTests := true, laidLooks := .later }
def PrinterSystemsUptoCardSaid : Prop := Claim7.holds Tryz.pinned (.plain (OpenSpec.upto printerSystemsSpec)) printerSystemsUptoCard

/-- THE SECOND FORM's CARD OF 'pergolalaw11.PrinterLits'. -/
def printerLitsUptoCard : Claim7 := { stood := { row := printerLitsUptoRow, standIns := [], harness := (true, "33c3ebcd9de3e05833985da0c1b75b03fde61db36ac036fe722a8c9e1f1d372a"), looks := false }, kinds := [], alts := [], laidByText := true, laidKinds := [.data, .pinned], laidTests := true, laidLooks := .later }
def PrinterLitsUptoCardSaid : Prop := Claim7.holds Tryz.pinned (.plain (OpenSpec.upto printerLitsSpec)) printerLitsUptoCard

/-- THE SECOND FORM's CARD OF 'pergolalaw11.PrinterEnds'. -/
def printerEndsUptoCard : Claim7 := { stood := { row := printerEndsUptoRow, standIns := [], harness := (true, "33c3ebcd9de3e05833985da0c1b75b03fde61db36ac036fe722a8c9e1f1d372a"), looks := false }, kinds := [], alts := [], laidByText := true, laidKinds := [.data, .pinned], laidTests := true, laidLooks := .later }
def PrinterEndsUptoCardSaid : Prop := Claim7.holds Tryz.pinned (.plain (OpenSpec.upto printerEndsSpec)) printerEndsUptoCard
end Rows
end Go.Proofs.YtolabkginnkhgaaGreatDoor
