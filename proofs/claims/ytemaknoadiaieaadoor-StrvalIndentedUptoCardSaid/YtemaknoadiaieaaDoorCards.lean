/-
  DERIVED. GIVEN WITH THE SEED: THE CARDS: each row of YtemaknoadiaieaaDoorRows.lean that lists a variable, with what it lists TIED to the program's text (the seventh form; the later family's looks); each row that meets fmt, with fmt's text TOLD by the authors' own Lean function (tested against real Go, not proved from fmt's source: count such statements apart). THE CARD IS WHAT COUNTS. Prove the row's statement (the work); the ties are given (YtemaknoadiaieaaDoorTie.lean); close each card by the builder's one call (the guide's Derived/Test/ToyasCard.lean, 'card_holds'). Laid BY PROGRAM, IN A SANDBOX (cutbox-door.mjs). By AI agents, Wed Nov 11 2026. No macro, syntax, notation, axiom, sorry.
-/
import Derived.Test.YtemaknoadiaieaaDoorRows
import GoSem.ClaimSeven
namespace Go.Proofs.YtemaknoadiaieaaDoor
namespace Rows

/-- THE TIED CARD OF 'pergolalaw06.StrvalTexts'. -/
def strvalTextsCard : Claim7 := { stood := { row := strvalTextsRow, standIns := [], harness := (true, "fb708f0f3d328622ab5e065f76c39eb9630b1d455958cd1e33cfe6f1330fff41"), looks := false }, kinds := [], alts := [], laidByText := true, laidKinds := [.data, .pinned], laidTests := true, laidLooks := .later }
def StrvalTextsCardSaid : Prop := Claim7.holds Tryd.pinned (.plain (OpenSpec.ofChange strvalTextsSpec)) strvalTextsCard

/-- THE TIED CARD OF 'pergolalaw06.StrvalBlockBack'. -/
def strvalBlockBackCard : Claim7 := { stood := { row := strvalBlockBackRow, standIns := [], harness := (true, "fb708f0f3d328622ab5e065f76c39eb9630b1d455958cd1e33cfe6f1330fff41"), looks := false }, kinds := [], alts := [], laidByText := true, laidKinds := [.data, .pinned], laidTests := true, laidLooks := .later }
def StrvalBlockBackCardSaid : Prop := Claim7.holds Tryd.pinned (.plain (OpenSpec.ofChange strvalBlockBackSpec)) strvalBlockBackCard

/-- THE TIED CARD OF 'pergolalaw06.StrvalQuotedBack'. -/
def strvalQuotedBackCard : Claim7 := { stood := { row := strvalQuotedBackRow, standIns := [], harness := (true, "fb708f0f3d328622ab5e065f76c39eb9630b1d455958cd1e33cfe6f1330fff41"), looks := false }, kinds := [], alts := [], laidByText := true, laidKinds := [.data, .pinned], laidTests := true, laidLooks := .later }
def StrvalQuotedBackCardSaid : Prop := Claim7.holds Tryd.pinned (.plain (OpenSpec.ofChange strvalQuotedBackSpec)) strvalQuotedBackCard

/-- THE TIED CARD OF 'pergolalaw06.StrvalIndented'. -/
def strvalIndentedCard : Claim7 := { stood := { row := strvalIndentedRow, standIns := [], harness := (true, "fb708f0f3d328622ab5e065f76c39eb9630b1d455958cd1e33cfe6f1330fff41"), looks := false }, kinds := [], alts := [], laidByText := true, laidKinds := [.data, .pinned], laidTests := true, laidLooks := .later }
def StrvalIndentedCardSaid : Prop := Claim7.holds Tryd.pinned (.plain (OpenSpec.ofChange strvalIndentedSpec)) strvalIndentedCard

/-- THE SECOND FORM's CARD OF 'pergolalaw06.StrvalTexts'. -/
def strvalTextsUptoCard : Claim7 := { stood := { row := strvalTextsUptoRow, standIns := [], harness := (true, "fb708f0f3d328622ab5e065f76c39eb9630b1d455958cd1e33cfe6f1330fff41"), looks := false }, kinds := [], alts := [], laidByText := true, laidKinds := [.data, .pinned], laidTests := true, laidLooks := .later }
def StrvalTextsUptoCardSaid : Prop := Claim7.holds Tryd.pinned (.plain (OpenSpec.upto strvalTextsSpec)) strvalTextsUptoCard

/-- THE SECOND FORM's CARD OF 'pergolalaw06.StrvalBlockBack'. -/
def strvalBlockBackUptoCard : Claim7 := { stood := { row := strvalBlockBackUptoRow, standIns := [], harness := (true, "fb708f0f3d328622ab5e065f76c39eb9630b1d455958cd1e33cfe6f1330fff41"), looks := false }, kinds := [], alts := [], laidByText := true, laidKinds := [.data, .pinned], laidTests := true, laidLooks := .later }
def StrvalBlockBackUptoCardSaid : Prop := Claim7.holds Tryd.pinned (.plain (OpenSpec.upto strvalBlockBackSpec)) strvalBlockBackUptoCard

/-- THE SECOND FORM's CARD OF 'pergolalaw06.StrvalQuotedBack'. -/
def strvalQuotedBackUptoCard : Claim7 := { stood := { row := strvalQuotedBackUptoRow, standIns := [], harness := (true, "fb708f0f3d328622ab5e065f76c39eb9630b1d455958cd1e33cfe6f1330fff41"), looks := false }, kinds := [], alts := [], laidByText := true, laidKinds := [.data, .pinned], laidTests := true, laidLooks := .later }
def StrvalQuotedBackUptoCardSaid : Prop := Claim7.holds Tryd.pinned (.plain (OpenSpec.upto strvalQuotedBackSpec)) strvalQuotedBackUptoCard

/-- THE SECOND FORM's CARD OF 'pergolalaw06.StrvalIndented'. -/
def strvalIndentedUptoCard : Claim7 := { stood := { row := strvalIndentedUptoRow, standIns := [], harness := (true, "fb708f0f3d328622ab5e065f76c39eb9630b1d455958cd1e33cfe6f1330fff41"), looks := false }, kinds := [], alts := [], laidByText := true, laidKinds := [.data, .pinned], laidTests := true, laidLooks := .later }
def StrvalIndentedUptoCardSaid : Prop := Claim7.holds Tryd.pinned (.plain (OpenSpec.upto strvalIndentedSpec)) strvalIndentedUptoCard
end Rows
end Go.Proofs.YtemaknoadiaieaaDoor
