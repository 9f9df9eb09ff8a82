/-
  NARROWER THAN 'FOR EVERY INPUT', by the rows' own cells (each row's printed sentence says how): PrinterDocuments: laid · PrinterSystems: laid · PrinterLits: laid · PrinterEnds: laid.
  DERIVED. THE GIVEN ROWS OF THIS SEAT. 4 by the template 'for every input the law returns true; each argument reads behind the call as it read before'; 0 by the template 'total and deterministic' (their statements: YtolabkginnkhgaaGreatDoorTotals.lean).
  GIVEN WITH THE SEED: the statements are not yours to turn. If you find one false, say at which input.
  Laid BY PROGRAM, IN A SANDBOX (cutbox-rows.mjs): the forced cells as the released guide's own fill.sh prints them over the translation 7a53ab11c18cef16… (all of the seat's roots in one cut). By AI agents, Wed Nov 11 2026. No macro, syntax, notation, axiom, sorry.
-/
import Derived.Test.YtolabkginnkhgaaGreatDoorChecked
import GoSem.PinnedTables
import GoSem.Claim
import GoSem.ClaimJoined
import GoSem.ClaimMapViews
import Derived.JoinedTies
import Derived.KernelRfl
namespace Go.Proofs.YtolabkginnkhgaaGreatDoor
/- THE CELL 'sum', in the pinned program and in every row, IS THE sha256 OF THE DUMP (.gsa) THAT YtolabkginnkhgaaGreatDoorProg.lean LOADS. Nothing in Lean hashes anything: it is a label: what it is worth is what the hold of that sum in a sandbox is worth. -/
noncomputable def Tryz.pinned : Pinned := { name := "ytolabkginnkhgaagreatdoor", sum := "7a53ab11c18cef1697c88838b2616b006b4459dd44c5c3ae95636218f5fe68a1", checked := Tryz.checked }
namespace Rows
def none {H : Type} : Left H := { results := [], args := [] }

/- WHAT THE LISTED PACKAGE-LEVEL VARIABLES READ AS WHEN THE CALL BEGINS. Each datum BY PROGRAM (the guide's laid-datum.mjs) off the statement by which the dump's own 'gosem.cut.vars' lays the variable. In a bare row this is a premise. The card (YtolabkginnkhgaaGreatDoorCards.lean) ties it to the program's text. -/
def laid_unicode_utf8_acceptRanges {H : Type} : DataW H := .agg [.agg [.lit (.int .u8 128), .lit (.int .u8 191)], .agg [.lit (.int .u8 160), .lit (.int .u8 191)], .agg [.lit (.int .u8 128), .lit (.int .u8 159)], .agg [.lit (.int .u8 144), .lit (.int .u8 191)], .agg [.lit (.int .u8 128), .lit (.int .u8 143)], .agg [.lit (.int .u8 0), .lit (.int .u8 0)], .agg [.lit (.int .u8 0), .lit (.int .u8 0)], .agg [.lit (.int .u8 0), .lit (.int .u8 0)], .agg [.lit (.int .u8 0), .lit (.int .u8 0)], .agg [.lit (.int .u8 0), .lit (.int .u8 0)], .agg [.lit (.int .u8 0), .lit (.int .u8 0)], .agg [.lit (.int .u8 0), .lit (.int .u8 0)], .agg [.lit (.int .u8 0), .lit (.int .u8 0)], .agg [.lit (.int .u8 0), .lit (.int .u8 0)], .agg [.lit (.int .u8 0), .lit (.int .u8 0)], .agg [.lit (.int .u8 0), .lit (.int .u8 0)]]
/-- One of Go's own tables, pinned by name: the form's constant. -/
def laid_unicode_utf8_first : DataW Unit := Go.Pinned.utf8First

/-- 'pergolalaw11.PrinterDocuments': WHATEVER THE INPUT: true; the input reads as it did. -/
def printerDocumentsSpec : ChangeSpec := { name := "printerDocuments", fn := fun _ => fun
  | [d1, d2] => { results := [.lit (.bool true)], args := [d1, d2] }
  | _ => none }
def printerDocumentsRow : OpenClaim := { program := "ytolabkginnkhgaagreatdoor", sum := "7a53ab11c18cef1697c88838b2616b006b4459dd44c5c3ae95636218f5fe68a1", func := "pergola/pergolalaw11.PrinterDocuments", spec := "printerDocuments", inPlace := ["internal/abi.NoEscape", "internal/bytealg.MakeNoZero", "internal/bytealg.CountString", "internal/bytealg.IndexByteString", "internal/bytealg.IndexString"], unfollowed := true, recurses := true, named := ["internal/bytealg.MaxLen", "unicode/utf8.first", "unicode/utf8.acceptRanges"], apart := false, laid := [("unicode/utf8.acceptRanges", laid_unicode_utf8_acceptRanges), ("unicode/utf8.first", laid_unicode_utf8_first)] }
def PrinterDocumentsSaid : Prop := printerDocumentsRow.holds Tryz.pinned (OpenSpec.ofChange printerDocumentsSpec)

/-- ITS FALSE NEIGHBOUR: 'it returns false'. Refute it at one input. -/
def printerDocumentsWrong : ChangeSpec := { name := "printerDocuments", fn := fun _ => fun
  | [d1, d2] => { results := [.lit (.bool false)], args := [d1, d2] }
  | _ => none }
def PrinterDocumentsWrongFalsely : Prop := printerDocumentsRow.holds Tryz.pinned (OpenSpec.ofChange printerDocumentsWrong)

/-- 'pergolalaw11.PrinterSystems': WHATEVER THE INPUT: true; the input reads as it did. -/
def printerSystemsSpec : ChangeSpec := { name := "printerSystems", fn := fun _ => fun
  | [d1, d2] => { results := [.lit (.bool true)], args := [d1, d2] }
  | _ => none }
def printerSystemsRow : OpenClaim := { program := "ytolabkginnkhgaagreatdoor", sum := "7a53ab11c18cef1697c88838b2616b006b4459dd44c5c3ae95636218f5fe68a1", func := "pergola/pergolalaw11.PrinterSystems", spec := "printerSystems", inPlace := ["internal/abi.NoEscape", "internal/bytealg.MakeNoZero", "internal/bytealg.CountString", "internal/bytealg.IndexByteString", "internal/bytealg.IndexString"], unfollowed := true, recurses := true, named := ["internal/bytealg.MaxLen", "unicode/utf8.first", "unicode/utf8.acceptRanges"], apart := false, laid := [("unicode/utf8.acceptRanges", laid_unicode_utf8_acceptRanges), ("unicode/utf8.first", laid_unicode_utf8_first)] }
def PrinterSystemsSaid : Prop := printerSystemsRow.holds Tryz.pinned (OpenSpec.ofChange printerSystemsSpec)

/-- ITS FALSE NEIGHBOUR: 'it returns false'. Refute it at one input. -/
def printerSystemsWrong : ChangeSpec := { name := "printerSystems", fn := fun _ => fun
  | [d1, d2] => { results := [.lit (.bool false)], args := [d1, d2] }
  | _ => none }
def PrinterSystemsWrongFalsely : Prop := printerSystemsRow.holds Tryz.pinned (OpenSpec.ofChange printerSystemsWrong)

/-- 'pergolalaw11.PrinterLits': WHATEVER THE INPUT: true; the input reads as it did. -/
def printerLitsSpec : ChangeSpec := { name := "printerLits", fn := fun _ => fun
  | [d1, d2] => { results := [.lit (.bool true)], args := [d1, d2] }
  | _ => none }
def printerLitsRow : OpenClaim := { program := "ytolabkginnkhgaagreatdoor", sum := "7a53ab11c18cef1697c88838b2616b006b4459dd44c5c3ae95636218f5fe68a1", func := "pergola/pergolalaw11.PrinterLits", spec := "printerLits", inPlace := ["internal/abi.NoEscape", "internal/bytealg.MakeNoZero", "internal/bytealg.CountString", "internal/bytealg.IndexByteString", "internal/bytealg.IndexString"], unfollowed := true, recurses := true, named := ["internal/bytealg.MaxLen", "unicode/utf8.first", "unicode/utf8.acceptRanges"], apart := false, laid := [("unicode/utf8.acceptRanges", laid_unicode_utf8_acceptRanges), ("unicode/utf8.first", laid_unicode_utf8_first)] }
def PrinterLitsSaid : Prop := printerLitsRow.holds Tryz.pinned (OpenSpec.ofChange printerLitsSpec)

/-- ITS FALSE NEIGHBOUR: 'it returns false'. Refute it at one input. -/
def printerLitsWrong : ChangeSpec := { name := "printerLits", fn := fun _ => fun
  | [d1, d2] => { results := [.lit (.bool false)], args := [d1, d2] }
  | _ => none }
def PrinterLitsWrongFalsely : Prop := printerLitsRow.holds Tryz.pinned (OpenSpec.ofChange printerLitsWrong)

/-- 'pergolalaw11.PrinterEnds': WHATEVER THE INPUT: true; the input reads as it did. -/
def printerEndsSpec : ChangeSpec := { name := "printerEnds", fn := fun _ => fun
  | [d1, d2] => { results := [.lit (.bool true)], args := [d1, d2] }
  | _ => none }
def printerEndsRow : OpenClaim := { program := "ytolabkginnkhgaagreatdoor", sum := "7a53ab11c18cef1697c88838b2616b006b4459dd44c5c3ae95636218f5fe68a1", func := "pergola/pergolalaw11.PrinterEnds", spec := "printerEnds", inPlace := ["internal/abi.NoEscape", "internal/bytealg.MakeNoZero", "internal/bytealg.CountString", "internal/bytealg.IndexByteString", "internal/bytealg.IndexString"], unfollowed := true, recurses := true, named := ["internal/bytealg.MaxLen", "unicode/utf8.first", "unicode/utf8.acceptRanges"], apart := false, laid := [("unicode/utf8.acceptRanges", laid_unicode_utf8_acceptRanges), ("unicode/utf8.first", laid_unicode_utf8_first)] }
def PrinterEndsSaid : Prop := printerEndsRow.holds Tryz.pinned (OpenSpec.ofChange printerEndsSpec)

/-- ITS FALSE NEIGHBOUR: 'it returns false'. Refute it at one input. -/
def printerEndsWrong : ChangeSpec := { name := "printerEnds", fn := fun _ => fun
  | [d1, d2] => { results := [.lit (.bool false)], args := [d1, d2] }
  | _ => none }
def PrinterEndsWrongFalsely : Prop := printerEndsRow.holds Tryz.pinned (OpenSpec.ofChange printerEndsWrong)

/- THE SECOND FORM. 'bulk': how many values and letters a reading holds, each counted each time it is reached (what is shared counts as often as it is met; a slice's spare places count too). A statement '..UptoSaid' is the law's where the arguments, and the package variables that the reading takes, are together of bulk at most 1048576: NARROWER than '..Said'. Prove '..Said' where nothing that the law and all that it calls make is longer than what came in: it says more and counts as full. Else prove '..UptoSaid'. A law counts once. -/
mutual
def uptoBulk {H : Type} : DataW H → Nat
  | .lit (.string bytes) => bytes.length + 1
  | .lit _ => 1
  | .nil => 1
  | .ptr d => uptoBulk d + 1
  | .slice elems spare => uptoBulkAll elems + uptoBulkAll spare + 1
  | .agg parts => uptoBulkAll parts + 1
  | .iface _ d => uptoBulk d + 1
  | .map entries => uptoBulkEntries entries + 1
  | .held _ => 1
def uptoBulkAll {H : Type} : List (DataW H) → Nat
  | [] => 0
  | d :: r => uptoBulk d + uptoBulkAll r
def uptoBulkEntries {H : Type} : List (Lit × DataW H) → Nat
  | [] => 0
  | x :: r => uptoBulkEntry x + uptoBulkEntries r
def uptoBulkEntry {H : Type} : Lit × DataW H → Nat
  | (.string bytes, d) => bytes.length + uptoBulk d + 1
  | (_, d) => uptoBulk d + 1
 end
def uptoSmall : (H : Type) → List (DataW H) → Bool := fun _ ds => decide (uptoBulkAll ds ≤ 1048576)
def OpenSpec.upto (s : _root_.Go.ChangeSpec) : _root_.Go.OpenSpec := { _root_.Go.OpenSpec.ofChange s with cond := some uptoSmall }

/-- 'pergolalaw11.PrinterDocuments', WHERE WHAT IT READS IS OF BULK AT MOST 1048576: true; the input reads as it did. -/
def printerDocumentsUptoRow : OpenClaim := { program := "ytolabkginnkhgaagreatdoor", sum := "7a53ab11c18cef1697c88838b2616b006b4459dd44c5c3ae95636218f5fe68a1", func := "pergola/pergolalaw11.PrinterDocuments", spec := "printerDocuments", inPlace := ["internal/abi.NoEscape", "internal/bytealg.MakeNoZero", "internal/bytealg.CountString", "internal/bytealg.IndexByteString", "internal/bytealg.IndexString"], unfollowed := true, recurses := true, named := ["internal/bytealg.MaxLen", "unicode/utf8.first", "unicode/utf8.acceptRanges"], apart := false, laid := [("unicode/utf8.acceptRanges", laid_unicode_utf8_acceptRanges), ("unicode/utf8.first", laid_unicode_utf8_first)], narrowed := true }
def PrinterDocumentsUptoSaid : Prop := printerDocumentsUptoRow.holds Tryz.pinned (OpenSpec.upto printerDocumentsSpec)

/-- 'pergolalaw11.PrinterSystems', WHERE WHAT IT READS IS OF BULK AT MOST 1048576: true; the input reads as it did. -/
def printerSystemsUptoRow : OpenClaim := { program := "ytolabkginnkhgaagreatdoor", sum := "7a53ab11c18cef1697c88838b2616b006b4459dd44c5c3ae95636218f5fe68a1", func := "pergola/pergolalaw11.PrinterSystems", spec := "printerSystems", inPlace := ["internal/abi.NoEscape", "internal/bytealg.MakeNoZero", "internal/bytealg.CountString", "internal/bytealg.IndexByteString", "internal/bytealg.IndexString"], unfollowed := true, recurses := true, named := ["internal/bytealg.MaxLen", "unicode/utf8.first", "unicode/utf8.acceptRanges"], apart := false, laid := [("unicode/utf8.acceptRanges", laid_unicode_utf8_acceptRanges), ("unicode/utf8.first", laid_unicode_utf8_first)], narrowed := true }
def PrinterSystemsUptoSaid : Prop := printerSystemsUptoRow.holds Tryz.pinned (OpenSpec.upto printerSystemsSpec)

/-- 'pergolalaw11.PrinterLits', WHERE WHAT IT READS IS OF BULK AT MOST 1048576: true; the input reads as it did. -/
def printerLitsUptoRow : OpenClaim := { program := "ytolabkginnkhgaagreatdoor", sum := "7a53ab11c18cef1697c88838b2616b006b4459dd44c5c3ae95636218f5fe68a1", func := "pergola/pergolalaw11.PrinterLits", spec := "printerLits", inPlace := ["internal/abi.NoEscape", "internal/bytealg.MakeNoZero", "internal/bytealg.CountString", "internal/bytealg.IndexByteString", "internal/bytealg.IndexString"], unfollowed := true, recurses := true, named := ["internal/bytealg.MaxLen", "unicode/utf8.first", "unicode/utf8.acceptRanges"], apart := false, laid := [("unicode/utf8.acceptRanges", laid_unicode_utf8_acceptRanges), ("unicode/utf8.first", laid_unicode_utf8_first)], narrowed := true }
def PrinterLitsUptoSaid : Prop := printerLitsUptoRow.holds Tryz.pinned (OpenSpec.upto printerLitsSpec)

/-- 'pergolalaw11.PrinterEnds', WHERE WHAT IT READS IS OF BULK AT MOST 1048576: true; the input reads as it did. -/
def printerEndsUptoRow : OpenClaim := { program := "ytolabkginnkhgaagreatdoor", sum := "7a53ab11c18cef1697c88838b2616b006b4459dd44c5c3ae95636218f5fe68a1", func := "pergola/pergolalaw11.PrinterEnds", spec := "printerEnds", inPlace := ["internal/abi.NoEscape", "internal/bytealg.MakeNoZero", "internal/bytealg.CountString", "internal/bytealg.IndexByteString", "internal/bytealg.IndexString"], unfollowed := true, recurses := true, named := ["internal/bytealg.MaxLen", "unicode/utf8.first", "unicode/utf8.acceptRanges"], apart := false, laid := [("unicode/utf8.acceptRanges", laid_unicode_utf8_acceptRanges), ("unicode/utf8.first", laid_unicode_utf8_first)], narrowed := true }
def PrinterEndsUptoSaid : Prop := printerEndsUptoRow.holds Tryz.pinned (OpenSpec.upto printerEndsSpec)

end Rows
end Go.Proofs.YtolabkginnkhgaaGreatDoor
