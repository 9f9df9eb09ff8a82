/-
  No cell of these rows narrows 'for every input' (looked for: loops, veiled, ifaces, maps, wideKeys, modest, calm, conditions, laid).
  DERIVED. THE GIVEN ROWS OF THIS SEAT. 9 by the template 'for every input the law returns true; each argument reads behind the call as it read before'; 0 by the template 'total and deterministic' (their statements: YtljnggaaohddnaaTotals.lean).
  GIVEN WITH THE SEED: the statements are not yours to turn. If you find one false, say at which input.
  Laid BY PROGRAM, IN A SANDBOX (cutbox-rows.mjs): the forced cells as the released guide's own fill.sh prints them over the translation c8fa010fd4f96189… (all of the seat's roots in one cut). By AI agents, Wed Nov 11 2026. No macro, syntax, notation, axiom, sorry.
-/
import Derived.Test.YtljnggaaohddnaaChecked
import GoSem.Claim
import GoSem.ClaimJoined
import GoSem.ClaimMapViews
import Derived.JoinedTies
import Derived.KernelRfl
namespace Go.Proofs.Ytljnggaaohddnaa
/- THE CELL 'sum', in the pinned program and in every row, IS THE sha256 OF THE DUMP (.gsa) THAT YtljnggaaohddnaaProg.lean LOADS. Nothing in Lean hashes anything: it is a label: what it is worth is what the hold of that sum in a sandbox is worth. -/
noncomputable def Try.pinned : Pinned := { name := "ytljnggaaohddnaa", sum := "c8fa010fd4f961895a55acd745055efbcece12bb4a378ccb02ccc6e609700f16", checked := Try.checked }
namespace Rows
def none {H : Type} : Left H := { results := [], args := [] }

/-- 'pergolalaw07.LexNames': WHATEVER THE INPUT: true; the input reads as it did. -/
def lexNamesSpec : ChangeSpec := { name := "lexNames", fn := fun _ => fun
  | [] => { results := [.lit (.bool true)], args := [] }
  | _ => none }
def lexNamesRow : OpenClaim := { program := "ytljnggaaohddnaa", sum := "c8fa010fd4f961895a55acd745055efbcece12bb4a378ccb02ccc6e609700f16", func := "pergola/pergolalaw07.LexNames", spec := "lexNames", apart := false }
def LexNamesSaid : Prop := lexNamesRow.holds Try.pinned (OpenSpec.ofChange lexNamesSpec)

/-- ITS FALSE NEIGHBOUR: 'it returns false'. Refute it at one input. -/
def lexNamesWrong : ChangeSpec := { name := "lexNames", fn := fun _ => fun
  | [] => { results := [.lit (.bool false)], args := [] }
  | _ => none }
def LexNamesWrongFalsely : Prop := lexNamesRow.holds Try.pinned (OpenSpec.ofChange lexNamesWrong)

/-- 'pergolalaw08.PartsNames': WHATEVER THE INPUT: true; the input reads as it did. -/
def partsNamesSpec : ChangeSpec := { name := "partsNames", fn := fun _ => fun
  | [] => { results := [.lit (.bool true)], args := [] }
  | _ => none }
def partsNamesRow : OpenClaim := { program := "ytljnggaaohddnaa", sum := "c8fa010fd4f961895a55acd745055efbcece12bb4a378ccb02ccc6e609700f16", func := "pergola/pergolalaw08.PartsNames", spec := "partsNames", apart := false }
def PartsNamesSaid : Prop := partsNamesRow.holds Try.pinned (OpenSpec.ofChange partsNamesSpec)

/-- ITS FALSE NEIGHBOUR: 'it returns false'. Refute it at one input. -/
def partsNamesWrong : ChangeSpec := { name := "partsNames", fn := fun _ => fun
  | [] => { results := [.lit (.bool false)], args := [] }
  | _ => none }
def PartsNamesWrongFalsely : Prop := partsNamesRow.holds Try.pinned (OpenSpec.ofChange partsNamesWrong)

/-- 'pergolalaw06.StrvalDedent': WHATEVER THE INPUT: true; the input reads as it did. -/
def strvalDedentSpec : ChangeSpec := { name := "strvalDedent", fn := fun _ => fun
  | [d] => { results := [.lit (.bool true)], args := [d] }
  | _ => none }
def strvalDedentRow : OpenClaim := { program := "ytljnggaaohddnaa", sum := "c8fa010fd4f961895a55acd745055efbcece12bb4a378ccb02ccc6e609700f16", func := "pergola/pergolalaw06.StrvalDedent", spec := "strvalDedent", apart := false }
def StrvalDedentSaid : Prop := strvalDedentRow.holds Try.pinned (OpenSpec.ofChange strvalDedentSpec)

/-- ITS FALSE NEIGHBOUR: 'it returns false'. Refute it at one input. -/
def strvalDedentWrong : ChangeSpec := { name := "strvalDedent", fn := fun _ => fun
  | [d] => { results := [.lit (.bool false)], args := [d] }
  | _ => none }
def StrvalDedentWrongFalsely : Prop := strvalDedentRow.holds Try.pinned (OpenSpec.ofChange strvalDedentWrong)

/-- 'pergolalaw06.StrvalDedentShape': WHATEVER THE INPUT: true; the input reads as it did. -/
def strvalDedentShapeSpec : ChangeSpec := { name := "strvalDedentShape", fn := fun _ => fun
  | [d] => { results := [.lit (.bool true)], args := [d] }
  | _ => none }
def strvalDedentShapeRow : OpenClaim := { program := "ytljnggaaohddnaa", sum := "c8fa010fd4f961895a55acd745055efbcece12bb4a378ccb02ccc6e609700f16", func := "pergola/pergolalaw06.StrvalDedentShape", spec := "strvalDedentShape", apart := false }
def StrvalDedentShapeSaid : Prop := strvalDedentShapeRow.holds Try.pinned (OpenSpec.ofChange strvalDedentShapeSpec)

/-- ITS FALSE NEIGHBOUR: 'it returns false'. Refute it at one input. -/
def strvalDedentShapeWrong : ChangeSpec := { name := "strvalDedentShape", fn := fun _ => fun
  | [d] => { results := [.lit (.bool false)], args := [d] }
  | _ => none }
def StrvalDedentShapeWrongFalsely : Prop := strvalDedentShapeRow.holds Try.pinned (OpenSpec.ofChange strvalDedentShapeWrong)

/-- 'pergolalaw06.StrvalQuoted': WHATEVER THE INPUT: true; the input reads as it did. -/
def strvalQuotedSpec : ChangeSpec := { name := "strvalQuoted", fn := fun _ => fun
  | [d] => { results := [.lit (.bool true)], args := [d] }
  | _ => none }
def strvalQuotedRow : OpenClaim := { program := "ytljnggaaohddnaa", sum := "c8fa010fd4f961895a55acd745055efbcece12bb4a378ccb02ccc6e609700f16", func := "pergola/pergolalaw06.StrvalQuoted", spec := "strvalQuoted", apart := false }
def StrvalQuotedSaid : Prop := strvalQuotedRow.holds Try.pinned (OpenSpec.ofChange strvalQuotedSpec)

/-- ITS FALSE NEIGHBOUR: 'it returns false'. Refute it at one input. -/
def strvalQuotedWrong : ChangeSpec := { name := "strvalQuoted", fn := fun _ => fun
  | [d] => { results := [.lit (.bool false)], args := [d] }
  | _ => none }
def StrvalQuotedWrongFalsely : Prop := strvalQuotedRow.holds Try.pinned (OpenSpec.ofChange strvalQuotedWrong)

/-- 'pergolalaw06.StrvalBlock': WHATEVER THE INPUT: true; the input reads as it did. -/
def strvalBlockSpec : ChangeSpec := { name := "strvalBlock", fn := fun _ => fun
  | [d] => { results := [.lit (.bool true)], args := [d] }
  | _ => none }
def strvalBlockRow : OpenClaim := { program := "ytljnggaaohddnaa", sum := "c8fa010fd4f961895a55acd745055efbcece12bb4a378ccb02ccc6e609700f16", func := "pergola/pergolalaw06.StrvalBlock", spec := "strvalBlock", apart := false }
def StrvalBlockSaid : Prop := strvalBlockRow.holds Try.pinned (OpenSpec.ofChange strvalBlockSpec)

/-- ITS FALSE NEIGHBOUR: 'it returns false'. Refute it at one input. -/
def strvalBlockWrong : ChangeSpec := { name := "strvalBlock", fn := fun _ => fun
  | [d] => { results := [.lit (.bool false)], args := [d] }
  | _ => none }
def StrvalBlockWrongFalsely : Prop := strvalBlockRow.holds Try.pinned (OpenSpec.ofChange strvalBlockWrong)

/-- 'pergolalaw06.StrvalJoined': WHATEVER THE INPUT: true; the input reads as it did. -/
def strvalJoinedSpec : ChangeSpec := { name := "strvalJoined", fn := fun _ => fun
  | [d1, d2] => { results := [.lit (.bool true)], args := [d1, d2] }
  | _ => none }
def strvalJoinedRow : OpenClaim := { program := "ytljnggaaohddnaa", sum := "c8fa010fd4f961895a55acd745055efbcece12bb4a378ccb02ccc6e609700f16", func := "pergola/pergolalaw06.StrvalJoined", spec := "strvalJoined", apart := false }
def StrvalJoinedSaid : Prop := strvalJoinedRow.holds Try.pinned (OpenSpec.ofChange strvalJoinedSpec)

/-- ITS FALSE NEIGHBOUR: 'it returns false'. Refute it at one input. -/
def strvalJoinedWrong : ChangeSpec := { name := "strvalJoined", fn := fun _ => fun
  | [d1, d2] => { results := [.lit (.bool false)], args := [d1, d2] }
  | _ => none }
def StrvalJoinedWrongFalsely : Prop := strvalJoinedRow.holds Try.pinned (OpenSpec.ofChange strvalJoinedWrong)

/-- 'pergolalaw06.StrvalFresh': WHATEVER THE INPUT: true; the input reads as it did. -/
def strvalFreshSpec : ChangeSpec := { name := "strvalFresh", fn := fun _ => fun
  | [d1, d2] => { results := [.lit (.bool true)], args := [d1, d2] }
  | _ => none }
def strvalFreshRow : OpenClaim := { program := "ytljnggaaohddnaa", sum := "c8fa010fd4f961895a55acd745055efbcece12bb4a378ccb02ccc6e609700f16", func := "pergola/pergolalaw06.StrvalFresh", spec := "strvalFresh", apart := false }
def StrvalFreshSaid : Prop := strvalFreshRow.holds Try.pinned (OpenSpec.ofChange strvalFreshSpec)

/-- ITS FALSE NEIGHBOUR: 'it returns false'. Refute it at one input. -/
def strvalFreshWrong : ChangeSpec := { name := "strvalFresh", fn := fun _ => fun
  | [d1, d2] => { results := [.lit (.bool false)], args := [d1, d2] }
  | _ => none }
def StrvalFreshWrongFalsely : Prop := strvalFreshRow.holds Try.pinned (OpenSpec.ofChange strvalFreshWrong)

/-- 'pergolatop.WholeNames': WHATEVER THE INPUT: true; the input reads as it did. -/
def wholeNamesSpec : ChangeSpec := { name := "wholeNames", fn := fun _ => fun
  | [] => { results := [.lit (.bool true)], args := [] }
  | _ => none }
def wholeNamesRow : OpenClaim := { program := "ytljnggaaohddnaa", sum := "c8fa010fd4f961895a55acd745055efbcece12bb4a378ccb02ccc6e609700f16", func := "pergola/pergolatop.WholeNames", spec := "wholeNames", apart := false }
def WholeNamesSaid : Prop := wholeNamesRow.holds Try.pinned (OpenSpec.ofChange wholeNamesSpec)

/-- ITS FALSE NEIGHBOUR: 'it returns false'. Refute it at one input. -/
def wholeNamesWrong : ChangeSpec := { name := "wholeNames", fn := fun _ => fun
  | [] => { results := [.lit (.bool false)], args := [] }
  | _ => none }
def WholeNamesWrongFalsely : Prop := wholeNamesRow.holds Try.pinned (OpenSpec.ofChange wholeNamesWrong)

/- THE SECOND FORM. 'bulk': how many values and letters a reading holds, each counted each time it is reached (what is shared counts as often as it is met; a slice's spare places count too). A statement '..UptoSaid' is the law's where the arguments, and the package variables that the reading takes, are together of bulk at most 1048576: NARROWER than '..Said'. Prove '..Said' where nothing that the law and all that it calls make is longer than what came in: it says more and counts as full. Else prove '..UptoSaid'. A law counts once. -/
mutual
def uptoBulk {H : Type} : DataW H → Nat
  | .lit (.string bytes) => bytes.length + 1
  | .lit _ => 1
  | .nil => 1
  | .ptr d => uptoBulk d + 1
  | .slice elems spare => uptoBulkAll elems + uptoBulkAll spare + 1
  | .agg parts => uptoBulkAll parts + 1
  | .iface _ d => uptoBulk d + 1
  | .map entries => uptoBulkEntries entries + 1
  | .held _ => 1
def uptoBulkAll {H : Type} : List (DataW H) → Nat
  | [] => 0
  | d :: r => uptoBulk d + uptoBulkAll r
def uptoBulkEntries {H : Type} : List (Lit × DataW H) → Nat
  | [] => 0
  | x :: r => uptoBulkEntry x + uptoBulkEntries r
def uptoBulkEntry {H : Type} : Lit × DataW H → Nat
  | (.string bytes, d) => bytes.length + uptoBulk d + 1
  | (_, d) => uptoBulk d + 1
 end
def uptoSmall : (H : Type) → List (DataW H) → Bool := fun _ ds => decide (uptoBulkAll ds ≤ 1048576)
def OpenSpec.upto (s : _root_.Go.ChangeSpec) : _root_.Go.OpenSpec := { _root_.Go.OpenSpec.ofChange s with cond := some uptoSmall }

/-- 'pergolalaw07.LexNames', WHERE WHAT IT READS IS OF BULK AT MOST 1048576: true; the input reads as it did. -/
def lexNamesUptoRow : OpenClaim := { program := "ytljnggaaohddnaa", sum := "c8fa010fd4f961895a55acd745055efbcece12bb4a378ccb02ccc6e609700f16", func := "pergola/pergolalaw07.LexNames", spec := "lexNames", apart := false, narrowed := true }
def LexNamesUptoSaid : Prop := lexNamesUptoRow.holds Try.pinned (OpenSpec.upto lexNamesSpec)

/-- 'pergolalaw08.PartsNames', WHERE WHAT IT READS IS OF BULK AT MOST 1048576: true; the input reads as it did. -/
def partsNamesUptoRow : OpenClaim := { program := "ytljnggaaohddnaa", sum := "c8fa010fd4f961895a55acd745055efbcece12bb4a378ccb02ccc6e609700f16", func := "pergola/pergolalaw08.PartsNames", spec := "partsNames", apart := false, narrowed := true }
def PartsNamesUptoSaid : Prop := partsNamesUptoRow.holds Try.pinned (OpenSpec.upto partsNamesSpec)

/-- 'pergolalaw06.StrvalDedent', WHERE WHAT IT READS IS OF BULK AT MOST 1048576: true; the input reads as it did. -/
def strvalDedentUptoRow : OpenClaim := { program := "ytljnggaaohddnaa", sum := "c8fa010fd4f961895a55acd745055efbcece12bb4a378ccb02ccc6e609700f16", func := "pergola/pergolalaw06.StrvalDedent", spec := "strvalDedent", apart := false, narrowed := true }
def StrvalDedentUptoSaid : Prop := strvalDedentUptoRow.holds Try.pinned (OpenSpec.upto strvalDedentSpec)

/-- 'pergolalaw06.StrvalDedentShape', WHERE WHAT IT READS IS OF BULK AT MOST 1048576: true; the input reads as it did. -/
def strvalDedentShapeUptoRow : OpenClaim := { program := "ytljnggaaohddnaa", sum := "c8fa010fd4f961895a55acd745055efbcece12bb4a378ccb02ccc6e609700f16", func := "pergola/pergolalaw06.StrvalDedentShape", spec := "strvalDedentShape", apart := false, narrowed := true }
def StrvalDedentShapeUptoSaid : Prop := strvalDedentShapeUptoRow.holds Try.pinned (OpenSpec.upto strvalDedentShapeSpec)

/-- 'pergolalaw06.StrvalQuoted', WHERE WHAT IT READS IS OF BULK AT MOST 1048576: true; the input reads as it did. -/
def strvalQuotedUptoRow : OpenClaim := { program := "ytljnggaaohddnaa", sum := "c8fa010fd4f961895a55acd745055efbcece12bb4a378ccb02ccc6e609700f16", func := "pergola/pergolalaw06.StrvalQuoted", spec := "strvalQuoted", apart := false, narrowed := true }
def StrvalQuotedUptoSaid : Prop := strvalQuotedUptoRow.holds Try.pinned (OpenSpec.upto strvalQuotedSpec)

/-- 'pergolalaw06.StrvalBlock', WHERE WHAT IT READS IS OF BULK AT MOST 1048576: true; the input reads as it did. -/
def strvalBlockUptoRow : OpenClaim := { program := "ytljnggaaohddnaa", sum := "c8fa010fd4f961895a55acd745055efbcece12bb4a378ccb02ccc6e609700f16", func := "pergola/pergolalaw06.StrvalBlock", spec := "strvalBlock", apart := false, narrowed := true }
def StrvalBlockUptoSaid : Prop := strvalBlockUptoRow.holds Try.pinned (OpenSpec.upto strvalBlockSpec)

/-- 'pergolalaw06.StrvalJoined', WHERE WHAT IT READS IS OF BULK AT MOST 1048576: true; the input reads as it did. -/
def strvalJoinedUptoRow : OpenClaim := { program := "ytljnggaaohddnaa", sum := "c8fa010fd4f961895a55acd745055efbcece12bb4a378ccb02ccc6e609700f16", func := "pergola/pergolalaw06.StrvalJoined", spec := "strvalJoined", apart := false, narrowed := true }
def StrvalJoinedUptoSaid : Prop := strvalJoinedUptoRow.holds Try.pinned (OpenSpec.upto strvalJoinedSpec)

/-- 'pergolalaw06.StrvalFresh', WHERE WHAT IT READS IS OF BULK AT MOST 1048576: true; the input reads as it did. -/
def strvalFreshUptoRow : OpenClaim := { program := "ytljnggaaohddnaa", sum := "c8fa010fd4f961895a55acd745055efbcece12bb4a378ccb02ccc6e609700f16", func := "pergola/pergolalaw06.StrvalFresh", spec := "strvalFresh", apart := false, narrowed := true }
def StrvalFreshUptoSaid : Prop := strvalFreshUptoRow.holds Try.pinned (OpenSpec.upto strvalFreshSpec)

/-- 'pergolatop.WholeNames', WHERE WHAT IT READS IS OF BULK AT MOST 1048576: true; the input reads as it did. -/
def wholeNamesUptoRow : OpenClaim := { program := "ytljnggaaohddnaa", sum := "c8fa010fd4f961895a55acd745055efbcece12bb4a378ccb02ccc6e609700f16", func := "pergola/pergolatop.WholeNames", spec := "wholeNames", apart := false, narrowed := true }
def WholeNamesUptoSaid : Prop := wholeNamesUptoRow.holds Try.pinned (OpenSpec.upto wholeNamesSpec)

end Rows
end Go.Proofs.Ytljnggaaohddnaa
