/-
  NARROWER THAN 'FOR EVERY INPUT', by the rows' own cells (each row's printed sentence says how): UtfTakes: laid · UtfTexts: laid · UtfMended: laid · UtfBehind: laid · UtfWrites: laid.
  DERIVED. THE GIVEN ROWS OF THIS SEAT. 5 by the template 'for every input the law returns true; each argument reads behind the call as it read before'; 0 by the template 'total and deterministic' (their statements: YtodicgphndoalaaDoorTotals.lean).
  GIVEN WITH THE SEED: the statements are not yours to turn. If you find one false, say at which input.
  Laid BY PROGRAM, IN A SANDBOX (cutbox-rows.mjs): the forced cells as the released guide's own fill.sh prints them over the translation 7676d8a6f842d5b0… (all of the seat's roots in one cut). By AI agents, Wed Nov 11 2026. No macro, syntax, notation, axiom, sorry.
-/
import Derived.Test.YtodicgphndoalaaDoorChecked
import GoSem.PinnedTables
import GoSem.Claim
import GoSem.ClaimJoined
import GoSem.ClaimMapViews
import Derived.JoinedTies
import Derived.KernelRfl
namespace Go.Proofs.YtodicgphndoalaaDoor
/- THE CELL 'sum', in the pinned program and in every row, IS THE sha256 OF THE DUMP (.gsa) THAT YtodicgphndoalaaDoorProg.lean LOADS. Nothing in Lean hashes anything: it is a label: what it is worth is what the hold of that sum in a sandbox is worth. -/
noncomputable def Tryd.pinned : Pinned := { name := "ytodicgphndoalaadoor", sum := "7676d8a6f842d5b02ca22ca3744cc930cbfa5efe6614af812099ceaa18680d3d", checked := Tryd.checked }
namespace Rows
def none {H : Type} : Left H := { results := [], args := [] }

/- WHAT THE LISTED PACKAGE-LEVEL VARIABLES READ AS WHEN THE CALL BEGINS. Each datum BY PROGRAM (the guide's laid-datum.mjs) off the statement by which the dump's own 'gosem.cut.vars' lays the variable. In a bare row this is a premise. The card (YtodicgphndoalaaDoorCards.lean) ties it to the program's text. -/
def laid_unicode_utf8_acceptRanges {H : Type} : DataW H := .agg [.agg [.lit (.int .u8 128), .lit (.int .u8 191)], .agg [.lit (.int .u8 160), .lit (.int .u8 191)], .agg [.lit (.int .u8 128), .lit (.int .u8 159)], .agg [.lit (.int .u8 144), .lit (.int .u8 191)], .agg [.lit (.int .u8 128), .lit (.int .u8 143)], .agg [.lit (.int .u8 0), .lit (.int .u8 0)], .agg [.lit (.int .u8 0), .lit (.int .u8 0)], .agg [.lit (.int .u8 0), .lit (.int .u8 0)], .agg [.lit (.int .u8 0), .lit (.int .u8 0)], .agg [.lit (.int .u8 0), .lit (.int .u8 0)], .agg [.lit (.int .u8 0), .lit (.int .u8 0)], .agg [.lit (.int .u8 0), .lit (.int .u8 0)], .agg [.lit (.int .u8 0), .lit (.int .u8 0)], .agg [.lit (.int .u8 0), .lit (.int .u8 0)], .agg [.lit (.int .u8 0), .lit (.int .u8 0)], .agg [.lit (.int .u8 0), .lit (.int .u8 0)]]
/-- One of Go's own tables, pinned by name: the form's constant. -/
def laid_unicode_utf8_first : DataW Unit := Go.Pinned.utf8First

/-- 'fretsawlaw01.UtfTakes': WHATEVER THE INPUT: true; the input reads as it did. -/
def utfTakesSpec : ChangeSpec := { name := "utfTakes", fn := fun _ => fun
  | [d1, d2] => { results := [.lit (.bool true)], args := [d1, d2] }
  | _ => none }
def utfTakesRow : OpenClaim := { program := "ytodicgphndoalaadoor", sum := "7676d8a6f842d5b02ca22ca3744cc930cbfa5efe6614af812099ceaa18680d3d", func := "fretsaw/fretsawlaw01.UtfTakes", spec := "utfTakes", named := ["unicode/utf8.first", "unicode/utf8.acceptRanges"], apart := false, laid := [("unicode/utf8.acceptRanges", laid_unicode_utf8_acceptRanges), ("unicode/utf8.first", laid_unicode_utf8_first)] }
def UtfTakesSaid : Prop := utfTakesRow.holds Tryd.pinned (OpenSpec.ofChange utfTakesSpec)

/-- ITS FALSE NEIGHBOUR: 'it returns false'. Refute it at one input. -/
def utfTakesWrong : ChangeSpec := { name := "utfTakes", fn := fun _ => fun
  | [d1, d2] => { results := [.lit (.bool false)], args := [d1, d2] }
  | _ => none }
def UtfTakesWrongFalsely : Prop := utfTakesRow.holds Tryd.pinned (OpenSpec.ofChange utfTakesWrong)

/-- 'fretsawlaw01.UtfTexts': WHATEVER THE INPUT: true; the input reads as it did. -/
def utfTextsSpec : ChangeSpec := { name := "utfTexts", fn := fun _ => fun
  | [d] => { results := [.lit (.bool true)], args := [d] }
  | _ => none }
def utfTextsRow : OpenClaim := { program := "ytodicgphndoalaadoor", sum := "7676d8a6f842d5b02ca22ca3744cc930cbfa5efe6614af812099ceaa18680d3d", func := "fretsaw/fretsawlaw01.UtfTexts", spec := "utfTexts", inPlace := ["internal/abi.NoEscape"], named := ["unicode/utf8.first", "unicode/utf8.acceptRanges"], apart := false, laid := [("unicode/utf8.acceptRanges", laid_unicode_utf8_acceptRanges), ("unicode/utf8.first", laid_unicode_utf8_first)] }
def UtfTextsSaid : Prop := utfTextsRow.holds Tryd.pinned (OpenSpec.ofChange utfTextsSpec)

/-- ITS FALSE NEIGHBOUR: 'it returns false'. Refute it at one input. -/
def utfTextsWrong : ChangeSpec := { name := "utfTexts", fn := fun _ => fun
  | [d] => { results := [.lit (.bool false)], args := [d] }
  | _ => none }
def UtfTextsWrongFalsely : Prop := utfTextsRow.holds Tryd.pinned (OpenSpec.ofChange utfTextsWrong)

/-- 'fretsawlaw01.UtfMended': WHATEVER THE INPUT: true; the input reads as it did. -/
def utfMendedSpec : ChangeSpec := { name := "utfMended", fn := fun _ => fun
  | [d] => { results := [.lit (.bool true)], args := [d] }
  | _ => none }
def utfMendedRow : OpenClaim := { program := "ytodicgphndoalaadoor", sum := "7676d8a6f842d5b02ca22ca3744cc930cbfa5efe6614af812099ceaa18680d3d", func := "fretsaw/fretsawlaw01.UtfMended", spec := "utfMended", inPlace := ["internal/abi.NoEscape"], named := ["unicode/utf8.first", "unicode/utf8.acceptRanges"], apart := false, laid := [("unicode/utf8.acceptRanges", laid_unicode_utf8_acceptRanges), ("unicode/utf8.first", laid_unicode_utf8_first)] }
def UtfMendedSaid : Prop := utfMendedRow.holds Tryd.pinned (OpenSpec.ofChange utfMendedSpec)

/-- ITS FALSE NEIGHBOUR: 'it returns false'. Refute it at one input. -/
def utfMendedWrong : ChangeSpec := { name := "utfMended", fn := fun _ => fun
  | [d] => { results := [.lit (.bool false)], args := [d] }
  | _ => none }
def UtfMendedWrongFalsely : Prop := utfMendedRow.holds Tryd.pinned (OpenSpec.ofChange utfMendedWrong)

/-- 'fretsawlaw01.UtfBehind': WHATEVER THE INPUT: true; the input reads as it did. -/
def utfBehindSpec : ChangeSpec := { name := "utfBehind", fn := fun _ => fun
  | [d1, d2] => { results := [.lit (.bool true)], args := [d1, d2] }
  | _ => none }
def utfBehindRow : OpenClaim := { program := "ytodicgphndoalaadoor", sum := "7676d8a6f842d5b02ca22ca3744cc930cbfa5efe6614af812099ceaa18680d3d", func := "fretsaw/fretsawlaw01.UtfBehind", spec := "utfBehind", inPlace := ["internal/abi.NoEscape"], named := ["unicode/utf8.first", "unicode/utf8.acceptRanges"], apart := false, laid := [("unicode/utf8.acceptRanges", laid_unicode_utf8_acceptRanges), ("unicode/utf8.first", laid_unicode_utf8_first)] }
def UtfBehindSaid : Prop := utfBehindRow.holds Tryd.pinned (OpenSpec.ofChange utfBehindSpec)

/-- ITS FALSE NEIGHBOUR: 'it returns false'. Refute it at one input. -/
def utfBehindWrong : ChangeSpec := { name := "utfBehind", fn := fun _ => fun
  | [d1, d2] => { results := [.lit (.bool false)], args := [d1, d2] }
  | _ => none }
def UtfBehindWrongFalsely : Prop := utfBehindRow.holds Tryd.pinned (OpenSpec.ofChange utfBehindWrong)

/-- 'fretsawlaw01.UtfWrites': WHATEVER THE INPUT: true; the input reads as it did. -/
def utfWritesSpec : ChangeSpec := { name := "utfWrites", fn := fun _ => fun
  | [d] => { results := [.lit (.bool true)], args := [d] }
  | _ => none }
def utfWritesRow : OpenClaim := { program := "ytodicgphndoalaadoor", sum := "7676d8a6f842d5b02ca22ca3744cc930cbfa5efe6614af812099ceaa18680d3d", func := "fretsaw/fretsawlaw01.UtfWrites", spec := "utfWrites", named := ["unicode/utf8.first", "unicode/utf8.acceptRanges"], apart := false, laid := [("unicode/utf8.acceptRanges", laid_unicode_utf8_acceptRanges), ("unicode/utf8.first", laid_unicode_utf8_first)] }
def UtfWritesSaid : Prop := utfWritesRow.holds Tryd.pinned (OpenSpec.ofChange utfWritesSpec)

/-- ITS FALSE NEIGHBOUR: 'it returns false'. Refute it at one input. -/
def utfWritesWrong : ChangeSpec := { name := "utfWrites", fn := fun _ => fun
  | [d] => { results := [.lit (.bool false)], args := [d] }
  | _ => none }
def UtfWritesWrongFalsely : Prop := utfWritesRow.holds Tryd.pinned (OpenSpec.ofChange utfWritesWrong)

/- THE SECOND FORM. 'bulk': how many values and letters a reading holds, each counted each time it is reached (what is shared counts as often as it is met; a slice's spare places count too). A statement '..UptoSaid' is the law's where the arguments, and the package variables that the reading takes, are together of bulk at most 1048576: NARROWER than '..Said'. Prove '..Said' where nothing that the law and all that it calls make is longer than what came in: it says more and counts as full. Else prove '..UptoSaid'. A law counts once. -/
mutual
def uptoBulk {H : Type} : DataW H → Nat
  | .lit (.string bytes) => bytes.length + 1
  | .lit _ => 1
  | .nil => 1
  | .ptr d => uptoBulk d + 1
  | .slice elems spare => uptoBulkAll elems + uptoBulkAll spare + 1
  | .agg parts => uptoBulkAll parts + 1
  | .iface _ d => uptoBulk d + 1
  | .map entries => uptoBulkEntries entries + 1
  | .held _ => 1
def uptoBulkAll {H : Type} : List (DataW H) → Nat
  | [] => 0
  | d :: r => uptoBulk d + uptoBulkAll r
def uptoBulkEntries {H : Type} : List (Lit × DataW H) → Nat
  | [] => 0
  | x :: r => uptoBulkEntry x + uptoBulkEntries r
def uptoBulkEntry {H : Type} : Lit × DataW H → Nat
  | (.string bytes, d) => bytes.length + uptoBulk d + 1
  | (_, d) => uptoBulk d + 1
 end
def uptoSmall : (H : Type) → List (DataW H) → Bool := fun _ ds => decide (uptoBulkAll ds ≤ 1048576)
def OpenSpec.upto (s : _root_.Go.ChangeSpec) : _root_.Go.OpenSpec := { _root_.Go.OpenSpec.ofChange s with cond := some uptoSmall }

/-- 'fretsawlaw01.UtfTakes', WHERE WHAT IT READS IS OF BULK AT MOST 1048576: true; the input reads as it did. -/
def utfTakesUptoRow : OpenClaim := { program := "ytodicgphndoalaadoor", sum := "7676d8a6f842d5b02ca22ca3744cc930cbfa5efe6614af812099ceaa18680d3d", func := "fretsaw/fretsawlaw01.UtfTakes", spec := "utfTakes", named := ["unicode/utf8.first", "unicode/utf8.acceptRanges"], apart := false, laid := [("unicode/utf8.acceptRanges", laid_unicode_utf8_acceptRanges), ("unicode/utf8.first", laid_unicode_utf8_first)], narrowed := true }
def UtfTakesUptoSaid : Prop := utfTakesUptoRow.holds Tryd.pinned (OpenSpec.upto utfTakesSpec)

/-- 'fretsawlaw01.UtfTexts', WHERE WHAT IT READS IS OF BULK AT MOST 1048576: true; the input reads as it did. -/
def utfTextsUptoRow : OpenClaim := { program := "ytodicgphndoalaadoor", sum := "7676d8a6f842d5b02ca22ca3744cc930cbfa5efe6614af812099ceaa18680d3d", func := "fretsaw/fretsawlaw01.UtfTexts", spec := "utfTexts", inPlace := ["internal/abi.NoEscape"], named := ["unicode/utf8.first", "unicode/utf8.acceptRanges"], apart := false, laid := [("unicode/utf8.acceptRanges", laid_unicode_utf8_acceptRanges), ("unicode/utf8.first", laid_unicode_utf8_first)], narrowed := true }
def UtfTextsUptoSaid : Prop := utfTextsUptoRow.holds Tryd.pinned (OpenSpec.upto utfTextsSpec)

/-- 'fretsawlaw01.UtfMended', WHERE WHAT IT READS IS OF BULK AT MOST 1048576: true; the input reads as it did. -/
def utfMendedUptoRow : OpenClaim := { program := "ytodicgphndoalaadoor", sum := "7676d8a6f842d5b02ca22ca3744cc930cbfa5efe6614af812099ceaa18680d3d", func := "fretsaw/fretsawlaw01.UtfMended", spec := "utfMended", inPlace := ["internal/abi.NoEscape"], named := ["unicode/utf8.first", "unicode/utf8.acceptRanges"], apart := false, laid := [("unicode/utf8.acceptRanges", laid_unicode_utf8_acceptRanges), ("unicode/utf8.first", laid_unicode_utf8_first)], narrowed := true }
def UtfMendedUptoSaid : Prop := utfMendedUptoRow.holds Tryd.pinned (OpenSpec.upto utfMendedSpec)

/-- 'fretsawlaw01.UtfBehind', WHERE WHAT IT READS IS OF BULK AT MOST 1048576: true; the input reads as it did. -/
def utfBehindUptoRow : OpenClaim := { program := "ytodicgphndoalaadoor", sum := "7676d8a6f842d5b02ca22ca3744cc930cbfa5efe6614af812099ceaa18680d3d", func := "fretsaw/fretsawlaw01.UtfBehind", spec := "utfBehind", inPlace := ["internal/abi.NoEscape"], named := ["unicode/utf8.first", "unicode/utf8.acceptRanges"], apart := false, laid := [("unicode/utf8.acceptRanges", laid_unicode_utf8_acceptRanges), ("unicode/utf8.first", laid_unicode_utf8_first)], narrowed := true }
def UtfBehindUptoSaid : Prop := utfBehindUptoRow.holds Tryd.pinned (OpenSpec.upto utfBehindSpec)

/-- 'fretsawlaw01.UtfWrites', WHERE WHAT IT READS IS OF BULK AT MOST 1048576: true; the input reads as it did. -/
def utfWritesUptoRow : OpenClaim := { program := "ytodicgphndoalaadoor", sum := "7676d8a6f842d5b02ca22ca3744cc930cbfa5efe6614af812099ceaa18680d3d", func := "fretsaw/fretsawlaw01.UtfWrites", spec := "utfWrites", named := ["unicode/utf8.first", "unicode/utf8.acceptRanges"], apart := false, laid := [("unicode/utf8.acceptRanges", laid_unicode_utf8_acceptRanges), ("unicode/utf8.first", laid_unicode_utf8_first)], narrowed := true }
def UtfWritesUptoSaid : Prop := utfWritesUptoRow.holds Tryd.pinned (OpenSpec.upto utfWritesSpec)

end Rows
end Go.Proofs.YtodicgphndoalaaDoor
