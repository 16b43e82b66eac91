/-
  DERIVED. GIVEN WITH THE SEED: THE CARDS: each row of YtodicgphndoalaaDoorRows.lean that lists a variable, with what it lists TIED to the program's text (the seventh form; the later family's looks); each row that meets fmt, with fmt's text TOLD by the authors' own Lean function (tested against real Go, not proved from fmt's source: count such statements apart). THE CARD IS WHAT COUNTS. Prove the row's statement (the work); the ties are given (YtodicgphndoalaaDoorTie.lean); close each card by the builder's one call (the guide's Derived/Test/ToyasCard.lean, 'card_holds'). Laid BY PROGRAM, IN A SANDBOX (cutbox-door.mjs). By AI agents, Wed Nov 11 2026. No macro, syntax, notation, axiom, sorry.
-/
import Derived.Test.YtodicgphndoalaaDoorRows
import GoSem.ClaimSeven
namespace Go.Proofs.YtodicgphndoalaaDoor
namespace Rows

/-- THE TIED CARD OF 'fretsawlaw01.UtfTakes'. -/
def utfTakesCard : Claim7 := { stood := { row := utfTakesRow, standIns := [], harness := (true, "189d5855c835f735780a2743f595c2c7b06f1c341282665fb67532767e13b08a"), looks := false }, kinds := [], alts := [], laidByText := true, laidKinds := [.data, .pinned], laidTests := true, laidLooks := .later }
def UtfTakesCardSaid : Prop := Claim7.holds Tryd.pinned (.plain (OpenSpec.ofChange utfTakesSpec)) utfTakesCard

/-- THE TIED CARD OF 'fretsawlaw01.UtfTexts'. -/
def utfTextsCard : Claim7 := { stood := { row := utfTextsRow, standIns := [], harness := (true, "189d5855c835f735780a2743f595c2c7b06f1c341282665fb67532767e13b08a"), looks := false }, kinds := [], alts := [], laidByText := true, laidKinds := [.data, .pinned], laidTests := true, laidLooks := .later }
def UtfTextsCardSaid : Prop := Claim7.holds Tryd.pinned (.plain (OpenSpec.ofChange utfTextsSpec)) utfTextsCard

/-- THE TIED CARD OF 'fretsawlaw01.UtfMended'. -/
def utfMendedCard : Claim7 := { stood := { row := utfMendedRow, standIns := [], harness := (true, "189d5855c835f735780a2743f595c2c7b06f1c341282665fb67532767e13b08a"), looks := false }, kinds := [], alts := [], laidByText := true, laidKinds := [.data, .pinned], laidTests := true, laidLooks := .later }
def UtfMendedCardSaid : Prop := Claim7.holds Tryd.pinned (.plain (OpenSpec.ofChange utfMendedSpec)) utfMendedCard

/-- THE TIED CARD OF 'fretsawlaw01.UtfBehind'. -/
def utfBehindCard : Claim7 := { stood := { row := utfBehindRow, standIns := [], harness := (true, "189d5855c835f735780a2743f595c2c7b06f1c341282665fb67532767e13b08a"), looks := false }, kinds := [], alts := [], laidByText := true, laidKinds := [.data, .pinned], laidTests := true, laidLooks := .later }
def UtfBehindCardSaid : Prop := Claim7.holds Tryd.pinned (.plain (OpenSpec.ofChange utfBehindSpec)) utfBehindCard

/-- THE TIED CARD OF 'fretsawlaw01.UtfWrites'. -/
def utfWritesCard : Claim7 := { stood := { row := utfWritesRow, standIns := [], harness := (true, "189d5855c835f735780a2743f595c2c7b06f1c341282665fb67532767e13b08a"), looks := false }, kinds := [], alts := [], laidByText := true, laidKinds := [.data, .pinned], laidTests := true, laidLooks := .later }
def UtfWritesCardSaid : Prop := Claim7.holds Tryd.pinned (.plain (OpenSpec.ofChange utfWritesSpec)) utfWritesCard

/-- THE SECOND FORM's CARD OF 'fretsawlaw01.UtfTakes'. -/
def utfTakesUptoCard : Claim7 := { stood := { row := utfTakesUptoRow, standIns := [], harness := (true, "189d5855c835f735780a2743f595c2c7b06f1c341282665fb67532767e13b08a"), looks := false }, kinds := [], alts := [], laidByText := true, laidKinds := [.data, .pinned], laidTests := true, laidLooks := .later }
def UtfTakesUptoCardSaid : Prop := Claim7.holds Tryd.pinned (.plain (OpenSpec.upto utfTakesSpec)) utfTakesUptoCard

/-- THE SECOND FORM's CARD OF 'fretsawlaw01.UtfTexts'. -/
def utfTextsUptoCard : Claim7 := { stood := { row := utfTextsUptoRow, standIns := [], harness := (true, "189d5855c835f735780a2743f595c2c7b06f1c341282665fb67532767e13b08a"), looks := false }, kinds := [], alts := [], laidByText := true, laidKinds := [.data, .pinned], laidTests := true, laidLooks := .later }
def UtfTextsUptoCardSaid : Prop := Claim7.holds Tryd.pinned (.plain (OpenSpec.upto utfTextsSpec)) utfTextsUptoCard

/-- THE SECOND FORM's CARD OF 'fretsawlaw01.UtfMended'. -/
def utfMendedUptoCard : Claim7 := { stood := { row := utfMendedUptoRow, standIns := [], harness := (true, "189d5855c835f735780a2743f595c2c7b06f1c341282665fb67532767e13b08a"), looks := false }, kinds := [], alts := [], laidByText := true, laidKinds := [.data, .pinned], laidTests := true, laidLooks := .later }
def UtfMendedUptoCardSaid : Prop := Claim7.holds Tryd.pinned (.plain (OpenSpec.upto utfMendedSpec)) utfMendedUptoCard

/-- THE SECOND FORM's CARD OF 'fretsawlaw01.UtfBehind'. -/
def utfBehindUptoCard : Claim7 := { stood := { row := utfBehindUptoRow, standIns := [], harness := (true, "189d5855c835f735780a2743f595c2c7b06f1c341282665fb67532767e13b08a"), looks := false }, kinds := [], alts := [], laidByText := true, laidKinds := [.data, .pinned], laidTests := true, laidLooks := .later }
def UtfBehindUptoCardSaid : Prop := Claim7.holds Tryd.pinned (.plain (OpenSpec.upto utfBehindSpec)) utfBehindUptoCard

/-- THE SECOND FORM's CARD OF 'fretsawlaw01.UtfWrites'. -/
def utfWritesUptoCard : Claim7 := { stood := { row := utfWritesUptoRow, standIns := [], harness := (true, "189d5855c835f735780a2743f595c2c7b06f1c341282665fb67532767e13b08a"), looks := false }, kinds := [], alts := [], laidByText := true, laidKinds := [.data, .pinned], laidTests := true, laidLooks := .later }
def UtfWritesUptoCardSaid : Prop := Claim7.holds Tryd.pinned (.plain (OpenSpec.upto utfWritesSpec)) utfWritesUptoCard
end Rows
end Go.Proofs.YtodicgphndoalaaDoor
