/-
  DERIVED. GIVEN WITH THE SEED: THE CARDS: each row of YtnbfifmnigeolaaDoorRows.lean that lists a variable, with what it lists TIED to the program's text (the seventh form; the later family's looks); each row that meets fmt, with fmt's text TOLD by the authors' own Lean function (tested against real Go, not proved from fmt's source: count such statements apart). THE CARD IS WHAT COUNTS. Prove the row's statement (the work); the ties are given (YtnbfifmnigeolaaDoorTie.lean); close each card by the builder's one call (the guide's Derived/Test/ToyasCard.lean, 'card_holds'). Laid BY PROGRAM, IN A SANDBOX (cutbox-door.mjs). By AI agents, Wed Nov 11 2026. No macro, syntax, notation, axiom, sorry.
-/
import Derived.Test.YtnbfifmnigeolaaDoorRows
import GoSem.ClaimSeven
namespace Go.Proofs.YtnbfifmnigeolaaDoor
namespace Rows

/-- THE TIED CARD OF 'fretsawlaw06.RegexBack'. -/
def regexBackCard : Claim7 := { stood := { row := regexBackRow, standIns := [], harness := (true, "4c6b571fe12d8ef938852b800b8ef1f7e7f597d74b2dd4e539e8f78cc7557eeb"), looks := true }, kinds := [], alts := [], laidByText := true, laidKinds := [.data, .data, .data], laidTests := true, laidLooks := .later }
def RegexBackCardSaid : Prop := Claim7.holds Tryd.pinned (.plain (OpenSpec.ofChange regexBackSpec)) regexBackCard

/-- THE TIED CARD OF 'fretsawlaw06.RegexAgain'. -/
def regexAgainCard : Claim7 := { stood := { row := regexAgainRow, standIns := [], harness := (true, "4c6b571fe12d8ef938852b800b8ef1f7e7f597d74b2dd4e539e8f78cc7557eeb"), looks := true }, kinds := [], alts := [], laidByText := true, laidKinds := [.data, .data, .data], laidTests := true, laidLooks := .later }
def RegexAgainCardSaid : Prop := Claim7.holds Tryd.pinned (.plain (OpenSpec.ofChange regexAgainSpec)) regexAgainCard

/-- THE SECOND FORM's CARD OF 'fretsawlaw06.RegexBack'. -/
def regexBackUptoCard : Claim7 := { stood := { row := regexBackUptoRow, standIns := [], harness := (true, "4c6b571fe12d8ef938852b800b8ef1f7e7f597d74b2dd4e539e8f78cc7557eeb"), looks := true }, kinds := [], alts := [], laidByText := true, laidKinds := [.data, .data, .data], laidTests := true, laidLooks := .later }
def RegexBackUptoCardSaid : Prop := Claim7.holds Tryd.pinned (.plain (OpenSpec.upto regexBackSpec)) regexBackUptoCard

/-- THE SECOND FORM's CARD OF 'fretsawlaw06.RegexAgain'. -/
def regexAgainUptoCard : Claim7 := { stood := { row := regexAgainUptoRow, standIns := [], harness := (true, "4c6b571fe12d8ef938852b800b8ef1f7e7f597d74b2dd4e539e8f78cc7557eeb"), looks := true }, kinds := [], alts := [], laidByText := true, laidKinds := [.data, .data, .data], laidTests := true, laidLooks := .later }
def RegexAgainUptoCardSaid : Prop := Claim7.holds Tryd.pinned (.plain (OpenSpec.upto regexAgainSpec)) regexAgainUptoCard
end Rows
end Go.Proofs.YtnbfifmnigeolaaDoor
