/-
  DERIVED. GIVEN WITH THE SEED: THE CARDS: each row of YtkdbdpcdggildaaDoorRows.lean that lists a variable, with what it lists TIED to the program's text (the seventh form; the later family's looks); each row that meets fmt, with fmt's text TOLD by the authors' own Lean function (tested against real Go, not proved from fmt's source: count such statements apart). THE CARD IS WHAT COUNTS. Prove the row's statement (the work); the ties are given (YtkdbdpcdggildaaDoorTie.lean); close each card by the builder's one call (the guide's Derived/Test/ToyasCard.lean, 'card_holds'). Laid BY PROGRAM, IN A SANDBOX (cutbox-door.mjs). By AI agents, Wed Nov 11 2026. No macro, syntax, notation, axiom, sorry.
-/
import Derived.Test.YtkdbdpcdggildaaDoorRows
import GoSem.ClaimSeven
namespace Go.Proofs.YtkdbdpcdggildaaDoor
namespace Rows

/-- THE TIED CARD OF 'fretsawlaw06.RegexPrints'. -/
def regexPrintsCard : Claim7 := { stood := { row := regexPrintsRow, standIns := [], harness := (true, "49ab5c212e45145e670bf4052c16f94d011a4462c9a47122c713017b53923757"), looks := false }, kinds := [], alts := [], laidByText := true, laidKinds := [.data, .data, .data], laidTests := true, laidLooks := .later }
def RegexPrintsCardSaid : Prop := Claim7.holds Tryd.pinned (.plain (OpenSpec.ofChange regexPrintsSpec)) regexPrintsCard

/-- THE TIED CARD OF 'fretsawlaw17.ConfigPrints'. -/
def configPrintsCard : Claim7 := { stood := { row := configPrintsRow, standIns := [], harness := (true, "49ab5c212e45145e670bf4052c16f94d011a4462c9a47122c713017b53923757"), looks := false }, kinds := [], alts := [], laidByText := true, laidKinds := [.data, .data, .data], laidTests := true, laidLooks := .later }
def ConfigPrintsCardSaid : Prop := Claim7.holds Tryd.pinned (.plain (OpenSpec.ofChange configPrintsSpec)) configPrintsCard

/-- THE SECOND FORM's CARD OF 'fretsawlaw06.RegexPrints'. -/
def regexPrintsUptoCard : Claim7 := { stood := { row := regexPrintsUptoRow, standIns := [], harness := (true, "49ab5c212e45145e670bf4052c16f94d011a4462c9a47122c713017b53923757"), looks := false }, kinds := [], alts := [], laidByText := true, laidKinds := [.data, .data, .data], laidTests := true, laidLooks := .later }
def RegexPrintsUptoCardSaid : Prop := Claim7.holds Tryd.pinned (.plain (OpenSpec.upto regexPrintsSpec)) regexPrintsUptoCard

/-- THE SECOND FORM's CARD OF 'fretsawlaw17.ConfigPrints'. -/
def configPrintsUptoCard : Claim7 := { stood := { row := configPrintsUptoRow, standIns := [], harness := (true, "49ab5c212e45145e670bf4052c16f94d011a4462c9a47122c713017b53923757"), looks := false }, kinds := [], alts := [], laidByText := true, laidKinds := [.data, .data, .data], laidTests := true, laidLooks := .later }
def ConfigPrintsUptoCardSaid : Prop := Claim7.holds Tryd.pinned (.plain (OpenSpec.upto configPrintsSpec)) configPrintsUptoCard
end Rows
end Go.Proofs.YtkdbdpcdggildaaDoor
