/-
  DERIVED. GIVEN WITH THE SEED: THE CARDS: each row of YtonkenlkigfeoaaGreatDoorRows.lean that lists a variable, with what it lists TIED to the program's text (the seventh form; the later family's looks); each row that meets fmt, with fmt's text TOLD by the authors' own Lean function (tested against real Go, not proved from fmt's source: count such statements apart). THE CARD IS WHAT COUNTS. Prove the row's statement (the work); the ties are given (YtonkenlkigfeoaaGreatDoorTie.lean); close each card by the builder's one call (the guide's Derived/Test/ToyasCard.lean, 'card_holds'). Laid BY PROGRAM, IN A SANDBOX (cutbox-door.mjs). By AI agents, Wed Nov 11 2026. No macro, syntax, notation, axiom, sorry.
-/
import Derived.Test.YtonkenlkigfeoaaGreatDoorRows
import GoSem.ClaimSeven
namespace Go.Proofs.YtonkenlkigfeoaaGreatDoor
namespace Rows

/-- THE TIED CARD OF 'fretsawlaw17.ConfigBack'. -/
def configBackCard : Claim7 := { stood := { row := configBackRow, standIns := [], harness := (true, "2bbeccdae1b5b350bde0e65b314b779a6a72a3a9922c83e7cec4668a0af37bf2"), looks := true }, kinds := [], alts := [], laidByText := true, laidKinds := [.data, .data, .data], laidTests := true, laidLooks := .later }
def ConfigBackCardSaid : Prop := Claim7.holds Tryz.pinned (.plain (OpenSpec.ofChange configBackSpec)) configBackCard

/-- THE TIED CARD OF 'fretsawlaw17.ConfigAgain'. -/
def configAgainCard : Claim7 := { stood := { row := configAgainRow, standIns := [], harness := (true, "2bbeccdae1b5b350bde0e65b314b779a6a72a3a9922c83e7cec4668a0af37bf2"), looks := true }, kinds := [], alts := [], laidByText := true, laidKinds := [.data, .data, .data], laidTests := true, laidLooks := .later }
def ConfigAgainCardSaid : Prop := Claim7.holds Tryz.pinned (.plain (OpenSpec.ofChange configAgainSpec)) configAgainCard

/-- THE SECOND FORM's CARD OF 'fretsawlaw17.ConfigBack'. -/
def configBackUptoCard : Claim7 := { stood := { row := configBackUptoRow, standIns := [], harness := (true, "2bbeccdae1b5b350bde0e65b314b779a6a72a3a9922c83e7cec4668a0af37bf2"), looks := true }, kinds := [], alts := [], laidByText := true, laidKinds := [.data, .data, .data], laidTests := true, laidLooks := .later }
def ConfigBackUptoCardSaid : Prop := Claim7.holds Tryz.pinned (.plain (OpenSpec.upto configBackSpec)) configBackUptoCard

/-- THE SECOND FORM's CARD OF 'fretsawlaw17.ConfigAgain'. -/
def configAgainUptoCard : Claim7 := { stood := { row := configAgainUptoRow, standIns := [], harness := (true, "2bbeccdae1b5b350bde0e65b314b779a6a72a3a9922c83e7cec4668a0af37bf2"), looks := true }, kinds := [], alts := [], laidByText := true, laidKinds := [.data, .data, .data], laidTests := true, laidLooks := .later }
def ConfigAgainUptoCardSaid : Prop := Claim7.holds Tryz.pinned (.plain (OpenSpec.upto configAgainSpec)) configAgainUptoCard
end Rows
end Go.Proofs.YtonkenlkigfeoaaGreatDoor
