/-
  DERIVED. GIVEN WITH THE SEED: THE CARDS: each row of YtonkenlkigfeoaaDoorRows.lean that lists a variable, with what it lists TIED to the program's text (the seventh form; the later family's looks); each row that meets fmt, with fmt's text TOLD by the authors' own Lean function (tested against real Go, not proved from fmt's source: count such statements apart). THE CARD IS WHAT COUNTS. Prove the row's statement (the work); the ties are given (YtonkenlkigfeoaaDoorTie.lean); close each card by the builder's one call (the guide's Derived/Test/ToyasCard.lean, 'card_holds'). Laid BY PROGRAM, IN A SANDBOX (cutbox-door.mjs). By AI agents, Wed Nov 11 2026. No macro, syntax, notation, axiom, sorry.
-/
import Derived.Test.YtonkenlkigfeoaaDoorRows
import GoSem.ClaimSeven
namespace Go.Proofs.YtonkenlkigfeoaaDoor
namespace Rows

/-- THE TIED CARD OF 'fretsawlaw17.ConfigNotes'. -/
def configNotesCard : Claim7 := { stood := { row := configNotesRow, standIns := [], harness := (true, "b603e0f3fb5880a5121e7b6efa34b5963c0167a499eb01be734b986403687158"), looks := true }, kinds := [], alts := [], laidByText := true, laidKinds := [.data, .pinned], laidTests := true, laidLooks := .later }
def ConfigNotesCardSaid : Prop := Claim7.holds Tryd.pinned (.plain (OpenSpec.ofChange configNotesSpec)) configNotesCard

/-- THE SECOND FORM's CARD OF 'fretsawlaw17.ConfigNotes'. -/
def configNotesUptoCard : Claim7 := { stood := { row := configNotesUptoRow, standIns := [], harness := (true, "b603e0f3fb5880a5121e7b6efa34b5963c0167a499eb01be734b986403687158"), looks := true }, kinds := [], alts := [], laidByText := true, laidKinds := [.data, .pinned], laidTests := true, laidLooks := .later }
def ConfigNotesUptoCardSaid : Prop := Claim7.holds Tryd.pinned (.plain (OpenSpec.upto configNotesSpec)) configNotesUptoCard
end Rows
end Go.Proofs.YtonkenlkigfeoaaDoor
