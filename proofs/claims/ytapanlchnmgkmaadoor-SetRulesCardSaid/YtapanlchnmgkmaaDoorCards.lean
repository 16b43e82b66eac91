/-
  DERIVED. GIVEN WITH THE SEED: THE CARDS: each row of YtapanlchnmgkmaaDoorRows.lean that lists a variable, with what it lists TIED to the program's text (the seventh form; the later family's looks); each row that meets fmt, with fmt's text TOLD by the authors' own Lean function (tested against real Go, not proved from fmt's source: count such statements apart). THE CARD IS WHAT COUNTS. Prove the row's statement (the work); the ties are given (YtapanlchnmgkmaaDoorTie.lean); close each card by the builder's one call (the guide's Derived/Test/ToyasCard.lean, 'card_holds'). Laid BY PROGRAM, IN A SANDBOX (cutbox-door.mjs). By AI agents, Wed Nov 11 2026. No macro, syntax, notation, axiom, sorry.
-/
import Derived.Test.YtapanlchnmgkmaaDoorRows
import GoSem.ClaimSeven
namespace Go.Proofs.YtapanlchnmgkmaaDoor
namespace Rows

/-- THE TIED CARD OF 'fretsawlaw05.SetMakes'. -/
def setMakesCard : Claim7 := { stood := { row := setMakesRow, standIns := [], harness := (true, "002dba2be4f9ba3e492c0adfd5434e4290b71ea631642f0ea4ae37b881075583"), looks := false }, kinds := [], alts := [], laidByText := true, laidKinds := [.data], laidTests := true, laidLooks := .later }
def SetMakesCardSaid : Prop := Claim7.holds Tryd.pinned (.plain (OpenSpec.ofChange setMakesSpec)) setMakesCard

/-- THE TIED CARD OF 'fretsawlaw05.SetRules'. -/
def setRulesCard : Claim7 := { stood := { row := setRulesRow, standIns := [], harness := (true, "002dba2be4f9ba3e492c0adfd5434e4290b71ea631642f0ea4ae37b881075583"), looks := false }, kinds := [], alts := [], laidByText := true, laidKinds := [.data], laidTests := true, laidLooks := .later }
def SetRulesCardSaid : Prop := Claim7.holds Tryd.pinned (.plain (OpenSpec.ofChange setRulesSpec)) setRulesCard

/-- THE SECOND FORM's CARD OF 'fretsawlaw05.SetMakes'. -/
def setMakesUptoCard : Claim7 := { stood := { row := setMakesUptoRow, standIns := [], harness := (true, "002dba2be4f9ba3e492c0adfd5434e4290b71ea631642f0ea4ae37b881075583"), looks := false }, kinds := [], alts := [], laidByText := true, laidKinds := [.data], laidTests := true, laidLooks := .later }
def SetMakesUptoCardSaid : Prop := Claim7.holds Tryd.pinned (.plain (OpenSpec.upto setMakesSpec)) setMakesUptoCard

/-- THE SECOND FORM's CARD OF 'fretsawlaw05.SetRules'. -/
def setRulesUptoCard : Claim7 := { stood := { row := setRulesUptoRow, standIns := [], harness := (true, "002dba2be4f9ba3e492c0adfd5434e4290b71ea631642f0ea4ae37b881075583"), looks := false }, kinds := [], alts := [], laidByText := true, laidKinds := [.data], laidTests := true, laidLooks := .later }
def SetRulesUptoCardSaid : Prop := Claim7.holds Tryd.pinned (.plain (OpenSpec.upto setRulesSpec)) setRulesUptoCard
end Rows
end Go.Proofs.YtapanlchnmgkmaaDoor
