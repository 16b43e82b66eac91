/-
  DERIVED. GIVEN WITH THE SEED: THE CARDS: each row of YtpelngkhipcneaaDoorRows.lean that lists a variable, with what it lists TIED to the program's text (the seventh form; the later family's looks); each row that meets fmt, with fmt's text TOLD by the authors' own Lean function (tested against real Go, not proved from fmt's source: count such statements apart). THE CARD IS WHAT COUNTS. Prove the row's statement (the work); the ties are given (YtpelngkhipcneaaDoorTie.lean); close each card by the builder's one call (the guide's Derived/Test/ToyasCard.lean, 'card_holds'). Laid BY PROGRAM, IN A SANDBOX (cutbox-door.mjs). By AI agents, Wed Nov 11 2026. No macro, syntax, notation, axiom, sorry.
-/
import Derived.Test.YtpelngkhipcneaaDoorRows
import GoSem.ClaimSeven
namespace Go.Proofs.YtpelngkhipcneaaDoor
namespace Rows

/-- THE TIED CARD OF 'fretsawlaw21.IsaPuts'. -/
def isaPutsCard : Claim7 := { stood := { row := isaPutsRow, standIns := [], harness := (true, "c30af46c4a7cf8555f9b1d04331f89f6e5676f679ef9a905459a33117a923f78"), looks := true }, kinds := [], alts := [], laidByText := true, laidKinds := [.data, .data, .data], laidTests := true, laidLooks := .later }
def IsaPutsCardSaid : Prop := Claim7.holds Tryd.pinned (.plain (OpenSpec.ofChange isaPutsSpec)) isaPutsCard

/-- THE TIED CARD OF 'fretsawlaw21.IsaParses'. -/
def isaParsesCard : Claim7 := { stood := { row := isaParsesRow, standIns := [], harness := (true, "c30af46c4a7cf8555f9b1d04331f89f6e5676f679ef9a905459a33117a923f78"), looks := true }, kinds := [], alts := [], laidByText := true, laidKinds := [.data, .data, .data, .data, .sentinel, .sentinel, .pinned], laidTests := true, laidLooks := .later }
def IsaParsesCardSaid : Prop := Claim7.holds Tryd.pinned (.plain (OpenSpec.ofChange isaParsesSpec)) isaParsesCard

/-- THE TIED CARD OF 'fretsawlaw21.IsaBack'. -/
def isaBackCard : Claim7 := { stood := { row := isaBackRow, standIns := [], harness := (true, "c30af46c4a7cf8555f9b1d04331f89f6e5676f679ef9a905459a33117a923f78"), looks := true }, kinds := [], alts := [], laidByText := true, laidKinds := [.data, .data, .data, .data, .sentinel, .sentinel, .pinned], laidTests := true, laidLooks := .later }
def IsaBackCardSaid : Prop := Claim7.holds Tryd.pinned (.plain (OpenSpec.ofChange isaBackSpec)) isaBackCard

/-- THE TIED CARD OF 'fretsawlaw21.IsaOnce'. -/
def isaOnceCard : Claim7 := { stood := { row := isaOnceRow, standIns := [], harness := (true, "c30af46c4a7cf8555f9b1d04331f89f6e5676f679ef9a905459a33117a923f78"), looks := true }, kinds := [], alts := [], laidByText := true, laidKinds := [.data, .data, .data, .data, .sentinel, .sentinel, .pinned], laidTests := true, laidLooks := .later }
def IsaOnceCardSaid : Prop := Claim7.holds Tryd.pinned (.plain (OpenSpec.ofChange isaOnceSpec)) isaOnceCard

/-- THE SECOND FORM's CARD OF 'fretsawlaw21.IsaPuts'. -/
def isaPutsUptoCard : Claim7 := { stood := { row := isaPutsUptoRow, standIns := [], harness := (true, "c30af46c4a7cf8555f9b1d04331f89f6e5676f679ef9a905459a33117a923f78"), looks := true }, kinds := [], alts := [], laidByText := true, laidKinds := [.data, .data, .data], laidTests := true, laidLooks := .later }
def IsaPutsUptoCardSaid : Prop := Claim7.holds Tryd.pinned (.plain (OpenSpec.upto isaPutsSpec)) isaPutsUptoCard

/-- THE SECOND FORM's CARD OF 'fretsawlaw21.IsaParses'. -/
def isaParsesUptoCard : Claim7 := { stood := { row := isaParsesUptoRow, standIns := [], harness := (true, "c30af46c4a7cf8555f9b1d04331f89f6e5676f679ef9a905459a33117a923f78"), looks := true }, kinds := [], alts := [], laidByText := true, laidKinds := [.data, .data, .data, .data, .sentinel, .sentinel, .pinned], laidTests := true, laidLooks := .later }
def IsaParsesUptoCardSaid : Prop := Claim7.holds Tryd.pinned (.plain (OpenSpec.upto isaParsesSpec)) isaParsesUptoCard

/-- THE SECOND FORM's CARD OF 'fretsawlaw21.IsaBack'. -/
def isaBackUptoCard : Claim7 := { stood := { row := isaBackUptoRow, standIns := [], harness := (true, "c30af46c4a7cf8555f9b1d04331f89f6e5676f679ef9a905459a33117a923f78"), looks := true }, kinds := [], alts := [], laidByText := true, laidKinds := [.data, .data, .data, .data, .sentinel, .sentinel, .pinned], laidTests := true, laidLooks := .later }
def IsaBackUptoCardSaid : Prop := Claim7.holds Tryd.pinned (.plain (OpenSpec.upto isaBackSpec)) isaBackUptoCard

/-- THE SECOND FORM's CARD OF 'fretsawlaw21.IsaOnce'. -/
def isaOnceUptoCard : Claim7 := { stood := { row := isaOnceUptoRow, standIns := [], harness := (true, "c30af46c4a7cf8555f9b1d04331f89f6e5676f679ef9a905459a33117a923f78"), looks := true }, kinds := [], alts := [], laidByText := true, laidKinds := [.data, .data, .data, .data, .sentinel, .sentinel, .pinned], laidTests := true, laidLooks := .later }
def IsaOnceUptoCardSaid : Prop := Claim7.holds Tryd.pinned (.plain (OpenSpec.upto isaOnceSpec)) isaOnceUptoCard
end Rows
end Go.Proofs.YtpelngkhipcneaaDoor
