/-
  No cell of these rows narrows 'for every input' (looked for: loops, veiled, ifaces, maps, wideKeys, modest, calm, conditions, laid).
  DERIVED. THE GIVEN ROWS OF THIS SEAT. 6 by the template 'for every input the law returns true; each argument reads behind the call as it read before'; 0 by the template 'total and deterministic' (their statements: YtkhggnlanopgkaaTotals.lean).
  GIVEN WITH THE SEED: the statements are not yours to turn. If you find one false, say at which input.
  Laid BY PROGRAM, IN A SANDBOX (cutbox-rows.mjs): the forced cells as the released guide's own fill.sh prints them over the translation 3a0a0b9ea3b62e9e… (all of the seat's roots in one cut). By AI agents, Wed Nov 11 2026. No macro, syntax, notation, axiom, sorry.
-/
import Derived.Test.YtkhggnlanopgkaaChecked
import GoSem.Claim
import GoSem.ClaimJoined
import GoSem.ClaimMapViews
import Derived.JoinedTies
import Derived.KernelRfl
namespace Go.Proofs.Ytkhggnlanopgkaa
/- THE CELL 'sum', in the pinned program and in every row, IS THE sha256 OF THE DUMP (.gsa) THAT YtkhggnlanopgkaaProg.lean LOADS. Nothing in Lean hashes anything: it is a label: what it is worth is what the hold of that sum in a sandbox is worth. -/
noncomputable def Try.pinned : Pinned := { name := "ytkhggnlanopgkaa", sum := "3a0a0b9ea3b62e9e4a997b70cb859edfaa6df744588227d13a96f3f6747e0737", checked := Try.checked }
namespace Rows
def none {H : Type} : Left H := { results := [], args := [] }

/-- 'fretsawlaw23.VerifyChecks': WHATEVER THE INPUT: true; the input reads as it did. -/
def verifyChecksSpec : ChangeSpec := { name := "verifyChecks", fn := fun _ => fun
  | [d] => { results := [.lit (.bool true)], args := [d] }
  | _ => none }
def verifyChecksRow : OpenClaim := { program := "ytkhggnlanopgkaa", sum := "3a0a0b9ea3b62e9e4a997b70cb859edfaa6df744588227d13a96f3f6747e0737", func := "fretsaw/fretsawlaw23.VerifyChecks", spec := "verifyChecks", unfollowed := true, recurses := true, apart := false }
def VerifyChecksSaid : Prop := verifyChecksRow.holds Try.pinned (OpenSpec.ofChange verifyChecksSpec)

/-- ITS FALSE NEIGHBOUR: 'it returns false'. Refute it at one input. -/
def verifyChecksWrong : ChangeSpec := { name := "verifyChecks", fn := fun _ => fun
  | [d] => { results := [.lit (.bool false)], args := [d] }
  | _ => none }
def VerifyChecksWrongFalsely : Prop := verifyChecksRow.holds Try.pinned (OpenSpec.ofChange verifyChecksWrong)

/-- 'fretsawlaw23.VerifyTables': WHATEVER THE INPUT: true; the input reads as it did. -/
def verifyTablesSpec : ChangeSpec := { name := "verifyTables", fn := fun _ => fun
  | [d1, d2] => { results := [.lit (.bool true)], args := [d1, d2] }
  | _ => none }
def verifyTablesRow : OpenClaim := { program := "ytkhggnlanopgkaa", sum := "3a0a0b9ea3b62e9e4a997b70cb859edfaa6df744588227d13a96f3f6747e0737", func := "fretsaw/fretsawlaw23.VerifyTables", spec := "verifyTables", unfollowed := true, recurses := true, apart := false }
def VerifyTablesSaid : Prop := verifyTablesRow.holds Try.pinned (OpenSpec.ofChange verifyTablesSpec)

/-- ITS FALSE NEIGHBOUR: 'it returns false'. Refute it at one input. -/
def verifyTablesWrong : ChangeSpec := { name := "verifyTables", fn := fun _ => fun
  | [d1, d2] => { results := [.lit (.bool false)], args := [d1, d2] }
  | _ => none }
def VerifyTablesWrongFalsely : Prop := verifyTablesRow.holds Try.pinned (OpenSpec.ofChange verifyTablesWrong)

/-- 'fretsawlaw23.VerifyPairs': WHATEVER THE INPUT: true; the input reads as it did. -/
def verifyPairsSpec : ChangeSpec := { name := "verifyPairs", fn := fun _ => fun
  | [d1, d2] => { results := [.lit (.bool true)], args := [d1, d2] }
  | _ => none }
def verifyPairsRow : OpenClaim := { program := "ytkhggnlanopgkaa", sum := "3a0a0b9ea3b62e9e4a997b70cb859edfaa6df744588227d13a96f3f6747e0737", func := "fretsaw/fretsawlaw23.VerifyPairs", spec := "verifyPairs", unfollowed := true, recurses := true, apart := false }
def VerifyPairsSaid : Prop := verifyPairsRow.holds Try.pinned (OpenSpec.ofChange verifyPairsSpec)

/-- ITS FALSE NEIGHBOUR: 'it returns false'. Refute it at one input. -/
def verifyPairsWrong : ChangeSpec := { name := "verifyPairs", fn := fun _ => fun
  | [d1, d2] => { results := [.lit (.bool false)], args := [d1, d2] }
  | _ => none }
def VerifyPairsWrongFalsely : Prop := verifyPairsRow.holds Try.pinned (OpenSpec.ofChange verifyPairsWrong)

/-- 'fretsawlaw23.VerifyMore': WHATEVER THE INPUT: true; the input reads as it did. -/
def verifyMoreSpec : ChangeSpec := { name := "verifyMore", fn := fun _ => fun
  | [d1, d2, d3, d4] => { results := [.lit (.bool true)], args := [d1, d2, d3, d4] }
  | _ => none }
def verifyMoreRow : OpenClaim := { program := "ytkhggnlanopgkaa", sum := "3a0a0b9ea3b62e9e4a997b70cb859edfaa6df744588227d13a96f3f6747e0737", func := "fretsaw/fretsawlaw23.VerifyMore", spec := "verifyMore", unfollowed := true, recurses := true, apart := false }
def VerifyMoreSaid : Prop := verifyMoreRow.holds Try.pinned (OpenSpec.ofChange verifyMoreSpec)

/-- ITS FALSE NEIGHBOUR: 'it returns false'. Refute it at one input. -/
def verifyMoreWrong : ChangeSpec := { name := "verifyMore", fn := fun _ => fun
  | [d1, d2, d3, d4] => { results := [.lit (.bool false)], args := [d1, d2, d3, d4] }
  | _ => none }
def VerifyMoreWrongFalsely : Prop := verifyMoreRow.holds Try.pinned (OpenSpec.ofChange verifyMoreWrong)

/-- 'fretsawlaw23.VerifySound': WHATEVER THE INPUT: true; the input reads as it did. -/
def verifySoundSpec : ChangeSpec := { name := "verifySound", fn := fun _ => fun
  | [d1, d2, d3] => { results := [.lit (.bool true)], args := [d1, d2, d3] }
  | _ => none }
def verifySoundRow : OpenClaim := { program := "ytkhggnlanopgkaa", sum := "3a0a0b9ea3b62e9e4a997b70cb859edfaa6df744588227d13a96f3f6747e0737", func := "fretsaw/fretsawlaw23.VerifySound", spec := "verifySound", unfollowed := true, recurses := true, apart := false }
def VerifySoundSaid : Prop := verifySoundRow.holds Try.pinned (OpenSpec.ofChange verifySoundSpec)

/-- ITS FALSE NEIGHBOUR: 'it returns false'. Refute it at one input. -/
def verifySoundWrong : ChangeSpec := { name := "verifySound", fn := fun _ => fun
  | [d1, d2, d3] => { results := [.lit (.bool false)], args := [d1, d2, d3] }
  | _ => none }
def VerifySoundWrongFalsely : Prop := verifySoundRow.holds Try.pinned (OpenSpec.ofChange verifySoundWrong)

/-- 'fretsawlaw23.VerifyFaults': WHATEVER THE INPUT: true; the input reads as it did. -/
def verifyFaultsSpec : ChangeSpec := { name := "verifyFaults", fn := fun _ => fun
  | [d1, d2, d3] => { results := [.lit (.bool true)], args := [d1, d2, d3] }
  | _ => none }
def verifyFaultsRow : OpenClaim := { program := "ytkhggnlanopgkaa", sum := "3a0a0b9ea3b62e9e4a997b70cb859edfaa6df744588227d13a96f3f6747e0737", func := "fretsaw/fretsawlaw23.VerifyFaults", spec := "verifyFaults", unfollowed := true, recurses := true, apart := false }
def VerifyFaultsSaid : Prop := verifyFaultsRow.holds Try.pinned (OpenSpec.ofChange verifyFaultsSpec)

/-- ITS FALSE NEIGHBOUR: 'it returns false'. Refute it at one input. -/
def verifyFaultsWrong : ChangeSpec := { name := "verifyFaults", fn := fun _ => fun
  | [d1, d2, d3] => { results := [.lit (.bool false)], args := [d1, d2, d3] }
  | _ => none }
def VerifyFaultsWrongFalsely : Prop := verifyFaultsRow.holds Try.pinned (OpenSpec.ofChange verifyFaultsWrong)

/- THE SECOND FORM. 'bulk': how many values and letters a reading holds, each counted each time it is reached (what is shared counts as often as it is met; a slice's spare places count too). A statement '..UptoSaid' is the law's where the arguments, and the package variables that the reading takes, are together of bulk at most 1048576: NARROWER than '..Said'. Prove '..Said' where nothing that the law and all that it calls make is longer than what came in: it says more and counts as full. Else prove '..UptoSaid'. A law counts once. -/
mutual
def uptoBulk {H : Type} : DataW H → Nat
  | .lit (.string bytes) => bytes.length + 1
  | .lit _ => 1
  | .nil => 1
  | .ptr d => uptoBulk d + 1
  | .slice elems spare => uptoBulkAll elems + uptoBulkAll spare + 1
  | .agg parts => uptoBulkAll parts + 1
  | .iface _ d => uptoBulk d + 1
  | .map entries => uptoBulkEntries entries + 1
  | .held _ => 1
def uptoBulkAll {H : Type} : List (DataW H) → Nat
  | [] => 0
  | d :: r => uptoBulk d + uptoBulkAll r
def uptoBulkEntries {H : Type} : List (Lit × DataW H) → Nat
  | [] => 0
  | x :: r => uptoBulkEntry x + uptoBulkEntries r
def uptoBulkEntry {H : Type} : Lit × DataW H → Nat
  | (.string bytes, d) => bytes.length + uptoBulk d + 1
  | (_, d) => uptoBulk d + 1
 end
def uptoSmall : (H : Type) → List (DataW H) → Bool := fun _ ds => decide (uptoBulkAll ds ≤ 1048576)
def OpenSpec.upto (s : _root_.Go.ChangeSpec) : _root_.Go.OpenSpec := { _root_.Go.OpenSpec.ofChange s with cond := some uptoSmall }

/-- 'fretsawlaw23.VerifyChecks', WHERE WHAT IT READS IS OF BULK AT MOST 1048576: true; the input reads as it did. -/
def verifyChecksUptoRow : OpenClaim := { program := "ytkhggnlanopgkaa", sum := "3a0a0b9ea3b62e9e4a997b70cb859edfaa6df744588227d13a96f3f6747e0737", func := "fretsaw/fretsawlaw23.VerifyChecks", spec := "verifyChecks", unfollowed := true, recurses := true, apart := false, narrowed := true }
def VerifyChecksUptoSaid : Prop := verifyChecksUptoRow.holds Try.pinned (OpenSpec.upto verifyChecksSpec)

/-- 'fretsawlaw23.VerifyTables', WHERE WHAT IT READS IS OF BULK AT MOST 1048576: true; the input reads as it did. -/
def verifyTablesUptoRow : OpenClaim := { program := "ytkhggnlanopgkaa", sum := "3a0a0b9ea3b62e9e4a997b70cb859edfaa6df744588227d13a96f3f6747e0737", func := "fretsaw/fretsawlaw23.VerifyTables", spec := "verifyTables", unfollowed := true, recurses := true, apart := false, narrowed := true }
def VerifyTablesUptoSaid : Prop := verifyTablesUptoRow.holds Try.pinned (OpenSpec.upto verifyTablesSpec)

/-- 'fretsawlaw23.VerifyPairs', WHERE WHAT IT READS IS OF BULK AT MOST 1048576: true; the input reads as it did. -/
def verifyPairsUptoRow : OpenClaim := { program := "ytkhggnlanopgkaa", sum := "3a0a0b9ea3b62e9e4a997b70cb859edfaa6df744588227d13a96f3f6747e0737", func := "fretsaw/fretsawlaw23.VerifyPairs", spec := "verifyPairs", unfollowed := true, recurses := true, apart := false, narrowed := true }
def VerifyPairsUptoSaid : Prop := verifyPairsUptoRow.holds Try.pinned (OpenSpec.upto verifyPairsSpec)

/-- 'fretsawlaw23.VerifyMore', WHERE WHAT IT READS IS OF BULK AT MOST 1048576: true; the input reads as it did. -/
def verifyMoreUptoRow : OpenClaim := { program := "ytkhggnlanopgkaa", sum := "3a0a0b9ea3b62e9e4a997b70cb859edfaa6df744588227d13a96f3f6747e0737", func := "fretsaw/fretsawlaw23.VerifyMore", spec := "verifyMore", unfollowed := true, recurses := true, apart := false, narrowed := true }
def VerifyMoreUptoSaid : Prop := verifyMoreUptoRow.holds Try.pinned (OpenSpec.upto verifyMoreSpec)

/-- 'fretsawlaw23.VerifySound', WHERE WHAT IT READS IS OF BULK AT MOST 1048576: true; the input reads as it did. -/
def verifySoundUptoRow : OpenClaim := { program := "ytkhggnlanopgkaa", sum := "3a0a0b9ea3b62e9e4a997b70cb859edfaa6df744588227d13a96f3f6747e0737", func := "fretsaw/fretsawlaw23.VerifySound", spec := "verifySound", unfollowed := true, recurses := true, apart := false, narrowed := true }
def VerifySoundUptoSaid : Prop := verifySoundUptoRow.holds Try.pinned (OpenSpec.upto verifySoundSpec)

/-- 'fretsawlaw23.VerifyFaults', WHERE WHAT IT READS IS OF BULK AT MOST 1048576: true; the input reads as it did. -/
def verifyFaultsUptoRow : OpenClaim := { program := "ytkhggnlanopgkaa", sum := "3a0a0b9ea3b62e9e4a997b70cb859edfaa6df744588227d13a96f3f6747e0737", func := "fretsaw/fretsawlaw23.VerifyFaults", spec := "verifyFaults", unfollowed := true, recurses := true, apart := false, narrowed := true }
def VerifyFaultsUptoSaid : Prop := verifyFaultsUptoRow.holds Try.pinned (OpenSpec.upto verifyFaultsSpec)

end Rows
end Go.Proofs.Ytkhggnlanopgkaa
