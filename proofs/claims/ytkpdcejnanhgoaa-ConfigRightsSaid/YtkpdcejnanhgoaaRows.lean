/-
  NARROWER THAN 'FOR EVERY INPUT', by the rows' own cells (each row's printed sentence says how): ConfigRights: loops.
  DERIVED. THE GIVEN ROWS OF THIS SEAT. 3 by the template 'for every input the law returns true; each argument reads behind the call as it read before'; 0 by the template 'total and deterministic' (their statements: YtkpdcejnanhgoaaTotals.lean).
  GIVEN WITH THE SEED: the statements are not yours to turn. If you find one false, say at which input.
  Laid BY PROGRAM, IN A SANDBOX (cutbox-rows.mjs): the forced cells as the released guide's own fill.sh prints them over the translation fa38d923573756d5… (all of the seat's roots in one cut). By AI agents, Wed Nov 11 2026. No macro, syntax, notation, axiom, sorry.
-/
import Derived.Test.YtkpdcejnanhgoaaChecked
import GoSem.Claim
import GoSem.ClaimJoined
import GoSem.ClaimMapViews
import Derived.JoinedTies
import Derived.KernelRfl
namespace Go.Proofs.Ytkpdcejnanhgoaa
/- THE CELL 'sum', in the pinned program and in every row, IS THE sha256 OF THE DUMP (.gsa) THAT YtkpdcejnanhgoaaProg.lean LOADS. Nothing in Lean hashes anything: it is a label: what it is worth is what the hold of that sum in a sandbox is worth. -/
noncomputable def Try.pinned : Pinned := { name := "ytkpdcejnanhgoaa", sum := "fa38d923573756d560d422613635d1b06d31afa3cc90f359088bcb77dc8e7a5e", checked := Try.checked }
namespace Rows
def none {H : Type} : Left H := { results := [], args := [] }

/-- 'fretsawlaw17.ConfigRights': WHATEVER THE INPUT: true; the input reads as it did. -/
def configRightsSpec : ChangeSpec := { name := "configRights", fn := fun _ => fun
  | [d] => { results := [.lit (.bool true)], args := [d] }
  | _ => none }
def configRightsRow : OpenClaim := { program := "ytkpdcejnanhgoaa", sum := "fa38d923573756d560d422613635d1b06d31afa3cc90f359088bcb77dc8e7a5e", func := "fretsaw/fretsawlaw17.ConfigRights", spec := "configRights", unfollowed := true, recurses := true, loops := true, apart := false }
def ConfigRightsSaid : Prop := configRightsRow.holds Try.pinned (OpenSpec.ofChange configRightsSpec)

/-- ITS FALSE NEIGHBOUR: 'it returns false'. Refute it at one input. -/
def configRightsWrong : ChangeSpec := { name := "configRights", fn := fun _ => fun
  | [d] => { results := [.lit (.bool false)], args := [d] }
  | _ => none }
def ConfigRightsWrongFalsely : Prop := configRightsRow.holds Try.pinned (OpenSpec.ofChange configRightsWrong)

/-- 'fretsawlaw23.VerifySound': WHATEVER THE INPUT: true; the input reads as it did. -/
def verifySoundSpec : ChangeSpec := { name := "verifySound", fn := fun _ => fun
  | [d1, d2, d3] => { results := [.lit (.bool true)], args := [d1, d2, d3] }
  | _ => none }
def verifySoundRow : OpenClaim := { program := "ytkpdcejnanhgoaa", sum := "fa38d923573756d560d422613635d1b06d31afa3cc90f359088bcb77dc8e7a5e", func := "fretsaw/fretsawlaw23.VerifySound", spec := "verifySound", unfollowed := true, recurses := true, apart := false }
def VerifySoundSaid : Prop := verifySoundRow.holds Try.pinned (OpenSpec.ofChange verifySoundSpec)

/-- ITS FALSE NEIGHBOUR: 'it returns false'. Refute it at one input. -/
def verifySoundWrong : ChangeSpec := { name := "verifySound", fn := fun _ => fun
  | [d1, d2, d3] => { results := [.lit (.bool false)], args := [d1, d2, d3] }
  | _ => none }
def VerifySoundWrongFalsely : Prop := verifySoundRow.holds Try.pinned (OpenSpec.ofChange verifySoundWrong)

/-- 'fretsawlaw23.VerifyFaults': WHATEVER THE INPUT: true; the input reads as it did. -/
def verifyFaultsSpec : ChangeSpec := { name := "verifyFaults", fn := fun _ => fun
  | [d1, d2, d3] => { results := [.lit (.bool true)], args := [d1, d2, d3] }
  | _ => none }
def verifyFaultsRow : OpenClaim := { program := "ytkpdcejnanhgoaa", sum := "fa38d923573756d560d422613635d1b06d31afa3cc90f359088bcb77dc8e7a5e", func := "fretsaw/fretsawlaw23.VerifyFaults", spec := "verifyFaults", unfollowed := true, recurses := true, apart := false }
def VerifyFaultsSaid : Prop := verifyFaultsRow.holds Try.pinned (OpenSpec.ofChange verifyFaultsSpec)

/-- ITS FALSE NEIGHBOUR: 'it returns false'. Refute it at one input. -/
def verifyFaultsWrong : ChangeSpec := { name := "verifyFaults", fn := fun _ => fun
  | [d1, d2, d3] => { results := [.lit (.bool false)], args := [d1, d2, d3] }
  | _ => none }
def VerifyFaultsWrongFalsely : Prop := verifyFaultsRow.holds Try.pinned (OpenSpec.ofChange verifyFaultsWrong)

/- THE SECOND FORM. 'bulk': how many values and letters a reading holds, each counted each time it is reached (what is shared counts as often as it is met; a slice's spare places count too). A statement '..UptoSaid' is the law's where the arguments, and the package variables that the reading takes, are together of bulk at most 1048576: NARROWER than '..Said'. Prove '..Said' where nothing that the law and all that it calls make is longer than what came in: it says more and counts as full. Else prove '..UptoSaid'. A law counts once. -/
mutual
def uptoBulk {H : Type} : DataW H → Nat
  | .lit (.string bytes) => bytes.length + 1
  | .lit _ => 1
  | .nil => 1
  | .ptr d => uptoBulk d + 1
  | .slice elems spare => uptoBulkAll elems + uptoBulkAll spare + 1
  | .agg parts => uptoBulkAll parts + 1
  | .iface _ d => uptoBulk d + 1
  | .map entries => uptoBulkEntries entries + 1
  | .held _ => 1
def uptoBulkAll {H : Type} : List (DataW H) → Nat
  | [] => 0
  | d :: r => uptoBulk d + uptoBulkAll r
def uptoBulkEntries {H : Type} : List (Lit × DataW H) → Nat
  | [] => 0
  | x :: r => uptoBulkEntry x + uptoBulkEntries r
def uptoBulkEntry {H : Type} : Lit × DataW H → Nat
  | (.string bytes, d) => bytes.length + uptoBulk d + 1
  | (_, d) => uptoBulk d + 1
 end
def uptoSmall : (H : Type) → List (DataW H) → Bool := fun _ ds => decide (uptoBulkAll ds ≤ 1048576)
def OpenSpec.upto (s : _root_.Go.ChangeSpec) : _root_.Go.OpenSpec := { _root_.Go.OpenSpec.ofChange s with cond := some uptoSmall }

/-- 'fretsawlaw17.ConfigRights', WHERE WHAT IT READS IS OF BULK AT MOST 1048576: true; the input reads as it did. -/
def configRightsUptoRow : OpenClaim := { program := "ytkpdcejnanhgoaa", sum := "fa38d923573756d560d422613635d1b06d31afa3cc90f359088bcb77dc8e7a5e", func := "fretsaw/fretsawlaw17.ConfigRights", spec := "configRights", unfollowed := true, recurses := true, loops := true, apart := false, narrowed := true }
def ConfigRightsUptoSaid : Prop := configRightsUptoRow.holds Try.pinned (OpenSpec.upto configRightsSpec)

/-- 'fretsawlaw23.VerifySound', WHERE WHAT IT READS IS OF BULK AT MOST 1048576: true; the input reads as it did. -/
def verifySoundUptoRow : OpenClaim := { program := "ytkpdcejnanhgoaa", sum := "fa38d923573756d560d422613635d1b06d31afa3cc90f359088bcb77dc8e7a5e", func := "fretsaw/fretsawlaw23.VerifySound", spec := "verifySound", unfollowed := true, recurses := true, apart := false, narrowed := true }
def VerifySoundUptoSaid : Prop := verifySoundUptoRow.holds Try.pinned (OpenSpec.upto verifySoundSpec)

/-- 'fretsawlaw23.VerifyFaults', WHERE WHAT IT READS IS OF BULK AT MOST 1048576: true; the input reads as it did. -/
def verifyFaultsUptoRow : OpenClaim := { program := "ytkpdcejnanhgoaa", sum := "fa38d923573756d560d422613635d1b06d31afa3cc90f359088bcb77dc8e7a5e", func := "fretsaw/fretsawlaw23.VerifyFaults", spec := "verifyFaults", unfollowed := true, recurses := true, apart := false, narrowed := true }
def VerifyFaultsUptoSaid : Prop := verifyFaultsUptoRow.holds Try.pinned (OpenSpec.upto verifyFaultsSpec)

end Rows
end Go.Proofs.Ytkpdcejnanhgoaa
