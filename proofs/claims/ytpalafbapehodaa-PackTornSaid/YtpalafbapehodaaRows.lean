/-
  No cell of these rows narrows 'for every input' (looked for: loops, veiled, ifaces, maps, wideKeys, modest, calm, conditions, laid).
  DERIVED. THE GIVEN ROWS OF THIS SEAT. 6 by the template 'for every input the law returns true; each argument reads behind the call as it read before'; 0 by the template 'total and deterministic' (their statements: YtpalafbapehodaaTotals.lean).
  GIVEN WITH THE SEED: the statements are not yours to turn. If you find one false, say at which input.
  Laid BY PROGRAM, IN A SANDBOX (cutbox-rows.mjs): the forced cells as the released guide's own fill.sh prints them over the translation 04e7cb9e475e7214… (all of the seat's roots in one cut). By AI agents, Wed Nov 11 2026. No macro, syntax, notation, axiom, sorry.
-/
import Derived.Test.YtpalafbapehodaaChecked
import GoSem.Claim
import GoSem.ClaimJoined
import GoSem.ClaimMapViews
import Derived.JoinedTies
import Derived.KernelRfl
namespace Go.Proofs.Ytpalafbapehodaa
/- THE CELL 'sum', in the pinned program and in every row, IS THE sha256 OF THE DUMP (.gsa) THAT YtpalafbapehodaaProg.lean LOADS. Nothing in Lean hashes anything: it is a label: what it is worth is what the hold of that sum in a sandbox is worth. -/
noncomputable def Try.pinned : Pinned := { name := "ytpalafbapehodaa", sum := "04e7cb9e475e7214ac6d65b0c9a32aea402207955a4fc6267bbe62bb68158567", checked := Try.checked }
namespace Rows
def none {H : Type} : Left H := { results := [], args := [] }

/-- 'fretsawlaw04.PackPuts': WHATEVER THE INPUT: true; the input reads as it did. -/
def packPutsSpec : ChangeSpec := { name := "packPuts", fn := fun _ => fun
  | [d] => { results := [.lit (.bool true)], args := [d] }
  | _ => none }
def packPutsRow : OpenClaim := { program := "ytpalafbapehodaa", sum := "04e7cb9e475e7214ac6d65b0c9a32aea402207955a4fc6267bbe62bb68158567", func := "fretsaw/fretsawlaw04.PackPuts", spec := "packPuts", inPlace := ["internal/abi.NoEscape"], apart := false }
def PackPutsSaid : Prop := packPutsRow.holds Try.pinned (OpenSpec.ofChange packPutsSpec)

/-- ITS FALSE NEIGHBOUR: 'it returns false'. Refute it at one input. -/
def packPutsWrong : ChangeSpec := { name := "packPuts", fn := fun _ => fun
  | [d] => { results := [.lit (.bool false)], args := [d] }
  | _ => none }
def PackPutsWrongFalsely : Prop := packPutsRow.holds Try.pinned (OpenSpec.ofChange packPutsWrong)

/-- 'fretsawlaw04.PackGets': WHATEVER THE INPUT: true; the input reads as it did. -/
def packGetsSpec : ChangeSpec := { name := "packGets", fn := fun _ => fun
  | [d] => { results := [.lit (.bool true)], args := [d] }
  | _ => none }
def packGetsRow : OpenClaim := { program := "ytpalafbapehodaa", sum := "04e7cb9e475e7214ac6d65b0c9a32aea402207955a4fc6267bbe62bb68158567", func := "fretsaw/fretsawlaw04.PackGets", spec := "packGets", unfollowed := true, recurses := true, apart := false }
def PackGetsSaid : Prop := packGetsRow.holds Try.pinned (OpenSpec.ofChange packGetsSpec)

/-- ITS FALSE NEIGHBOUR: 'it returns false'. Refute it at one input. -/
def packGetsWrong : ChangeSpec := { name := "packGets", fn := fun _ => fun
  | [d] => { results := [.lit (.bool false)], args := [d] }
  | _ => none }
def PackGetsWrongFalsely : Prop := packGetsRow.holds Try.pinned (OpenSpec.ofChange packGetsWrong)

/-- 'fretsawlaw04.PackInner': WHATEVER THE INPUT: true; the input reads as it did. -/
def packInnerSpec : ChangeSpec := { name := "packInner", fn := fun _ => fun
  | [d] => { results := [.lit (.bool true)], args := [d] }
  | _ => none }
def packInnerRow : OpenClaim := { program := "ytpalafbapehodaa", sum := "04e7cb9e475e7214ac6d65b0c9a32aea402207955a4fc6267bbe62bb68158567", func := "fretsaw/fretsawlaw04.PackInner", spec := "packInner", unfollowed := true, recurses := true, apart := false }
def PackInnerSaid : Prop := packInnerRow.holds Try.pinned (OpenSpec.ofChange packInnerSpec)

/-- ITS FALSE NEIGHBOUR: 'it returns false'. Refute it at one input. -/
def packInnerWrong : ChangeSpec := { name := "packInner", fn := fun _ => fun
  | [d] => { results := [.lit (.bool false)], args := [d] }
  | _ => none }
def PackInnerWrongFalsely : Prop := packInnerRow.holds Try.pinned (OpenSpec.ofChange packInnerWrong)

/-- 'fretsawlaw04.PackBack': WHATEVER THE INPUT: true; the input reads as it did. -/
def packBackSpec : ChangeSpec := { name := "packBack", fn := fun _ => fun
  | [d] => { results := [.lit (.bool true)], args := [d] }
  | _ => none }
def packBackRow : OpenClaim := { program := "ytpalafbapehodaa", sum := "04e7cb9e475e7214ac6d65b0c9a32aea402207955a4fc6267bbe62bb68158567", func := "fretsaw/fretsawlaw04.PackBack", spec := "packBack", inPlace := ["internal/abi.NoEscape"], unfollowed := true, recurses := true, apart := false }
def PackBackSaid : Prop := packBackRow.holds Try.pinned (OpenSpec.ofChange packBackSpec)

/-- ITS FALSE NEIGHBOUR: 'it returns false'. Refute it at one input. -/
def packBackWrong : ChangeSpec := { name := "packBack", fn := fun _ => fun
  | [d] => { results := [.lit (.bool false)], args := [d] }
  | _ => none }
def PackBackWrongFalsely : Prop := packBackRow.holds Try.pinned (OpenSpec.ofChange packBackWrong)

/-- 'fretsawlaw04.PackOnce': WHATEVER THE INPUT: true; the input reads as it did. -/
def packOnceSpec : ChangeSpec := { name := "packOnce", fn := fun _ => fun
  | [d] => { results := [.lit (.bool true)], args := [d] }
  | _ => none }
def packOnceRow : OpenClaim := { program := "ytpalafbapehodaa", sum := "04e7cb9e475e7214ac6d65b0c9a32aea402207955a4fc6267bbe62bb68158567", func := "fretsaw/fretsawlaw04.PackOnce", spec := "packOnce", inPlace := ["internal/abi.NoEscape"], unfollowed := true, recurses := true, apart := false }
def PackOnceSaid : Prop := packOnceRow.holds Try.pinned (OpenSpec.ofChange packOnceSpec)

/-- ITS FALSE NEIGHBOUR: 'it returns false'. Refute it at one input. -/
def packOnceWrong : ChangeSpec := { name := "packOnce", fn := fun _ => fun
  | [d] => { results := [.lit (.bool false)], args := [d] }
  | _ => none }
def PackOnceWrongFalsely : Prop := packOnceRow.holds Try.pinned (OpenSpec.ofChange packOnceWrong)

/-- 'fretsawlaw04.PackTorn': WHATEVER THE INPUT: true; the input reads as it did. -/
def packTornSpec : ChangeSpec := { name := "packTorn", fn := fun _ => fun
  | [d1, d2, d3] => { results := [.lit (.bool true)], args := [d1, d2, d3] }
  | _ => none }
def packTornRow : OpenClaim := { program := "ytpalafbapehodaa", sum := "04e7cb9e475e7214ac6d65b0c9a32aea402207955a4fc6267bbe62bb68158567", func := "fretsaw/fretsawlaw04.PackTorn", spec := "packTorn", inPlace := ["internal/abi.NoEscape"], unfollowed := true, recurses := true, apart := false }
def PackTornSaid : Prop := packTornRow.holds Try.pinned (OpenSpec.ofChange packTornSpec)

/-- ITS FALSE NEIGHBOUR: 'it returns false'. Refute it at one input. -/
def packTornWrong : ChangeSpec := { name := "packTorn", fn := fun _ => fun
  | [d1, d2, d3] => { results := [.lit (.bool false)], args := [d1, d2, d3] }
  | _ => none }
def PackTornWrongFalsely : Prop := packTornRow.holds Try.pinned (OpenSpec.ofChange packTornWrong)

/- THE SECOND FORM. 'bulk': how many values and letters a reading holds, each counted each time it is reached (what is shared counts as often as it is met; a slice's spare places count too). A statement '..UptoSaid' is the law's where the arguments, and the package variables that the reading takes, are together of bulk at most 1048576: NARROWER than '..Said'. Prove '..Said' where nothing that the law and all that it calls make is longer than what came in: it says more and counts as full. Else prove '..UptoSaid'. A law counts once. -/
mutual
def uptoBulk {H : Type} : DataW H → Nat
  | .lit (.string bytes) => bytes.length + 1
  | .lit _ => 1
  | .nil => 1
  | .ptr d => uptoBulk d + 1
  | .slice elems spare => uptoBulkAll elems + uptoBulkAll spare + 1
  | .agg parts => uptoBulkAll parts + 1
  | .iface _ d => uptoBulk d + 1
  | .map entries => uptoBulkEntries entries + 1
  | .held _ => 1
def uptoBulkAll {H : Type} : List (DataW H) → Nat
  | [] => 0
  | d :: r => uptoBulk d + uptoBulkAll r
def uptoBulkEntries {H : Type} : List (Lit × DataW H) → Nat
  | [] => 0
  | x :: r => uptoBulkEntry x + uptoBulkEntries r
def uptoBulkEntry {H : Type} : Lit × DataW H → Nat
  | (.string bytes, d) => bytes.length + uptoBulk d + 1
  | (_, d) => uptoBulk d + 1
 end
def uptoSmall : (H : Type) → List (DataW H) → Bool := fun _ ds => decide (uptoBulkAll ds ≤ 1048576)
def OpenSpec.upto (s : _root_.Go.ChangeSpec) : _root_.Go.OpenSpec := { _root_.Go.OpenSpec.ofChange s with cond := some uptoSmall }

/-- 'fretsawlaw04.PackPuts', WHERE WHAT IT READS IS OF BULK AT MOST 1048576: true; the input reads as it did. -/
def packPutsUptoRow : OpenClaim := { program := "ytpalafbapehodaa", sum := "04e7cb9e475e7214ac6d65b0c9a32aea402207955a4fc6267bbe62bb68158567", func := "fretsaw/fretsawlaw04.PackPuts", spec := "packPuts", inPlace := ["internal/abi.NoEscape"], apart := false, narrowed := true }
def PackPutsUptoSaid : Prop := packPutsUptoRow.holds Try.pinned (OpenSpec.upto packPutsSpec)

/-- 'fretsawlaw04.PackGets', WHERE WHAT IT READS IS OF BULK AT MOST 1048576: true; the input reads as it did. -/
def packGetsUptoRow : OpenClaim := { program := "ytpalafbapehodaa", sum := "04e7cb9e475e7214ac6d65b0c9a32aea402207955a4fc6267bbe62bb68158567", func := "fretsaw/fretsawlaw04.PackGets", spec := "packGets", unfollowed := true, recurses := true, apart := false, narrowed := true }
def PackGetsUptoSaid : Prop := packGetsUptoRow.holds Try.pinned (OpenSpec.upto packGetsSpec)

/-- 'fretsawlaw04.PackInner', WHERE WHAT IT READS IS OF BULK AT MOST 1048576: true; the input reads as it did. -/
def packInnerUptoRow : OpenClaim := { program := "ytpalafbapehodaa", sum := "04e7cb9e475e7214ac6d65b0c9a32aea402207955a4fc6267bbe62bb68158567", func := "fretsaw/fretsawlaw04.PackInner", spec := "packInner", unfollowed := true, recurses := true, apart := false, narrowed := true }
def PackInnerUptoSaid : Prop := packInnerUptoRow.holds Try.pinned (OpenSpec.upto packInnerSpec)

/-- 'fretsawlaw04.PackBack', WHERE WHAT IT READS IS OF BULK AT MOST 1048576: true; the input reads as it did. -/
def packBackUptoRow : OpenClaim := { program := "ytpalafbapehodaa", sum := "04e7cb9e475e7214ac6d65b0c9a32aea402207955a4fc6267bbe62bb68158567", func := "fretsaw/fretsawlaw04.PackBack", spec := "packBack", inPlace := ["internal/abi.NoEscape"], unfollowed := true, recurses := true, apart := false, narrowed := true }
def PackBackUptoSaid : Prop := packBackUptoRow.holds Try.pinned (OpenSpec.upto packBackSpec)

/-- 'fretsawlaw04.PackOnce', WHERE WHAT IT READS IS OF BULK AT MOST 1048576: true; the input reads as it did. -/
def packOnceUptoRow : OpenClaim := { program := "ytpalafbapehodaa", sum := "04e7cb9e475e7214ac6d65b0c9a32aea402207955a4fc6267bbe62bb68158567", func := "fretsaw/fretsawlaw04.PackOnce", spec := "packOnce", inPlace := ["internal/abi.NoEscape"], unfollowed := true, recurses := true, apart := false, narrowed := true }
def PackOnceUptoSaid : Prop := packOnceUptoRow.holds Try.pinned (OpenSpec.upto packOnceSpec)

/-- 'fretsawlaw04.PackTorn', WHERE WHAT IT READS IS OF BULK AT MOST 1048576: true; the input reads as it did. -/
def packTornUptoRow : OpenClaim := { program := "ytpalafbapehodaa", sum := "04e7cb9e475e7214ac6d65b0c9a32aea402207955a4fc6267bbe62bb68158567", func := "fretsaw/fretsawlaw04.PackTorn", spec := "packTorn", inPlace := ["internal/abi.NoEscape"], unfollowed := true, recurses := true, apart := false, narrowed := true }
def PackTornUptoSaid : Prop := packTornUptoRow.holds Try.pinned (OpenSpec.upto packTornSpec)

end Rows
end Go.Proofs.Ytpalafbapehodaa
