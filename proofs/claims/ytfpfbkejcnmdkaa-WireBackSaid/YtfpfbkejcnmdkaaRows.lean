/-
  No cell of these rows narrows 'for every input' (looked for: loops, veiled, ifaces, maps, wideKeys, modest, calm, conditions, laid).
  DERIVED. THE GIVEN ROWS OF THIS SEAT. 7 by the template 'for every input the law returns true; each argument reads behind the call as it read before'; 0 by the template 'total and deterministic' (their statements: YtfpfbkejcnmdkaaTotals.lean).
  GIVEN WITH THE SEED: the statements are not yours to turn. If you find one false, say at which input.
  Laid BY PROGRAM, IN A SANDBOX (cutbox-rows.mjs): the forced cells as the released guide's own fill.sh prints them over the translation 4f95cb1143e8ad4c… (all of the seat's roots in one cut). By AI agents, Wed Nov 11 2026. No macro, syntax, notation, axiom, sorry.
-/
import Derived.Test.YtfpfbkejcnmdkaaChecked
import GoSem.Claim
import GoSem.ClaimJoined
import GoSem.ClaimMapViews
import Derived.JoinedTies
import Derived.KernelRfl
namespace Go.Proofs.Ytfpfbkejcnmdkaa
/- THE CELL 'sum', in the pinned program and in every row, IS THE sha256 OF THE DUMP (.gsa) THAT YtfpfbkejcnmdkaaProg.lean LOADS. Nothing in Lean hashes anything: it is a label: what it is worth is what the hold of that sum in a sandbox is worth. -/
noncomputable def Try.pinned : Pinned := { name := "ytfpfbkejcnmdkaa", sum := "4f95cb1143e8ad4c5be9a761cb5759a9946bdfac7c6b3e85e4426f8baebdf359", checked := Try.checked }
namespace Rows
def none {H : Type} : Left H := { results := [], args := [] }

/-- 'fretsawlaw02.WireLengths': WHATEVER THE INPUT: true; the input reads as it did. -/
def wireLengthsSpec : ChangeSpec := { name := "wireLengths", fn := fun _ => fun
  | [d1, d2] => { results := [.lit (.bool true)], args := [d1, d2] }
  | _ => none }
def wireLengthsRow : OpenClaim := { program := "ytfpfbkejcnmdkaa", sum := "4f95cb1143e8ad4c5be9a761cb5759a9946bdfac7c6b3e85e4426f8baebdf359", func := "fretsaw/fretsawlaw02.WireLengths", spec := "wireLengths", apart := false }
def WireLengthsSaid : Prop := wireLengthsRow.holds Try.pinned (OpenSpec.ofChange wireLengthsSpec)

/-- ITS FALSE NEIGHBOUR: 'it returns false'. Refute it at one input. -/
def wireLengthsWrong : ChangeSpec := { name := "wireLengths", fn := fun _ => fun
  | [d1, d2] => { results := [.lit (.bool false)], args := [d1, d2] }
  | _ => none }
def WireLengthsWrongFalsely : Prop := wireLengthsRow.holds Try.pinned (OpenSpec.ofChange wireLengthsWrong)

/-- 'fretsawlaw02.WireFours': WHATEVER THE INPUT: true; the input reads as it did. -/
def wireFoursSpec : ChangeSpec := { name := "wireFours", fn := fun _ => fun
  | [d1, d2, d3] => { results := [.lit (.bool true)], args := [d1, d2, d3] }
  | _ => none }
def wireFoursRow : OpenClaim := { program := "ytfpfbkejcnmdkaa", sum := "4f95cb1143e8ad4c5be9a761cb5759a9946bdfac7c6b3e85e4426f8baebdf359", func := "fretsaw/fretsawlaw02.WireFours", spec := "wireFours", apart := false }
def WireFoursSaid : Prop := wireFoursRow.holds Try.pinned (OpenSpec.ofChange wireFoursSpec)

/-- ITS FALSE NEIGHBOUR: 'it returns false'. Refute it at one input. -/
def wireFoursWrong : ChangeSpec := { name := "wireFours", fn := fun _ => fun
  | [d1, d2, d3] => { results := [.lit (.bool false)], args := [d1, d2, d3] }
  | _ => none }
def WireFoursWrongFalsely : Prop := wireFoursRow.holds Try.pinned (OpenSpec.ofChange wireFoursWrong)

/-- 'fretsawlaw02.WireNumbers': WHATEVER THE INPUT: true; the input reads as it did. -/
def wireNumbersSpec : ChangeSpec := { name := "wireNumbers", fn := fun _ => fun
  | [d1, d2, d3] => { results := [.lit (.bool true)], args := [d1, d2, d3] }
  | _ => none }
def wireNumbersRow : OpenClaim := { program := "ytfpfbkejcnmdkaa", sum := "4f95cb1143e8ad4c5be9a761cb5759a9946bdfac7c6b3e85e4426f8baebdf359", func := "fretsaw/fretsawlaw02.WireNumbers", spec := "wireNumbers", apart := false }
def WireNumbersSaid : Prop := wireNumbersRow.holds Try.pinned (OpenSpec.ofChange wireNumbersSpec)

/-- ITS FALSE NEIGHBOUR: 'it returns false'. Refute it at one input. -/
def wireNumbersWrong : ChangeSpec := { name := "wireNumbers", fn := fun _ => fun
  | [d1, d2, d3] => { results := [.lit (.bool false)], args := [d1, d2, d3] }
  | _ => none }
def WireNumbersWrongFalsely : Prop := wireNumbersRow.holds Try.pinned (OpenSpec.ofChange wireNumbersWrong)

/-- 'fretsawlaw02.WireTexts': WHATEVER THE INPUT: true; the input reads as it did. -/
def wireTextsSpec : ChangeSpec := { name := "wireTexts", fn := fun _ => fun
  | [d1, d2, d3, d4] => { results := [.lit (.bool true)], args := [d1, d2, d3, d4] }
  | _ => none }
def wireTextsRow : OpenClaim := { program := "ytfpfbkejcnmdkaa", sum := "4f95cb1143e8ad4c5be9a761cb5759a9946bdfac7c6b3e85e4426f8baebdf359", func := "fretsaw/fretsawlaw02.WireTexts", spec := "wireTexts", apart := false }
def WireTextsSaid : Prop := wireTextsRow.holds Try.pinned (OpenSpec.ofChange wireTextsSpec)

/-- ITS FALSE NEIGHBOUR: 'it returns false'. Refute it at one input. -/
def wireTextsWrong : ChangeSpec := { name := "wireTexts", fn := fun _ => fun
  | [d1, d2, d3, d4] => { results := [.lit (.bool false)], args := [d1, d2, d3, d4] }
  | _ => none }
def WireTextsWrongFalsely : Prop := wireTextsRow.holds Try.pinned (OpenSpec.ofChange wireTextsWrong)

/-- 'fretsawlaw02.WireLists': WHATEVER THE INPUT: true; the input reads as it did. -/
def wireListsSpec : ChangeSpec := { name := "wireLists", fn := fun _ => fun
  | [d1, d2, d3, d4] => { results := [.lit (.bool true)], args := [d1, d2, d3, d4] }
  | _ => none }
def wireListsRow : OpenClaim := { program := "ytfpfbkejcnmdkaa", sum := "4f95cb1143e8ad4c5be9a761cb5759a9946bdfac7c6b3e85e4426f8baebdf359", func := "fretsaw/fretsawlaw02.WireLists", spec := "wireLists", unfollowed := true, recurses := true, apart := false }
def WireListsSaid : Prop := wireListsRow.holds Try.pinned (OpenSpec.ofChange wireListsSpec)

/-- ITS FALSE NEIGHBOUR: 'it returns false'. Refute it at one input. -/
def wireListsWrong : ChangeSpec := { name := "wireLists", fn := fun _ => fun
  | [d1, d2, d3, d4] => { results := [.lit (.bool false)], args := [d1, d2, d3, d4] }
  | _ => none }
def WireListsWrongFalsely : Prop := wireListsRow.holds Try.pinned (OpenSpec.ofChange wireListsWrong)

/-- 'fretsawlaw02.WireOnce': WHATEVER THE INPUT: true; the input reads as it did. -/
def wireOnceSpec : ChangeSpec := { name := "wireOnce", fn := fun _ => fun
  | [d1, d2] => { results := [.lit (.bool true)], args := [d1, d2] }
  | _ => none }
def wireOnceRow : OpenClaim := { program := "ytfpfbkejcnmdkaa", sum := "4f95cb1143e8ad4c5be9a761cb5759a9946bdfac7c6b3e85e4426f8baebdf359", func := "fretsaw/fretsawlaw02.WireOnce", spec := "wireOnce", unfollowed := true, recurses := true, apart := false }
def WireOnceSaid : Prop := wireOnceRow.holds Try.pinned (OpenSpec.ofChange wireOnceSpec)

/-- ITS FALSE NEIGHBOUR: 'it returns false'. Refute it at one input. -/
def wireOnceWrong : ChangeSpec := { name := "wireOnce", fn := fun _ => fun
  | [d1, d2] => { results := [.lit (.bool false)], args := [d1, d2] }
  | _ => none }
def WireOnceWrongFalsely : Prop := wireOnceRow.holds Try.pinned (OpenSpec.ofChange wireOnceWrong)

/-- 'fretsawlaw02.WireBack': WHATEVER THE INPUT: true; the input reads as it did. -/
def wireBackSpec : ChangeSpec := { name := "wireBack", fn := fun _ => fun
  | [d1, d2, d3, d4, d5, d6] => { results := [.lit (.bool true)], args := [d1, d2, d3, d4, d5, d6] }
  | _ => none }
def wireBackRow : OpenClaim := { program := "ytfpfbkejcnmdkaa", sum := "4f95cb1143e8ad4c5be9a761cb5759a9946bdfac7c6b3e85e4426f8baebdf359", func := "fretsaw/fretsawlaw02.WireBack", spec := "wireBack", unfollowed := true, recurses := true, apart := false }
def WireBackSaid : Prop := wireBackRow.holds Try.pinned (OpenSpec.ofChange wireBackSpec)

/-- ITS FALSE NEIGHBOUR: 'it returns false'. Refute it at one input. -/
def wireBackWrong : ChangeSpec := { name := "wireBack", fn := fun _ => fun
  | [d1, d2, d3, d4, d5, d6] => { results := [.lit (.bool false)], args := [d1, d2, d3, d4, d5, d6] }
  | _ => none }
def WireBackWrongFalsely : Prop := wireBackRow.holds Try.pinned (OpenSpec.ofChange wireBackWrong)

/- THE SECOND FORM. 'bulk': how many values and letters a reading holds, each counted each time it is reached (what is shared counts as often as it is met; a slice's spare places count too). A statement '..UptoSaid' is the law's where the arguments, and the package variables that the reading takes, are together of bulk at most 1048576: NARROWER than '..Said'. Prove '..Said' where nothing that the law and all that it calls make is longer than what came in: it says more and counts as full. Else prove '..UptoSaid'. A law counts once. -/
mutual
def uptoBulk {H : Type} : DataW H → Nat
  | .lit (.string bytes) => bytes.length + 1
  | .lit _ => 1
  | .nil => 1
  | .ptr d => uptoBulk d + 1
  | .slice elems spare => uptoBulkAll elems + uptoBulkAll spare + 1
  | .agg parts => uptoBulkAll parts + 1
  | .iface _ d => uptoBulk d + 1
  | .map entries => uptoBulkEntries entries + 1
  | .held _ => 1
def uptoBulkAll {H : Type} : List (DataW H) → Nat
  | [] => 0
  | d :: r => uptoBulk d + uptoBulkAll r
def uptoBulkEntries {H : Type} : List (Lit × DataW H) → Nat
  | [] => 0
  | x :: r => uptoBulkEntry x + uptoBulkEntries r
def uptoBulkEntry {H : Type} : Lit × DataW H → Nat
  | (.string bytes, d) => bytes.length + uptoBulk d + 1
  | (_, d) => uptoBulk d + 1
 end
def uptoSmall : (H : Type) → List (DataW H) → Bool := fun _ ds => decide (uptoBulkAll ds ≤ 1048576)
def OpenSpec.upto (s : _root_.Go.ChangeSpec) : _root_.Go.OpenSpec := { _root_.Go.OpenSpec.ofChange s with cond := some uptoSmall }

/-- 'fretsawlaw02.WireLengths', WHERE WHAT IT READS IS OF BULK AT MOST 1048576: true; the input reads as it did. -/
def wireLengthsUptoRow : OpenClaim := { program := "ytfpfbkejcnmdkaa", sum := "4f95cb1143e8ad4c5be9a761cb5759a9946bdfac7c6b3e85e4426f8baebdf359", func := "fretsaw/fretsawlaw02.WireLengths", spec := "wireLengths", apart := false, narrowed := true }
def WireLengthsUptoSaid : Prop := wireLengthsUptoRow.holds Try.pinned (OpenSpec.upto wireLengthsSpec)

/-- 'fretsawlaw02.WireFours', WHERE WHAT IT READS IS OF BULK AT MOST 1048576: true; the input reads as it did. -/
def wireFoursUptoRow : OpenClaim := { program := "ytfpfbkejcnmdkaa", sum := "4f95cb1143e8ad4c5be9a761cb5759a9946bdfac7c6b3e85e4426f8baebdf359", func := "fretsaw/fretsawlaw02.WireFours", spec := "wireFours", apart := false, narrowed := true }
def WireFoursUptoSaid : Prop := wireFoursUptoRow.holds Try.pinned (OpenSpec.upto wireFoursSpec)

/-- 'fretsawlaw02.WireNumbers', WHERE WHAT IT READS IS OF BULK AT MOST 1048576: true; the input reads as it did. -/
def wireNumbersUptoRow : OpenClaim := { program := "ytfpfbkejcnmdkaa", sum := "4f95cb1143e8ad4c5be9a761cb5759a9946bdfac7c6b3e85e4426f8baebdf359", func := "fretsaw/fretsawlaw02.WireNumbers", spec := "wireNumbers", apart := false, narrowed := true }
def WireNumbersUptoSaid : Prop := wireNumbersUptoRow.holds Try.pinned (OpenSpec.upto wireNumbersSpec)

/-- 'fretsawlaw02.WireTexts', WHERE WHAT IT READS IS OF BULK AT MOST 1048576: true; the input reads as it did. -/
def wireTextsUptoRow : OpenClaim := { program := "ytfpfbkejcnmdkaa", sum := "4f95cb1143e8ad4c5be9a761cb5759a9946bdfac7c6b3e85e4426f8baebdf359", func := "fretsaw/fretsawlaw02.WireTexts", spec := "wireTexts", apart := false, narrowed := true }
def WireTextsUptoSaid : Prop := wireTextsUptoRow.holds Try.pinned (OpenSpec.upto wireTextsSpec)

/-- 'fretsawlaw02.WireLists', WHERE WHAT IT READS IS OF BULK AT MOST 1048576: true; the input reads as it did. -/
def wireListsUptoRow : OpenClaim := { program := "ytfpfbkejcnmdkaa", sum := "4f95cb1143e8ad4c5be9a761cb5759a9946bdfac7c6b3e85e4426f8baebdf359", func := "fretsaw/fretsawlaw02.WireLists", spec := "wireLists", unfollowed := true, recurses := true, apart := false, narrowed := true }
def WireListsUptoSaid : Prop := wireListsUptoRow.holds Try.pinned (OpenSpec.upto wireListsSpec)

/-- 'fretsawlaw02.WireOnce', WHERE WHAT IT READS IS OF BULK AT MOST 1048576: true; the input reads as it did. -/
def wireOnceUptoRow : OpenClaim := { program := "ytfpfbkejcnmdkaa", sum := "4f95cb1143e8ad4c5be9a761cb5759a9946bdfac7c6b3e85e4426f8baebdf359", func := "fretsaw/fretsawlaw02.WireOnce", spec := "wireOnce", unfollowed := true, recurses := true, apart := false, narrowed := true }
def WireOnceUptoSaid : Prop := wireOnceUptoRow.holds Try.pinned (OpenSpec.upto wireOnceSpec)

/-- 'fretsawlaw02.WireBack', WHERE WHAT IT READS IS OF BULK AT MOST 1048576: true; the input reads as it did. -/
def wireBackUptoRow : OpenClaim := { program := "ytfpfbkejcnmdkaa", sum := "4f95cb1143e8ad4c5be9a761cb5759a9946bdfac7c6b3e85e4426f8baebdf359", func := "fretsaw/fretsawlaw02.WireBack", spec := "wireBack", unfollowed := true, recurses := true, apart := false, narrowed := true }
def WireBackUptoSaid : Prop := wireBackUptoRow.holds Try.pinned (OpenSpec.upto wireBackSpec)

end Rows
end Go.Proofs.Ytfpfbkejcnmdkaa
