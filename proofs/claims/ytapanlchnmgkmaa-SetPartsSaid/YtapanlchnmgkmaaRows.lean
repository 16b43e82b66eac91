/-
  No cell of these rows narrows 'for every input' (looked for: loops, veiled, ifaces, maps, wideKeys, modest, calm, conditions, laid).
  DERIVED. THE GIVEN ROWS OF THIS SEAT. 3 by the template 'for every input the law returns true; each argument reads behind the call as it read before'; 0 by the template 'total and deterministic' (their statements: YtapanlchnmgkmaaTotals.lean).
  GIVEN WITH THE SEED: the statements are not yours to turn. If you find one false, say at which input.
  Laid BY PROGRAM, IN A SANDBOX (cutbox-rows.mjs): the forced cells as the released guide's own fill.sh prints them over the translation 7dffa3ff30ab94f9… (all of the seat's roots in one cut). By AI agents, Wed Nov 11 2026. No macro, syntax, notation, axiom, sorry.
-/
import Derived.Test.YtapanlchnmgkmaaChecked
import GoSem.Claim
import GoSem.ClaimJoined
import GoSem.ClaimMapViews
import Derived.JoinedTies
import Derived.KernelRfl
namespace Go.Proofs.Ytapanlchnmgkmaa
/- THE CELL 'sum', in the pinned program and in every row, IS THE sha256 OF THE DUMP (.gsa) THAT YtapanlchnmgkmaaProg.lean LOADS. Nothing in Lean hashes anything: it is a label: what it is worth is what the hold of that sum in a sandbox is worth. -/
noncomputable def Try.pinned : Pinned := { name := "ytapanlchnmgkmaa", sum := "7dffa3ff30ab94f9f29e55d21cf98c2d4c33aaae6dd5ee113d2ce9da6f9ff0db", checked := Try.checked }
namespace Rows
def none {H : Type} : Left H := { results := [], args := [] }

/-- 'fretsawlaw05.SetCombines': WHATEVER THE INPUT: true; the input reads as it did. -/
def setCombinesSpec : ChangeSpec := { name := "setCombines", fn := fun _ => fun
  | [d1, d2] => { results := [.lit (.bool true)], args := [d1, d2] }
  | _ => none }
def setCombinesRow : OpenClaim := { program := "ytapanlchnmgkmaa", sum := "7dffa3ff30ab94f9f29e55d21cf98c2d4c33aaae6dd5ee113d2ce9da6f9ff0db", func := "fretsaw/fretsawlaw05.SetCombines", spec := "setCombines", plainKeys := false, apart := false }
def SetCombinesSaid : Prop := setCombinesRow.holds Try.pinned (OpenSpec.ofChange setCombinesSpec)

/-- ITS FALSE NEIGHBOUR: 'it returns false'. Refute it at one input. -/
def setCombinesWrong : ChangeSpec := { name := "setCombines", fn := fun _ => fun
  | [d1, d2] => { results := [.lit (.bool false)], args := [d1, d2] }
  | _ => none }
def SetCombinesWrongFalsely : Prop := setCombinesRow.holds Try.pinned (OpenSpec.ofChange setCombinesWrong)

/-- 'fretsawlaw05.SetClasses': WHATEVER THE INPUT: true; the input reads as it did. -/
def setClassesSpec : ChangeSpec := { name := "setClasses", fn := fun _ => fun
  | [d] => { results := [.lit (.bool true)], args := [d] }
  | _ => none }
def setClassesRow : OpenClaim := { program := "ytapanlchnmgkmaa", sum := "7dffa3ff30ab94f9f29e55d21cf98c2d4c33aaae6dd5ee113d2ce9da6f9ff0db", func := "fretsaw/fretsawlaw05.SetClasses", spec := "setClasses", plainKeys := false, apart := false }
def SetClassesSaid : Prop := setClassesRow.holds Try.pinned (OpenSpec.ofChange setClassesSpec)

/-- ITS FALSE NEIGHBOUR: 'it returns false'. Refute it at one input. -/
def setClassesWrong : ChangeSpec := { name := "setClasses", fn := fun _ => fun
  | [d] => { results := [.lit (.bool false)], args := [d] }
  | _ => none }
def SetClassesWrongFalsely : Prop := setClassesRow.holds Try.pinned (OpenSpec.ofChange setClassesWrong)

/-- 'fretsawlaw05.SetParts': WHATEVER THE INPUT: true; the input reads as it did. -/
def setPartsSpec : ChangeSpec := { name := "setParts", fn := fun _ => fun
  | [d1, d2, d3] => { results := [.lit (.bool true)], args := [d1, d2, d3] }
  | _ => none }
def setPartsRow : OpenClaim := { program := "ytapanlchnmgkmaa", sum := "7dffa3ff30ab94f9f29e55d21cf98c2d4c33aaae6dd5ee113d2ce9da6f9ff0db", func := "fretsaw/fretsawlaw05.SetParts", spec := "setParts", plainKeys := false, apart := false }
def SetPartsSaid : Prop := setPartsRow.holds Try.pinned (OpenSpec.ofChange setPartsSpec)

/-- ITS FALSE NEIGHBOUR: 'it returns false'. Refute it at one input. -/
def setPartsWrong : ChangeSpec := { name := "setParts", fn := fun _ => fun
  | [d1, d2, d3] => { results := [.lit (.bool false)], args := [d1, d2, d3] }
  | _ => none }
def SetPartsWrongFalsely : Prop := setPartsRow.holds Try.pinned (OpenSpec.ofChange setPartsWrong)

/- THE SECOND FORM. 'bulk': how many values and letters a reading holds, each counted each time it is reached (what is shared counts as often as it is met; a slice's spare places count too). A statement '..UptoSaid' is the law's where the arguments, and the package variables that the reading takes, are together of bulk at most 1048576: NARROWER than '..Said'. Prove '..Said' where nothing that the law and all that it calls make is longer than what came in: it says more and counts as full. Else prove '..UptoSaid'. A law counts once. -/
mutual
def uptoBulk {H : Type} : DataW H → Nat
  | .lit (.string bytes) => bytes.length + 1
  | .lit _ => 1
  | .nil => 1
  | .ptr d => uptoBulk d + 1
  | .slice elems spare => uptoBulkAll elems + uptoBulkAll spare + 1
  | .agg parts => uptoBulkAll parts + 1
  | .iface _ d => uptoBulk d + 1
  | .map entries => uptoBulkEntries entries + 1
  | .held _ => 1
def uptoBulkAll {H : Type} : List (DataW H) → Nat
  | [] => 0
  | d :: r => uptoBulk d + uptoBulkAll r
def uptoBulkEntries {H : Type} : List (Lit × DataW H) → Nat
  | [] => 0
  | x :: r => uptoBulkEntry x + uptoBulkEntries r
def uptoBulkEntry {H : Type} : Lit × DataW H → Nat
  | (.string bytes, d) => bytes.length + uptoBulk d + 1
  | (_, d) => uptoBulk d + 1
 end
def uptoSmall : (H : Type) → List (DataW H) → Bool := fun _ ds => decide (uptoBulkAll ds ≤ 1048576)
def OpenSpec.upto (s : _root_.Go.ChangeSpec) : _root_.Go.OpenSpec := { _root_.Go.OpenSpec.ofChange s with cond := some uptoSmall }

/-- 'fretsawlaw05.SetCombines', WHERE WHAT IT READS IS OF BULK AT MOST 1048576: true; the input reads as it did. -/
def setCombinesUptoRow : OpenClaim := { program := "ytapanlchnmgkmaa", sum := "7dffa3ff30ab94f9f29e55d21cf98c2d4c33aaae6dd5ee113d2ce9da6f9ff0db", func := "fretsaw/fretsawlaw05.SetCombines", spec := "setCombines", plainKeys := false, apart := false, narrowed := true }
def SetCombinesUptoSaid : Prop := setCombinesUptoRow.holds Try.pinned (OpenSpec.upto setCombinesSpec)

/-- 'fretsawlaw05.SetClasses', WHERE WHAT IT READS IS OF BULK AT MOST 1048576: true; the input reads as it did. -/
def setClassesUptoRow : OpenClaim := { program := "ytapanlchnmgkmaa", sum := "7dffa3ff30ab94f9f29e55d21cf98c2d4c33aaae6dd5ee113d2ce9da6f9ff0db", func := "fretsaw/fretsawlaw05.SetClasses", spec := "setClasses", plainKeys := false, apart := false, narrowed := true }
def SetClassesUptoSaid : Prop := setClassesUptoRow.holds Try.pinned (OpenSpec.upto setClassesSpec)

/-- 'fretsawlaw05.SetParts', WHERE WHAT IT READS IS OF BULK AT MOST 1048576: true; the input reads as it did. -/
def setPartsUptoRow : OpenClaim := { program := "ytapanlchnmgkmaa", sum := "7dffa3ff30ab94f9f29e55d21cf98c2d4c33aaae6dd5ee113d2ce9da6f9ff0db", func := "fretsaw/fretsawlaw05.SetParts", spec := "setParts", plainKeys := false, apart := false, narrowed := true }
def SetPartsUptoSaid : Prop := setPartsUptoRow.holds Try.pinned (OpenSpec.upto setPartsSpec)

end Rows
end Go.Proofs.Ytapanlchnmgkmaa
