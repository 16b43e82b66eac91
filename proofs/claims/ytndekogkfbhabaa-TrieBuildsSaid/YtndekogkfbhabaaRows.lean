/-
  No cell of these rows narrows 'for every input' (looked for: loops, veiled, ifaces, maps, wideKeys, modest, calm, conditions, laid).
  DERIVED. THE GIVEN ROWS OF THIS SEAT. 2 by the template 'for every input the law returns true; each argument reads behind the call as it read before'; 0 by the template 'total and deterministic' (their statements: YtndekogkfbhabaaTotals.lean).
  GIVEN WITH THE SEED: the statements are not yours to turn. If you find one false, say at which input.
  Laid BY PROGRAM, IN A SANDBOX (cutbox-rows.mjs): the forced cells as the released guide's own fill.sh prints them over the translation ce674c0e88a080c0… (all of the seat's roots in one cut). By AI agents, Wed Nov 11 2026. No macro, syntax, notation, axiom, sorry.
-/
import Derived.Test.YtndekogkfbhabaaChecked
import GoSem.Claim
import GoSem.ClaimJoined
import GoSem.ClaimMapViews
import Derived.JoinedTies
import Derived.KernelRfl
namespace Go.Proofs.Ytndekogkfbhabaa
/- THE CELL 'sum', in the pinned program and in every row, IS THE sha256 OF THE DUMP (.gsa) THAT YtndekogkfbhabaaProg.lean LOADS. Nothing in Lean hashes anything: it is a label: what it is worth is what the hold of that sum in a sandbox is worth. -/
noncomputable def Try.pinned : Pinned := { name := "ytndekogkfbhabaa", sum := "ce674c0e88a080c01807445039b7863c67bfe92d3c3608dd8d3bfab6b68d4f5a", checked := Try.checked }
namespace Rows
def none {H : Type} : Left H := { results := [], args := [] }

/-- 'fretsawlaw16.TrieLess': WHATEVER THE INPUT: true; the input reads as it did. -/
def trieLessSpec : ChangeSpec := { name := "trieLess", fn := fun _ => fun
  | [d1, d2, d3] => { results := [.lit (.bool true)], args := [d1, d2, d3] }
  | _ => none }
def trieLessRow : OpenClaim := { program := "ytndekogkfbhabaa", sum := "ce674c0e88a080c01807445039b7863c67bfe92d3c3608dd8d3bfab6b68d4f5a", func := "fretsaw/fretsawlaw16.TrieLess", spec := "trieLess", unfollowed := true, recurses := true, apart := false }
def TrieLessSaid : Prop := trieLessRow.holds Try.pinned (OpenSpec.ofChange trieLessSpec)

/-- ITS FALSE NEIGHBOUR: 'it returns false'. Refute it at one input. -/
def trieLessWrong : ChangeSpec := { name := "trieLess", fn := fun _ => fun
  | [d1, d2, d3] => { results := [.lit (.bool false)], args := [d1, d2, d3] }
  | _ => none }
def TrieLessWrongFalsely : Prop := trieLessRow.holds Try.pinned (OpenSpec.ofChange trieLessWrong)

/-- 'fretsawlaw16.TrieBuilds': WHATEVER THE INPUT: true; the input reads as it did. -/
def trieBuildsSpec : ChangeSpec := { name := "trieBuilds", fn := fun _ => fun
  | [d1, d2, d3] => { results := [.lit (.bool true)], args := [d1, d2, d3] }
  | _ => none }
def trieBuildsRow : OpenClaim := { program := "ytndekogkfbhabaa", sum := "ce674c0e88a080c01807445039b7863c67bfe92d3c3608dd8d3bfab6b68d4f5a", func := "fretsaw/fretsawlaw16.TrieBuilds", spec := "trieBuilds", unfollowed := true, recurses := true, apart := false }
def TrieBuildsSaid : Prop := trieBuildsRow.holds Try.pinned (OpenSpec.ofChange trieBuildsSpec)

/-- ITS FALSE NEIGHBOUR: 'it returns false'. Refute it at one input. -/
def trieBuildsWrong : ChangeSpec := { name := "trieBuilds", fn := fun _ => fun
  | [d1, d2, d3] => { results := [.lit (.bool false)], args := [d1, d2, d3] }
  | _ => none }
def TrieBuildsWrongFalsely : Prop := trieBuildsRow.holds Try.pinned (OpenSpec.ofChange trieBuildsWrong)

/- THE SECOND FORM. 'bulk': how many values and letters a reading holds, each counted each time it is reached (what is shared counts as often as it is met; a slice's spare places count too). A statement '..UptoSaid' is the law's where the arguments, and the package variables that the reading takes, are together of bulk at most 1048576: NARROWER than '..Said'. Prove '..Said' where nothing that the law and all that it calls make is longer than what came in: it says more and counts as full. Else prove '..UptoSaid'. A law counts once. -/
mutual
def uptoBulk {H : Type} : DataW H → Nat
  | .lit (.string bytes) => bytes.length + 1
  | .lit _ => 1
  | .nil => 1
  | .ptr d => uptoBulk d + 1
  | .slice elems spare => uptoBulkAll elems + uptoBulkAll spare + 1
  | .agg parts => uptoBulkAll parts + 1
  | .iface _ d => uptoBulk d + 1
  | .map entries => uptoBulkEntries entries + 1
  | .held _ => 1
def uptoBulkAll {H : Type} : List (DataW H) → Nat
  | [] => 0
  | d :: r => uptoBulk d + uptoBulkAll r
def uptoBulkEntries {H : Type} : List (Lit × DataW H) → Nat
  | [] => 0
  | x :: r => uptoBulkEntry x + uptoBulkEntries r
def uptoBulkEntry {H : Type} : Lit × DataW H → Nat
  | (.string bytes, d) => bytes.length + uptoBulk d + 1
  | (_, d) => uptoBulk d + 1
 end
def uptoSmall : (H : Type) → List (DataW H) → Bool := fun _ ds => decide (uptoBulkAll ds ≤ 1048576)
def OpenSpec.upto (s : _root_.Go.ChangeSpec) : _root_.Go.OpenSpec := { _root_.Go.OpenSpec.ofChange s with cond := some uptoSmall }

/-- 'fretsawlaw16.TrieLess', WHERE WHAT IT READS IS OF BULK AT MOST 1048576: true; the input reads as it did. -/
def trieLessUptoRow : OpenClaim := { program := "ytndekogkfbhabaa", sum := "ce674c0e88a080c01807445039b7863c67bfe92d3c3608dd8d3bfab6b68d4f5a", func := "fretsaw/fretsawlaw16.TrieLess", spec := "trieLess", unfollowed := true, recurses := true, apart := false, narrowed := true }
def TrieLessUptoSaid : Prop := trieLessUptoRow.holds Try.pinned (OpenSpec.upto trieLessSpec)

/-- 'fretsawlaw16.TrieBuilds', WHERE WHAT IT READS IS OF BULK AT MOST 1048576: true; the input reads as it did. -/
def trieBuildsUptoRow : OpenClaim := { program := "ytndekogkfbhabaa", sum := "ce674c0e88a080c01807445039b7863c67bfe92d3c3608dd8d3bfab6b68d4f5a", func := "fretsaw/fretsawlaw16.TrieBuilds", spec := "trieBuilds", unfollowed := true, recurses := true, apart := false, narrowed := true }
def TrieBuildsUptoSaid : Prop := trieBuildsUptoRow.holds Try.pinned (OpenSpec.upto trieBuildsSpec)

end Rows
end Go.Proofs.Ytndekogkfbhabaa
