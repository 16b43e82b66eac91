/-
  No cell of these rows narrows 'for every input' (looked for: loops, veiled, ifaces, maps, wideKeys, modest, calm, conditions, laid).
  DERIVED. THE GIVEN ROWS OF THIS SEAT. 7 by the template 'for every input the law returns true; each argument reads behind the call as it read before'; 0 by the template 'total and deterministic' (their statements: YtbomloodllddaaaTotals.lean).
  GIVEN WITH THE SEED: the statements are not yours to turn. If you find one false, say at which input.
  Laid BY PROGRAM, IN A SANDBOX (cutbox-rows.mjs): the forced cells as the released guide's own fill.sh prints them over the translation 49b00ae4dd229a2f… (all of the seat's roots in one cut). By AI agents, Wed Nov 11 2026. No macro, syntax, notation, axiom, sorry.
-/
import Derived.Test.YtbomloodllddaaaChecked
import GoSem.Claim
import GoSem.ClaimJoined
import GoSem.ClaimMapViews
import Derived.JoinedTies
import Derived.KernelRfl
namespace Go.Proofs.Ytbomloodllddaaa
/- THE CELL 'sum', in the pinned program and in every row, IS THE sha256 OF THE DUMP (.gsa) THAT YtbomloodllddaaaProg.lean LOADS. Nothing in Lean hashes anything: it is a label: what it is worth is what the hold of that sum in a sandbox is worth. -/
noncomputable def Try.pinned : Pinned := { name := "ytbomloodllddaaa", sum := "49b00ae4dd229a2ffd7eb9df73a65883a249a3057eba3e1147e766e3481b4e7b", checked := Try.checked }
namespace Rows
def none {H : Type} : Left H := { results := [], args := [] }

/-- 'fretsawlaw25.LoadWrites': WHATEVER THE INPUT: true; the input reads as it did. -/
def loadWritesSpec : ChangeSpec := { name := "loadWrites", fn := fun _ => fun
  | [d] => { results := [.lit (.bool true)], args := [d] }
  | _ => none }
def loadWritesRow : OpenClaim := { program := "ytbomloodllddaaa", sum := "49b00ae4dd229a2ffd7eb9df73a65883a249a3057eba3e1147e766e3481b4e7b", func := "fretsaw/fretsawlaw25.LoadWrites", spec := "loadWrites", inPlace := ["internal/abi.NoEscape"], unfollowed := true, recurses := true, apart := false }
def LoadWritesSaid : Prop := loadWritesRow.holds Try.pinned (OpenSpec.ofChange loadWritesSpec)

/-- ITS FALSE NEIGHBOUR: 'it returns false'. Refute it at one input. -/
def loadWritesWrong : ChangeSpec := { name := "loadWrites", fn := fun _ => fun
  | [d] => { results := [.lit (.bool false)], args := [d] }
  | _ => none }
def LoadWritesWrongFalsely : Prop := loadWritesRow.holds Try.pinned (OpenSpec.ofChange loadWritesWrong)

/-- 'fretsawlaw25.LoadReads': WHATEVER THE INPUT: true; the input reads as it did. -/
def loadReadsSpec : ChangeSpec := { name := "loadReads", fn := fun _ => fun
  | [d] => { results := [.lit (.bool true)], args := [d] }
  | _ => none }
def loadReadsRow : OpenClaim := { program := "ytbomloodllddaaa", sum := "49b00ae4dd229a2ffd7eb9df73a65883a249a3057eba3e1147e766e3481b4e7b", func := "fretsaw/fretsawlaw25.LoadReads", spec := "loadReads", unfollowed := true, recurses := true, apart := false }
def LoadReadsSaid : Prop := loadReadsRow.holds Try.pinned (OpenSpec.ofChange loadReadsSpec)

/-- ITS FALSE NEIGHBOUR: 'it returns false'. Refute it at one input. -/
def loadReadsWrong : ChangeSpec := { name := "loadReads", fn := fun _ => fun
  | [d] => { results := [.lit (.bool false)], args := [d] }
  | _ => none }
def LoadReadsWrongFalsely : Prop := loadReadsRow.holds Try.pinned (OpenSpec.ofChange loadReadsWrong)

/-- 'fretsawlaw25.LoadSections': WHATEVER THE INPUT: true; the input reads as it did. -/
def loadSectionsSpec : ChangeSpec := { name := "loadSections", fn := fun _ => fun
  | [d] => { results := [.lit (.bool true)], args := [d] }
  | _ => none }
def loadSectionsRow : OpenClaim := { program := "ytbomloodllddaaa", sum := "49b00ae4dd229a2ffd7eb9df73a65883a249a3057eba3e1147e766e3481b4e7b", func := "fretsaw/fretsawlaw25.LoadSections", spec := "loadSections", unfollowed := true, recurses := true, apart := false }
def LoadSectionsSaid : Prop := loadSectionsRow.holds Try.pinned (OpenSpec.ofChange loadSectionsSpec)

/-- ITS FALSE NEIGHBOUR: 'it returns false'. Refute it at one input. -/
def loadSectionsWrong : ChangeSpec := { name := "loadSections", fn := fun _ => fun
  | [d] => { results := [.lit (.bool false)], args := [d] }
  | _ => none }
def LoadSectionsWrongFalsely : Prop := loadSectionsRow.holds Try.pinned (OpenSpec.ofChange loadSectionsWrong)

/-- 'fretsawlaw25.LoadOnce': WHATEVER THE INPUT: true; the input reads as it did. -/
def loadOnceSpec : ChangeSpec := { name := "loadOnce", fn := fun _ => fun
  | [d1, d2] => { results := [.lit (.bool true)], args := [d1, d2] }
  | _ => none }
def loadOnceRow : OpenClaim := { program := "ytbomloodllddaaa", sum := "49b00ae4dd229a2ffd7eb9df73a65883a249a3057eba3e1147e766e3481b4e7b", func := "fretsaw/fretsawlaw25.LoadOnce", spec := "loadOnce", inPlace := ["internal/abi.NoEscape"], unfollowed := true, recurses := true, apart := false }
def LoadOnceSaid : Prop := loadOnceRow.holds Try.pinned (OpenSpec.ofChange loadOnceSpec)

/-- ITS FALSE NEIGHBOUR: 'it returns false'. Refute it at one input. -/
def loadOnceWrong : ChangeSpec := { name := "loadOnce", fn := fun _ => fun
  | [d1, d2] => { results := [.lit (.bool false)], args := [d1, d2] }
  | _ => none }
def LoadOnceWrongFalsely : Prop := loadOnceRow.holds Try.pinned (OpenSpec.ofChange loadOnceWrong)

/-- 'fretsawlaw25.LoadBack': WHATEVER THE INPUT: true; the input reads as it did. -/
def loadBackSpec : ChangeSpec := { name := "loadBack", fn := fun _ => fun
  | [d] => { results := [.lit (.bool true)], args := [d] }
  | _ => none }
def loadBackRow : OpenClaim := { program := "ytbomloodllddaaa", sum := "49b00ae4dd229a2ffd7eb9df73a65883a249a3057eba3e1147e766e3481b4e7b", func := "fretsaw/fretsawlaw25.LoadBack", spec := "loadBack", inPlace := ["internal/abi.NoEscape"], unfollowed := true, recurses := true, apart := false }
def LoadBackSaid : Prop := loadBackRow.holds Try.pinned (OpenSpec.ofChange loadBackSpec)

/-- ITS FALSE NEIGHBOUR: 'it returns false'. Refute it at one input. -/
def loadBackWrong : ChangeSpec := { name := "loadBack", fn := fun _ => fun
  | [d] => { results := [.lit (.bool false)], args := [d] }
  | _ => none }
def LoadBackWrongFalsely : Prop := loadBackRow.holds Try.pinned (OpenSpec.ofChange loadBackWrong)

/-- 'fretsawlaw25.LoadTorn': WHATEVER THE INPUT: true; the input reads as it did. -/
def loadTornSpec : ChangeSpec := { name := "loadTorn", fn := fun _ => fun
  | [d1, d2, d3] => { results := [.lit (.bool true)], args := [d1, d2, d3] }
  | _ => none }
def loadTornRow : OpenClaim := { program := "ytbomloodllddaaa", sum := "49b00ae4dd229a2ffd7eb9df73a65883a249a3057eba3e1147e766e3481b4e7b", func := "fretsaw/fretsawlaw25.LoadTorn", spec := "loadTorn", inPlace := ["internal/abi.NoEscape"], unfollowed := true, recurses := true, apart := false }
def LoadTornSaid : Prop := loadTornRow.holds Try.pinned (OpenSpec.ofChange loadTornSpec)

/-- ITS FALSE NEIGHBOUR: 'it returns false'. Refute it at one input. -/
def loadTornWrong : ChangeSpec := { name := "loadTorn", fn := fun _ => fun
  | [d1, d2, d3] => { results := [.lit (.bool false)], args := [d1, d2, d3] }
  | _ => none }
def LoadTornWrongFalsely : Prop := loadTornRow.holds Try.pinned (OpenSpec.ofChange loadTornWrong)

/-- 'fretsawlaw25.LoadSafe': WHATEVER THE INPUT: true; the input reads as it did. -/
def loadSafeSpec : ChangeSpec := { name := "loadSafe", fn := fun _ => fun
  | [d1, d2, d3, d4] => { results := [.lit (.bool true)], args := [d1, d2, d3, d4] }
  | _ => none }
def loadSafeRow : OpenClaim := { program := "ytbomloodllddaaa", sum := "49b00ae4dd229a2ffd7eb9df73a65883a249a3057eba3e1147e766e3481b4e7b", func := "fretsaw/fretsawlaw25.LoadSafe", spec := "loadSafe", inPlace := ["internal/abi.NoEscape"], unfollowed := true, recurses := true, apart := false }
def LoadSafeSaid : Prop := loadSafeRow.holds Try.pinned (OpenSpec.ofChange loadSafeSpec)

/-- ITS FALSE NEIGHBOUR: 'it returns false'. Refute it at one input. -/
def loadSafeWrong : ChangeSpec := { name := "loadSafe", fn := fun _ => fun
  | [d1, d2, d3, d4] => { results := [.lit (.bool false)], args := [d1, d2, d3, d4] }
  | _ => none }
def LoadSafeWrongFalsely : Prop := loadSafeRow.holds Try.pinned (OpenSpec.ofChange loadSafeWrong)

/- THE SECOND FORM. 'bulk': how many values and letters a reading holds, each counted each time it is reached (what is shared counts as often as it is met; a slice's spare places count too). A statement '..UptoSaid' is the law's where the arguments, and the package variables that the reading takes, are together of bulk at most 1048576: NARROWER than '..Said'. Prove '..Said' where nothing that the law and all that it calls make is longer than what came in: it says more and counts as full. Else prove '..UptoSaid'. A law counts once. -/
mutual
def uptoBulk {H : Type} : DataW H → Nat
  | .lit (.string bytes) => bytes.length + 1
  | .lit _ => 1
  | .nil => 1
  | .ptr d => uptoBulk d + 1
  | .slice elems spare => uptoBulkAll elems + uptoBulkAll spare + 1
  | .agg parts => uptoBulkAll parts + 1
  | .iface _ d => uptoBulk d + 1
  | .map entries => uptoBulkEntries entries + 1
  | .held _ => 1
def uptoBulkAll {H : Type} : List (DataW H) → Nat
  | [] => 0
  | d :: r => uptoBulk d + uptoBulkAll r
def uptoBulkEntries {H : Type} : List (Lit × DataW H) → Nat
  | [] => 0
  | x :: r => uptoBulkEntry x + uptoBulkEntries r
def uptoBulkEntry {H : Type} : Lit × DataW H → Nat
  | (.string bytes, d) => bytes.length + uptoBulk d + 1
  | (_, d) => uptoBulk d + 1
 end
def uptoSmall : (H : Type) → List (DataW H) → Bool := fun _ ds => decide (uptoBulkAll ds ≤ 1048576)
def OpenSpec.upto (s : _root_.Go.ChangeSpec) : _root_.Go.OpenSpec := { _root_.Go.OpenSpec.ofChange s with cond := some uptoSmall }

/-- 'fretsawlaw25.LoadWrites', WHERE WHAT IT READS IS OF BULK AT MOST 1048576: true; the input reads as it did. -/
def loadWritesUptoRow : OpenClaim := { program := "ytbomloodllddaaa", sum := "49b00ae4dd229a2ffd7eb9df73a65883a249a3057eba3e1147e766e3481b4e7b", func := "fretsaw/fretsawlaw25.LoadWrites", spec := "loadWrites", inPlace := ["internal/abi.NoEscape"], unfollowed := true, recurses := true, apart := false, narrowed := true }
def LoadWritesUptoSaid : Prop := loadWritesUptoRow.holds Try.pinned (OpenSpec.upto loadWritesSpec)

/-- 'fretsawlaw25.LoadReads', WHERE WHAT IT READS IS OF BULK AT MOST 1048576: true; the input reads as it did. -/
def loadReadsUptoRow : OpenClaim := { program := "ytbomloodllddaaa", sum := "49b00ae4dd229a2ffd7eb9df73a65883a249a3057eba3e1147e766e3481b4e7b", func := "fretsaw/fretsawlaw25.LoadReads", spec := "loadReads", unfollowed := true, recurses := true, apart := false, narrowed := true }
def LoadReadsUptoSaid : Prop := loadReadsUptoRow.holds Try.pinned (OpenSpec.upto loadReadsSpec)

/-- 'fretsawlaw25.LoadSections', WHERE WHAT IT READS IS OF BULK AT MOST 1048576: true; the input reads as it did. -/
def loadSectionsUptoRow : OpenClaim := { program := "ytbomloodllddaaa", sum := "49b00ae4dd229a2ffd7eb9df73a65883a249a3057eba3e1147e766e3481b4e7b", func := "fretsaw/fretsawlaw25.LoadSections", spec := "loadSections", unfollowed := true, recurses := true, apart := false, narrowed := true }
def LoadSectionsUptoSaid : Prop := loadSectionsUptoRow.holds Try.pinned (OpenSpec.upto loadSectionsSpec)

/-- 'fretsawlaw25.LoadOnce', WHERE WHAT IT READS IS OF BULK AT MOST 1048576: true; the input reads as it did. -/
def loadOnceUptoRow : OpenClaim := { program := "ytbomloodllddaaa", sum := "49b00ae4dd229a2ffd7eb9df73a65883a249a3057eba3e1147e766e3481b4e7b", func := "fretsaw/fretsawlaw25.LoadOnce", spec := "loadOnce", inPlace := ["internal/abi.NoEscape"], unfollowed := true, recurses := true, apart := false, narrowed := true }
def LoadOnceUptoSaid : Prop := loadOnceUptoRow.holds Try.pinned (OpenSpec.upto loadOnceSpec)

/-- 'fretsawlaw25.LoadBack', WHERE WHAT IT READS IS OF BULK AT MOST 1048576: true; the input reads as it did. -/
def loadBackUptoRow : OpenClaim := { program := "ytbomloodllddaaa", sum := "49b00ae4dd229a2ffd7eb9df73a65883a249a3057eba3e1147e766e3481b4e7b", func := "fretsaw/fretsawlaw25.LoadBack", spec := "loadBack", inPlace := ["internal/abi.NoEscape"], unfollowed := true, recurses := true, apart := false, narrowed := true }
def LoadBackUptoSaid : Prop := loadBackUptoRow.holds Try.pinned (OpenSpec.upto loadBackSpec)

/-- 'fretsawlaw25.LoadTorn', WHERE WHAT IT READS IS OF BULK AT MOST 1048576: true; the input reads as it did. -/
def loadTornUptoRow : OpenClaim := { program := "ytbomloodllddaaa", sum := "49b00ae4dd229a2ffd7eb9df73a65883a249a3057eba3e1147e766e3481b4e7b", func := "fretsaw/fretsawlaw25.LoadTorn", spec := "loadTorn", inPlace := ["internal/abi.NoEscape"], unfollowed := true, recurses := true, apart := false, narrowed := true }
def LoadTornUptoSaid : Prop := loadTornUptoRow.holds Try.pinned (OpenSpec.upto loadTornSpec)

/-- 'fretsawlaw25.LoadSafe', WHERE WHAT IT READS IS OF BULK AT MOST 1048576: true; the input reads as it did. -/
def loadSafeUptoRow : OpenClaim := { program := "ytbomloodllddaaa", sum := "49b00ae4dd229a2ffd7eb9df73a65883a249a3057eba3e1147e766e3481b4e7b", func := "fretsaw/fretsawlaw25.LoadSafe", spec := "loadSafe", inPlace := ["internal/abi.NoEscape"], unfollowed := true, recurses := true, apart := false, narrowed := true }
def LoadSafeUptoSaid : Prop := loadSafeUptoRow.holds Try.pinned (OpenSpec.upto loadSafeSpec)

end Rows
end Go.Proofs.Ytbomloodllddaaa
