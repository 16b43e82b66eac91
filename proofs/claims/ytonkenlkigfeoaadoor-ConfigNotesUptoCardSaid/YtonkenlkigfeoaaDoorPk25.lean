/- The tables of unicode/utf8 as they are laid when a call begins, and the library's number of a loop's kind (MaxLen): the witness's world, and what the walks ask of a world. No conditions. -/
import Derived.Test.YtonkenlkigfeoaaDoorRows
import Derived.Test.YtonkenlkigfeoaaDoorPk18
import Derived.Deep.DeepHandedRow
import Derived.Deep.DeepWitnessRowRef
import Derived.Lib.LaidIn
import Derived.Lib.LaidU8
import Derived.ProofKit
namespace Go.Proofs.YtonkenlkigfeoaaDoor
open Go.Shelf Go.Lib Go.RowKit
def lay : List (String × DataW Unit) := [("unicode/utf8.acceptRanges", Rows.laid_unicode_utf8_acceptRanges), ("unicode/utf8.first", Rows.laid_unicode_utf8_first)]
noncomputable def laidWorld (os : Os) : World :=
 let w0 := World.holding Tryd.prog os ⟨#[], #[], []⟩
 let put (h : Array Obj) (g : Nat) (cs : Array Value) : Array Obj := h.modify g fun
   | .cells _ t frozen => .cells cs t frozen
   | o => o
 let h1 := put w0.heap 1 (Lib.firstTab.map fun z => Value.int .u8 z).toArray
 let h2 := put h1 2 ((List.range 16).flatMap fun i => [Value.int .u8 (Lib.accLo i), Value.int .u8 (Lib.accHi i)]).toArray
 { w0 with heap := h2 }
set_option maxRecDepth 1000000 in
theorem laid_met (os : Os) (args : Array Value) : laidMet Tryd.prog lay ((laidWorld os).forCall (fun _ _ => 0) ⟨#[], args, []⟩).memory := by
 have h : LaidIn Tryd.prog ((laidWorld os).forCall (fun _ _ => 0) ⟨#[], args, []⟩).memory lay [2, 1] :=
   LaidIn.of_run [2, 1] 8 (by kernel_rfl) (by kernel_rfl) (by kernel_rfl) (by kernel_rfl)
 exact h.met
theorem tabs_of {W : World} (_ : laidMetH Tryd.prog lay W) (hs : W.ShapedOpen Tryd.prog) : ∃ m, W.cell? ⟨0, 0, none⟩ = some (.int .i64 m) := Tryd.laysM146.s1_3 W hs
end Go.Proofs.YtonkenlkigfeoaaDoor
