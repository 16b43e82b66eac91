/- The table of math/bits.TrailingZeros64 as it is laid when a call begins: the witness's world, and what the walks ask of a world. No conditions. -/
import Derived.Test.YtapanlchnmgkmaaDoorRows
import Derived.Test.YtapanlchnmgkmaaDoorSetTz
import Derived.Deep.DeepHandedRow
import Derived.Deep.DeepWitnessRowRef
import Derived.Lib.LaidIn
import Derived.Lib.LaidU8
import Derived.ProofKit
namespace Go.Proofs.YtapanlchnmgkmaaDoor
open Go.Shelf Go.Lib Go.RowKit
def lay : List (String × DataW Unit) := [("math/bits.deBruijn64tab", Rows.laid_math_bits_deBruijn64tab)]
def tzInts : List Int := Lib.deBruijn64tab.map fun n : Nat => (n : Int)
theorem lay_tab : (Rows.laid_math_bits_deBruijn64tab : DataW Unit) = Lib.tabData .u8 tzInts := by kernel_rfl
noncomputable def laidWorld (os : Os) : World :=
  let w0 := World.holding Tryd.prog os ⟨#[], #[], []⟩
  let put (h : Array Obj) (g : Nat) (cs : Array Value) : Array Obj := h.modify g fun
    | .cells _ t frozen => .cells cs t frozen
    | o => o
  { w0 with heap := put w0.heap 0 (tzInts.map fun z => Value.int .u8 z).toArray }
set_option maxRecDepth 1000000 in
theorem laid_met (os : Os) (args : Array Value) : laidMet Tryd.prog lay ((laidWorld os).forCall (fun _ _ => 0) ⟨#[], args, []⟩).memory := by
  have h : LaidIn Tryd.prog ((laidWorld os).forCall (fun _ _ => 0) ⟨#[], args, []⟩).memory lay [0] :=
    LaidIn.of_run [0] 8 (by kernel_rfl) (by kernel_rfl) (by kernel_rfl) (by kernel_rfl)
  exact h.met
theorem tabs_of {W : World} (h : laidMetH Tryd.prog lay W) : TabAt 0 Lib.deBruijn64tab W := by
  have h1 := Lib.laidMet.reads h (.head _)
  rw [lay_tab] at h1
  intro c hc
  obtain ⟨g, t, cs, fuel, p, hg, hty, hvar, hd⟩ := h1
  obtain rfl := Option.some.inj ((show Tryd.prog.globalNamed "math/bits.deBruijn64tab" = some 0 by kernel_rfl).symm.trans hg)
  obtain rfl := Option.some.inj ((show (Tryd.prog.globals[0]?).map (·.type) = some 39 by kernel_rfl).symm.trans hty)
  have hcs := cells_of_tab Tryd.underlying39 Tryd.underlying5 (by kernel_rfl) (by kernel_rfl) hd
  have := World.var?_cell hg hvar c
  rw [this, ← Array.getElem?_toList, hcs]
  have hl : Lib.deBruijn64tab.length = 64 := by decide
  simp [tzInts, List.getD, hc]
end Go.Proofs.YtapanlchnmgkmaaDoor
