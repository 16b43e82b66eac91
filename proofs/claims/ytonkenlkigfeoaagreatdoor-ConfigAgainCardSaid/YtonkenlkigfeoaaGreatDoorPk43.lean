/- The tables of strconv and math/bits as they are laid when a call begins (RegexPrints). No conditions. -/
import Derived.Test.YtonkenlkigfeoaaGreatDoorRows
import Derived.Test.YtonkenlkigfeoaaGreatDoorPk38
import Derived.Deep.DeepHandedRow
import Derived.Deep.DeepWitnessRowRef
import Derived.Lib.LaidIn
import Derived.Lib.LaidU8
import Derived.ProofKit
namespace Go.Proofs.YtonkenlkigfeoaaGreatDoor
open Go.Shelf Go.Lib Go.RowKit
def lay : List (String × DataW Unit) := [("math/bits.deBruijn32tab", Rows.laid_math_bits_deBruijn32tab), ("math/bits.deBruijn64tab", Rows.laid_math_bits_deBruijn64tab), ("internal/strconv.uint64pow10", Rows.laid_internal_strconv_uint64pow10)]
def t32 : List Int := [0, 1, 28, 2, 29, 14, 24, 3, 30, 22, 20, 15, 25, 17, 4, 8, 31, 27, 13, 23, 21, 19, 16, 7, 26, 12, 18, 6, 11, 5, 10, 9]
def t64 : List Int := [0, 1, 56, 2, 57, 49, 28, 3, 61, 58, 42, 50, 38, 29, 17, 4, 62, 47, 59, 36, 45, 43, 51, 22, 53, 39, 33, 30, 24, 18, 12, 5, 63, 55, 48, 27, 60, 41, 37, 16, 46, 35, 44, 21, 52, 32, 23, 11, 54, 26, 40, 15, 34, 20, 31, 10, 25, 14, 19, 9, 13, 8, 7, 6]
theorem lay_pow : (Rows.laid_internal_strconv_uint64pow10 : DataW Unit) = Lib.tabData .u64 Lib.pow10Tab := by kernel_rfl
def tzInts : List Int := Lib.deBruijn64tab.map fun n : Nat => (n : Int)
theorem lay_tab : (Rows.laid_math_bits_deBruijn64tab : DataW Unit) = Lib.tabData .u8 tzInts := by kernel_rfl
noncomputable def laidWorld (os : Os) : World :=
 let w0 := World.holding Tryz.prog os ⟨#[], #[], []⟩
 let put (h : Array Obj) (g : Nat) (cs : Array Value) : Array Obj := h.modify g fun
   | .cells _ t frozen => .cells cs t frozen
   | o => o
 let h1 := put w0.heap 3 (t32.map fun z => Value.int .u8 z).toArray
 let h2 := put h1 1 (t64.map fun z => Value.int .u8 z).toArray
 let h3 := put h2 2 (Lib.pow10Tab.map fun z => Value.int .u64 z).toArray
 { w0 with heap := h3 }
set_option maxRecDepth 1000000 in
theorem laid_met (os : Os) (args : Array Value) : laidMet Tryz.prog lay ((laidWorld os).forCall (fun _ _ => 0) ⟨#[], args, []⟩).memory := by
 have h : LaidIn Tryz.prog ((laidWorld os).forCall (fun _ _ => 0) ⟨#[], args, []⟩).memory lay [3, 1, 2] :=
   LaidIn.of_run [3, 1, 2] 8 (by kernel_rfl) (by kernel_rfl) (by kernel_rfl) (by kernel_rfl)
 exact h.met
theorem tabs_of64 {W : World} (h : laidMetH Tryz.prog lay W) : TabAt 1 Lib.deBruijn64tab W := by
 have h1 := Lib.laidMet.reads h (.tail _ (.head _)); rw [lay_tab] at h1; intro c hc; obtain ⟨g, t, cs, fuel, p, hg, hty, hvar, hd⟩ := h1; obtain rfl := Option.some.inj ((show Tryz.prog.globalNamed "math/bits.deBruijn64tab" = some 1 by kernel_rfl).symm.trans hg); obtain rfl := Option.some.inj ((show (Tryz.prog.globals[1]?).map (·.type) = some 141 by kernel_rfl).symm.trans hty); have hcs := cells_of_tab Tryz.underlying141 Tryz.underlying5 (by kernel_rfl) (by kernel_rfl) hd; have := World.var?_cell hg hvar c; rw [this, ← Array.getElem?_toList, hcs]
 have hl : Lib.deBruijn64tab.length = 64 := by decide
 simp [tzInts, List.getD, hc]
theorem tabs_of10 {W : World} (h : laidMetH Tryz.prog lay W) : Tab10 W := by
 have h1 := Lib.laidMet.reads h (.tail _ (.tail _ (.head _))); rw [lay_pow] at h1; obtain ⟨g, t, cs, fuel, p, hg, hty, hvar, hd⟩ := h1; obtain rfl := Option.some.inj ((show Tryz.prog.globalNamed "internal/strconv.uint64pow10" = some 2 by kernel_rfl).symm.trans hg); obtain rfl := Option.some.inj ((show (Tryz.prog.globals[2]?).map (·.type) = some 144 by kernel_rfl).symm.trans hty); have hcs := cells_of_tab Tryz.underlying144 Tryz.underlying23 (by kernel_rfl) (by kernel_rfl) hd; unfold Tab10 TabIs; rw [hvar, ← hcs]
theorem tabs_of {W : World} (h : laidMetH Tryz.prog lay W) : TT W := ⟨tabs_of64 h, tabs_of10 h⟩
end Go.Proofs.YtonkenlkigfeoaaGreatDoor
