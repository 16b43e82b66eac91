/- Regions that draw their order, whose calls make memory but turn nothing that was there: one walk, in the order of the text. No conditions. -/
import Derived.Test.YtndekogkfbhabaaBase
import Derived.Deep.QuietTactic
import Derived.BigQuiet
namespace Go.Proofs.Ytndekogkfbhabaa
open Go.RowKit
/-- the worlds in which all that was in w0 is as it was -/
def WB (w0 : World) : Type := { w' : World // Below w0.heap.size w0 w' }
instance (w0 : World) : Nonempty (WB w0) := ⟨⟨w0, Below.refl _ _⟩⟩
theorem WB.cell {w0 : World} (n : WB w0) {a : Addr} (h : a.block < w0.heap.size) : n.1.cell? a = w0.cell? a := n.2.cell h
theorem calls_wb {P : Program} {f : FuncId} {args : Array Value} {w0 : World} {n : WB w0} {v : Value} (h : Calls P f args n.1 fun e w' => e = .returned v ∧ Below n.1.heap.size n.1 w') :
    Calls P f args n.1 fun e w'' => e = .returned v ∧ ∃ m : WB w0, w'' = m.1 :=
  h.mono fun _ w' ⟨he, hb⟩ => ⟨he, ⟨w', n.2.trans (hb.mono n.2.size)⟩, rfl⟩
theorem calls_wb_same {P : Program} {f : FuncId} {args : Array Value} {w0 : World} {n : WB w0} {v : Value} (h : Calls P f args n.1 fun e w' => e = .returned v ∧ n.1 = w') :
    Calls P f args n.1 fun e w'' => e = .returned v ∧ ∃ m : WB w0, w'' = m.1 :=
  h.mono fun _ _ ⟨he, hb⟩ => ⟨he, n, hb.symm⟩
theorem wp_region_wb {P : Program} {id : Nat} {Q : Exit → Act → World → Prop} {a : Act} {w : World} {l : List Oper} (hm : P.follows .mixedOrders = true) (hB : Region.lexB .any l.toArray = true) (w0 : World) (hw : Below w0.heap.size w0 w)
    (h : wpQuiet P l.toArray (fun w' => ∃ n : WB w0, w' = n.1) (fun a' => ∀ w', (∃ n : WB w0, w' = n.1) → Q .normal a' w') l a) : (Code.region id l.toArray true).wp P Q a w :=
  wp_region_quiet (C := fun w' => ∃ n : WB w0, w' = n.1) hm hB ⟨⟨w.drew, hw.drew⟩, rfl⟩ (by simpa using h)
end Go.Proofs.Ytndekogkfbhabaa
