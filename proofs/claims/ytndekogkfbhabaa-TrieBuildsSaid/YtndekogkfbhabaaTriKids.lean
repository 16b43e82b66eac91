/- Walk: a node's iterator is made (kids). No conditions. -/
import Derived.Test.YtndekogkfbhabaaTriLong
namespace Go.Proofs.Ytndekogkfbhabaa
open Go.RowKit
set_option maxRecDepth 100000 in
theorem node_kids (q : Option Addr) (w : World) : Calls Try.prog 22 #[.pointer q] w fun e w' => e = .returned (.func (.func 25) #[] #[.pointer (some ⟨w.heap.size, 0, none⟩)]) ∧ w' = w.alloc (.cells #[.pointer q] 40) := by
  go_enter Try.func22, Try.ntmps22
  repeat' (first | go_values | go_skip | go_guarded | go_step | go_upon)
  go_ret
  exact ⟨rfl, rfl⟩
end Go.Proofs.Ytndekogkfbhabaa
