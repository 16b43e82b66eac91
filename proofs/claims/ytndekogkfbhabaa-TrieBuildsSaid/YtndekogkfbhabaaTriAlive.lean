/- Walk: a text of one byte has one character (alive). No conditions. -/
import Derived.Test.YtndekogkfbhabaaTriLong
import Derived.Test.YtndekogkfbhabaaCount
namespace Go.Proofs.Ytndekogkfbhabaa
open Go.RowKit
set_option maxRecDepth 100000 in
theorem law_alive16 (w : World) : Calls Try.prog 5 #[] w fun e w' => e = .returned (.bool true) ∧ Below w.heap.size w w' := by
  have h1 := utf_Count ⟨#[97]⟩ (by show 1 ≤ _; omega)
  rw [count_a] at h1
  go_enter Try.func5, Try.ntmps5
  repeat' (first | go_values | go_skip | go_guarded | go_step | go_upon)
  refine Calls.mono (h1 _) ?_
  rintro _ w1 ⟨rfl, hb1⟩
  dsimp only
  repeat' (first | go_values | go_skip | go_guarded | go_step | go_upon)
  go_ret
  exact ⟨rfl, hb1⟩
end Go.Proofs.Ytndekogkfbhabaa
