/- Walks: a number made of a seed and a key, by the program and by the reference. No conditions beyond the types'. -/
import Derived.Test.YtkpdcejnanhgoaaHashSpec
import Derived.Test.YtkpdcejnanhgoaaTail
import Derived.Test.YtkpdcejnanhgoaaProg
namespace Go.Proofs.Ytkpdcejnanhgoaa
open Go.RowKit
set_option maxRecDepth 100000 in
set_option maxHeartbeats 400000 in
theorem hash_Mix (seed key : Nat) (hs : seed < 4294967296) (w : World) : Calls Try.prog 76 #[.int .u32 seed, .int .u64 key] w fun e w' => e = .returned (.int .u64 (mixI seed key)) ∧ w = w' := by
  go_enter Try.func76, Try.ntmps76
  repeat' (first | go_values | go_skip | go_guarded | go_step | go_upon)
  go_ret
  exact ⟨rfl, rfl⟩
theorem wrap_quo (y d : Int) (h : 0 < d) : IntKind.u64.wrap ((IntKind.u64.wrap y).tdiv d) = IntKind.u64.wrap y / d := by
  have hw := wrap_within .u64 y
  simp only [IntKind.min, IntKind.max, IntKind.signed, IntKind.bits] at hw
  generalize IntKind.u64.wrap y = x at hw ⊢
  simp at hw
  rw [Int.tdiv_eq_ediv_of_nonneg hw.1]
  apply IntWalk.u64_in
  have h1 : 0 ≤ x / d := Int.ediv_nonneg hw.1 (by omega)
  have h2 : x / d ≤ x := Int.ediv_le_self d hw.1
  omega
end Go.Proofs.Ytkpdcejnanhgoaa
