/- Walks: numbers of four bytes are written. Condition: the number is of 32 bits. -/
import Derived.Test.YtpalafbapehodaaWirePut
namespace Go.Proofs.Ytpalafbapehodaa
open Go.RowKit
def put4 (n : Nat) : List UInt8 := [u8 n, u8 (n / 256), u8 (n / 65536), u8 (n / 16777216)]
set_option maxRecDepth 100000 in
set_option maxHeartbeats 400000 in
theorem wire_PutFour (n : Nat) (w : World) :
    Calls Try.prog 22 #[.int .u32 n] w fun e w' => e = .returned (.string ⟨(put4 n).toArray⟩) ∧ Below w.heap.size w w' := by
  go_enter Try.func22, Try.ntmps22
  repeat' (first | (with_reducible refine wp_conv_lit4 Try.underlying42 Try.underlying5 Try.underlying9 rfl _ rfl rfl ?_) | go_values | go_skip | go_guarded | go_step | go_upon)
  go_ret
  refine ⟨ret_s ?_, (Below.refl _ _).alloc (Nat.le_refl _) _⟩
  simp only [put4, List.cons.injEq, and_true]
  refine ⟨?_, ?_, ?_, ?_⟩ <;> exact u8_congr (by omega)

set_option maxRecDepth 100000 in
set_option maxHeartbeats 400000 in
theorem ref_PutFour (n : Nat) (hn : U32 n) (w : World) :
    Calls Try.prog 26 #[.int .u32 n] w fun e w' => e = .returned (.string ⟨(put4 n).toArray⟩) ∧ Below w.heap.size w w' := by
  have h1 : IntKind.u32.wrap ((n : Int) / 256) = (n : Int) / 256 := wu32 (by omega) (by unfold U32 at *; omega)
  have h2 : IntKind.u32.wrap ((n : Int) / 65536) = (n : Int) / 65536 := wu32 (by omega) (by unfold U32 at *; omega)
  have h3 : IntKind.u32.wrap ((n : Int) / 16777216) = (n : Int) / 16777216 := wu32 (by omega) (by unfold U32 at *; omega)
  go_enter Try.func26, Try.ntmps26
  repeat' (first | (with_reducible refine wp_conv_lit4 Try.underlying42 Try.underlying5 Try.underlying9 rfl _ rfl rfl ?_) | go_values | go_skip | go_guarded | go_step | go_upon)
  go_ret
  refine ⟨ret_s ?_, (Below.refl _ _).alloc (Nat.le_refl _) _⟩
  simp only [put4, List.cons.injEq, and_true]
  refine ⟨?_, ?_, ?_, ?_⟩ <;> exact u8_congr (by omega)
end Go.Proofs.Ytpalafbapehodaa
