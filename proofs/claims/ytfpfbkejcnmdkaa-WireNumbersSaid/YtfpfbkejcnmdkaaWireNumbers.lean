/- Walk: any number is written, and what stands at any place of any bytes is read as one, or refused. Conditions: the number is of 64 bits, the text of at most 2^47 bytes. -/
import Derived.Test.YtfpfbkejcnmdkaaWireGet
import Derived.Test.YtfpfbkejcnmdkaaWireRefGet
namespace Go.Proofs.Ytfpfbkejcnmdkaa
open Go.RowKit
set_option maxRecDepth 100000 in
set_option maxHeartbeats 400000 in
theorem law_WireNumbers (n : Nat) (hn : U64 n) (s : ByteArray) (hs : s.size ≤ 140737488351232) (a : Int) (ha : I64 a) (w : World) :
    Calls Try.prog 5 #[.int .u64 n, .string s, .int .i64 a] w fun e w' => e = .returned (.bool true) ∧ Below w.heap.size w w' := by
  go_enter Try.func5, Try.ntmps5
  repeat' (first | go_values | go_skip | go_guarded | go_step | go_upon)
  refine Calls.mono (wire_Get s hs a ha _) ?_
  rintro _ _ ⟨rfl, rfl⟩
  dsimp only
  repeat' (first | go_values | go_skip | go_guarded | go_step | go_upon)
  refine Calls.mono (ref_Get s hs a ha _) ?_
  rintro _ w1 ⟨rfl, hb1⟩
  dsimp only
  repeat' (first | go_values | go_skip | go_guarded | go_step | go_upon)
  refine Calls.mono (wire_Put n _ hn) ?_
  rintro _ w2 ⟨rfl, hb2⟩
  dsimp only
  repeat' (first | go_values | go_skip | go_guarded | go_step | go_upon)
  refine Calls.mono (ref_Put n _ hn) ?_
  rintro _ w3 ⟨rfl, hb3⟩
  dsimp only
  repeat' (first | go_values | go_skip | go_guarded | go_step | go_upon)
  go_ret
  exact ⟨rfl, (hb1.trans (hb2.mono hb1.size)).trans (hb3.mono (Nat.le_trans hb1.size hb2.size))⟩
end Go.Proofs.Ytfpfbkejcnmdkaa
