/- Walk: any text is written with its length, and read from any bytes, or refused. Condition: the texts are of at most 2^47 bytes. -/
import Derived.Test.YtfpfbkejcnmdkaaWireRefText
namespace Go.Proofs.Ytfpfbkejcnmdkaa
open Go.RowKit
set_option maxRecDepth 100000 in
set_option maxHeartbeats 400000 in
theorem law_WireTexts (t : ByteArray) (ht : t.size ≤ 140737488351232) (s : ByteArray) (hs : s.size ≤ 140737488351232) (a : Int) (ha : I64 a) (m : Int) (hm : I64 m) (w : World) :
    Calls Try.prog 6 #[.string t, .string s, .int .i64 a, .int .i64 m] w fun e w' => e = .returned (.bool true) ∧ Below w.heap.size w w' := by
  go_enter Try.func6, Try.ntmps6
  repeat' (first | go_values | go_skip | go_guarded | go_step | go_upon)
  refine Calls.mono (wire_GetText s hs a ha m hm _) ?_
  rintro _ _ ⟨rfl, rfl⟩
  dsimp only
  repeat' (first | go_values | go_skip | go_guarded | go_step | go_upon)
  refine Calls.mono (ref_GetText s hs a ha m hm _) ?_
  rintro _ w1 ⟨rfl, hb1⟩
  dsimp only
  repeat' (first | go_values | go_skip | go_guarded | go_step | go_upon)
  refine Calls.mono (wire_PutText t ht _) ?_
  rintro _ w2 ⟨rfl, hb2⟩
  dsimp only
  repeat' (first | go_values | go_skip | go_guarded | go_step | go_upon)
  refine Calls.mono (ref_PutText t ht _) ?_
  rintro _ w3 ⟨rfl, hb3⟩
  dsimp only
  repeat' (first | go_values | go_skip | go_guarded | go_step | go_upon)
  go_ret
  exact ⟨rfl, (hb1.trans (hb2.mono hb1.size)).trans (hb3.mono (Nat.le_trans hb1.size hb2.size))⟩
end Go.Proofs.Ytfpfbkejcnmdkaa
