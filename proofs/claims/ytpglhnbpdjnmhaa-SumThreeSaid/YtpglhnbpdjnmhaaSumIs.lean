/- Walk: the sum of any text is the document's (SumIs); the sum of two texts goes on from the first one's (SumJoins). Conditions: sums are of 32 bits; texts are of at most 2^47 bytes. -/
import Derived.Test.YtpglhnbpdjnmhaaSumOn
namespace Go.Proofs.Ytpglhnbpdjnmhaa
open Go.RowKit
/-- a text cut to 20000 bytes -/
def short (s : ByteArray) : ByteArray := if 20000 < s.size then s.extract 0 20000 else s
theorem short_le (s : ByteArray) : (short s).size ≤ 20000 := by
  unfold short
  split
  · simp; omega
  · omega
set_option maxRecDepth 100000 in
set_option maxHeartbeats 400000 in
theorem law_short (s : ByteArray) (hs : s.size ≤ 140737488351232) (w : World) :
    Calls Try.prog 9 #[.string s] w fun e w' => e = .returned (.string (short s)) ∧ w = w' := by
  by_cases h : 20000 < s.size
  · have e : short s = s.extract 0 20000 := if_pos h
    rw [e]
    have h1 : (20000 : Int) < s.size := by omega
    go_enter Try.func9, Try.ntmps9
    repeat' (first | go_values | go_skip | go_guarded | go_step | go_upon)
    all_goals go_ret
    all_goals exact ⟨rfl, rfl⟩
  · have e : short s = s := if_neg h
    rw [e]
    have h1 : ¬ (20000 : Int) < s.size := by omega
    go_enter Try.func9, Try.ntmps9
    repeat' (first | go_values | go_skip | go_guarded | go_step | go_upon)
    all_goals go_ret
    all_goals exact ⟨rfl, rfl⟩
set_option maxRecDepth 100000 in
set_option maxHeartbeats 400000 in
theorem law_SumIs (s : ByteArray) (hs : s.size ≤ 140737488351232) (c : Nat) (hc : U32 c) (w : World) :
    Calls Try.prog 3 #[.string s, .int .u32 c] w fun e w' => e = .returned (.bool true) ∧ Below w.heap.size w w' := by
  have hle := short_le s
  have h1 := law_short s hs w
  generalize hu : short s = u at hle h1
  clear hu
  have hle' : u.size ≤ 1000000000000000 := by omega
  generalize hx : sumOn 0 u.data.toList = x
  generalize hy : sumOn c u.data.toList = y
  have ha := sum_Of u hle'
  have hb := ref_Of u hle'
  have hc1 := sum_On c hc u hle'
  have hd := ref_On c hc u hle'
  rw [hx] at ha hb
  rw [hy] at hc1 hd
  clear hx hy
  go_enter Try.func3, Try.ntmps3
  repeat' (first | go_values | go_skip | go_guarded | go_step | go_upon)
  refine Calls.mono (h1) ?_
  rintro _ _ ⟨rfl, rfl⟩
  dsimp only
  clear h1
  repeat' (first | go_values | go_skip | go_guarded | go_step | go_upon)
  refine Calls.mono (ha _) ?_
  rintro _ w1 ⟨rfl, hb1⟩
  dsimp only
  repeat' (first | go_values | go_skip | go_guarded | go_step | go_upon)
  refine Calls.mono (hb _) ?_
  rintro _ _ ⟨rfl, rfl⟩
  dsimp only
  repeat' (first | go_values | go_skip | go_guarded | go_step | go_upon)
  refine Calls.mono (hc1 _) ?_
  rintro _ w2 ⟨rfl, hb2⟩
  dsimp only
  repeat' (first | go_values | go_skip | go_guarded | go_step | go_upon)
  refine Calls.mono (hd _) ?_
  rintro _ _ ⟨rfl, rfl⟩
  dsimp only
  repeat' (first | go_values | go_skip | go_guarded | go_step | go_upon)
  go_ret
  exact ⟨rfl, hb1.trans (hb2.mono hb1.size)⟩
end Go.Proofs.Ytpglhnbpdjnmhaa
