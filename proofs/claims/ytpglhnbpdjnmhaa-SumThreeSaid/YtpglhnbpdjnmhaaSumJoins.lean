/- Walk: the sum of two texts goes on from the first one's (SumJoins). Condition: texts are of at most 2^47 bytes. -/
import Derived.Test.YtpglhnbpdjnmhaaSumIs
import Derived.Test.YtpglhnbpdjnmhaaCount
namespace Go.Proofs.Ytpglhnbpdjnmhaa
open Go.RowKit
set_option maxRecDepth 100000 in
theorem law_alive (w : World) :
    Calls Try.prog 16 #[] w fun e w' => e = .returned (.bool true) ∧ Below w.heap.size w w' := by
  have h1 := utf_Count ⟨#[97]⟩ (by show 1 ≤ _; omega)
  rw [count_a] at h1
  go_enter Try.func16, Try.ntmps16
  repeat' (first | go_values | go_skip | go_guarded | go_step | go_upon)
  refine Calls.mono (h1 _) ?_
  rintro _ w1 ⟨rfl, hb1⟩
  dsimp only
  repeat' (first | go_values | go_skip | go_guarded | go_step | go_upon)
  go_ret
  exact ⟨rfl, hb1⟩
theorem app_list (a b : ByteArray) : (a ++ b).data.toList = a.data.toList ++ b.data.toList := by simp
set_option maxRecDepth 100000 in
set_option maxHeartbeats 400000 in
theorem law_SumJoins (a : ByteArray) (ha : a.size ≤ 140737488351232) (b : ByteArray) (hb : b.size ≤ 140737488351232) (w : World) :
    Calls Try.prog 6 #[.string a, .string b] w fun e w' => e = .returned (.bool true) ∧ Below w.heap.size w w' := by
  have hla := short_le a
  have hlb := short_le b
  have h1 := law_short a ha
  have h2 := law_short b hb
  generalize short a = u at hla h1
  generalize short b = v at hlb h2
  have hs : (u ++ v).size ≤ 1000000000000000 := by rw [ByteArray.size_append]; omega
  have c1 := sum_Of (u ++ v) hs
  have c2 := sum_Of u (by omega)
  have hx : sumOn 0 u.data.toList < 4294967296 := sumOn_lt _ _
  have e0 := sumOn_nil hx
  rw [app_list, sumOn_append] at c1
  generalize sumOn 0 u.data.toList = x at c1 c2 hx e0
  have c3 := sum_On x (le_u32 hx) v (by omega)
  have c4 := sum_On x (le_u32 hx) ⟨#[]⟩ (by show 0 ≤ _; omega)
  have c5 := sum_Of ⟨#[]⟩ (by show 0 ≤ _; omega)
  rw [show (⟨#[]⟩ : ByteArray).data.toList = [] from rfl] at c4 c5
  rw [e0] at c4
  rw [sumOn_nil (by decide)] at c5
  generalize sumOn x v.data.toList = y at c1 c3
  clear ha hb hs hx e0
  go_enter Try.func6, Try.ntmps6
  repeat' (first | go_values | go_skip | go_guarded | go_step | go_upon)
  refine Calls.mono (law_alive _) ?_
  rintro _ w1 ⟨rfl, hb1⟩
  dsimp only
  repeat' (first | go_values | go_skip | go_guarded | go_step | go_upon)
  refine Calls.mono (h1 _) ?_
  rintro _ _ ⟨rfl, rfl⟩
  dsimp only
  repeat' (first | go_values | go_skip | go_guarded | go_step | go_upon)
  refine Calls.mono (h2 _) ?_
  rintro _ _ ⟨rfl, rfl⟩
  dsimp only
  repeat' (first | go_values | go_skip | go_guarded | go_step | go_upon)
  refine Calls.mono (c1 _) ?_
  rintro _ w2 ⟨rfl, hb2⟩
  dsimp only
  repeat' (first | go_values | go_skip | go_guarded | go_step | go_upon)
  refine Calls.mono (c2 _) ?_
  rintro _ w3 ⟨rfl, hb3⟩
  dsimp only
  repeat' (first | go_values | go_skip | go_guarded | go_step | go_upon)
  refine Calls.mono (c3 _) ?_
  rintro _ w4 ⟨rfl, hb4⟩
  dsimp only
  repeat' (first | go_values | go_skip | go_guarded | go_step | go_upon)
  refine Calls.mono (c5 _) ?_
  rintro _ w5 ⟨rfl, hb5⟩
  dsimp only
  repeat' (first | go_values | go_skip | go_guarded | go_step | go_upon)
  refine Calls.mono (c2 _) ?_
  rintro _ w6 ⟨rfl, hb6⟩
  dsimp only
  repeat' (first | go_values | go_skip | go_guarded | go_step | go_upon)
  refine Calls.mono (c4 _) ?_
  rintro _ w7 ⟨rfl, hb7⟩
  dsimp only
  repeat' (first | go_values | go_skip | go_guarded | go_step | go_upon)
  refine Calls.mono (c2 _) ?_
  rintro _ w8 ⟨rfl, hb8⟩
  dsimp only
  repeat' (first | go_values | go_skip | go_guarded | go_step | go_upon)
  go_ret
  have k2 := hb1.trans (hb2.mono hb1.size)
  have k3 := k2.trans (hb3.mono k2.size)
  have k4 := k3.trans (hb4.mono k3.size)
  have k5 := k4.trans (hb5.mono k4.size)
  have k6 := k5.trans (hb6.mono k5.size)
  have k7 := k6.trans (hb7.mono k6.size)
  exact ⟨rfl, k7.trans (hb8.mono k7.size)⟩
end Go.Proofs.Ytpglhnbpdjnmhaa
