/- Walks: texts with their lengths, by the reference (GetText, PutText). Condition: the texts are of at most 10^15 bytes. -/
import Derived.Test.YtpalafbapehodaaWireText
import Derived.Test.YtpalafbapehodaaWireRefGet
namespace Go.Proofs.Ytpalafbapehodaa
open Go.RowKit
set_option maxRecDepth 100000 in
set_option maxHeartbeats 400000 in
theorem ref_PutText (s : ByteArray) (hs : s.size ≤ 1000000000000000) (w : World) :
    Calls Try.prog 25 #[.string s] w fun e w' => e = .returned (.string ⟨(vput s.size ++ s.data.toList).toArray⟩) ∧ Below w.heap.size w w' := by
  have hu : U64 s.size := u64_small (by omega)
  have hw : IntKind.u64.wrap (s.size : Int) = s.size := wu64 (by omega) hu
  have hl := vput_len10 hu
  have hap := fun l => ba_append l s
  go_enter Try.func25, Try.ntmps25
  repeat' (first | go_values | go_skip | go_guarded | go_step | go_upon)
  refine Calls.mono (ref_Put s.size _ hu) ?_
  rintro _ w1 ⟨rfl, hb1⟩
  dsimp only
  repeat' (first | go_values | go_skip | go_guarded | go_step | go_upon)
  go_ret
  exact ⟨rfl, hb1⟩

set_option maxRecDepth 100000 in
set_option maxHeartbeats 1000000 in
theorem ref_GetText (s : ByteArray) (hs : s.size ≤ 1000000000000000) (a : Int) (ha : I64 a) (most : Int) (hmo : I64 most) (w : World) :
    Calls Try.prog 33 #[.string s, .int .i64 a, .int .i64 most] w fun e w' => e = .returned (.tuple #[.string ⟨(gett s.data.toList a most).1.toArray⟩, .int .i64 (gett s.data.toList a most).2.1, .int .i64 (gett s.data.toList a most).2.2]) ∧ Below w.heap.size w w' := by
  have hl := ba_len s
  have hc := ref_Get s hs a ha
  rcases vget_cases s.data.toList a with ⟨e, hv, he⟩ | ⟨m, k, n, rfl, hk, hmk, hp, hn, hv⟩
  · rw [gett_bad hv (by omega)]
    rw [hv] at hc
    have Hc := Lib.hid hc; clear hc hv
    rcases he with rfl | rfl | rfl
    all_goals
      go_enter Try.func33, Try.ntmps33
      repeat' (first | go_values | go_skip | go_guarded | go_step | go_upon)
      refine Calls.mono (Hc.out _) ?_
      rintro _ w1 ⟨rfl, hb1⟩
      dsimp only
      repeat' (first | go_values | go_skip | go_guarded | go_step | go_upon)
      go_ret3
      exact ⟨rfl, hb1⟩
  · rw [hv] at hc
    have Hc := Lib.hid hc; clear hc
    have hv' : vget s.data.toList m = (n, ((m + k + 1 : Nat) : Int), 0) := hv
    have Hn : Hid (U64 n) := Lib.hid hn
    clear hn hp hv
    have hM0 : 0 ≤ max most 0 := by omega
    have HM : Hid (IntKind.u64.wrap (max most 0) = max most 0) := Lib.hid (wu64 hM0 (by
      rcases Int.le_total 0 most with h | h
      · rw [Int.max_eq_left h]; exact hmo.u64
      · rw [Int.max_eq_right h]; exact u64_small (by omega)))
    have hsw : IntKind.u64.wrap ((s.size : Int) - (m + k + 1)) = (s.size : Int) - (m + k + 1) := wu64 (by omega) (u64_small (by omega))
    obtain ⟨M, hM⟩ : ∃ M : Int, M = max most 0 := ⟨_, rfl⟩
    have Hv := Lib.hid hv'; clear hv'
    rw [← hM] at HM
    have hmw := HM.out
    by_cases h1 : M < n
    · rw [gett_long Hv.out (by omega)]
      by_cases hmn : most < 0
      · obtain rfl : M = 0 := by omega
        clear hM
        go_enter Try.func33, Try.ntmps33
        repeat' (first | go_values | go_skip | go_guarded | go_step | go_upon)
        refine Calls.mono (Hc.out _) ?_
        rintro _ w1 ⟨rfl, hb1⟩
        dsimp only
        repeat' (first | go_values | go_skip | go_guarded | go_step | go_upon)
        go_ret3
        exact ⟨rfl, hb1⟩
      · obtain rfl : M = most := by omega
        clear hM
        have hmn' : 0 ≤ M := by omega
        go_enter Try.func33, Try.ntmps33
        repeat' (first | go_values | go_skip | go_guarded | go_step | go_upon)
        refine Calls.mono (Hc.out _) ?_
        rintro _ w1 ⟨rfl, hb1⟩
        dsimp only
        repeat' (first | go_values | go_skip | go_guarded | go_step | go_upon)
        go_ret3
        exact ⟨rfl, hb1⟩
    · by_cases h2 : (s.size : Int) - (m + k + 1) < n
      · rw [gett_short Hv.out (by omega) (by omega)]
        by_cases hmn : most < 0
        · obtain rfl : M = 0 := by omega
          clear hM
          go_enter Try.func33, Try.ntmps33
          repeat' (first | go_values | go_skip | go_guarded | go_step | go_upon)
          refine Calls.mono (Hc.out _) ?_
          rintro _ w1 ⟨rfl, hb1⟩
          dsimp only
          repeat' (first | go_values | go_skip | go_guarded | go_step | go_upon)
          all_goals go_ret3
          all_goals exact ⟨rfl, hb1⟩
        · obtain rfl : M = most := by omega
          clear hM
          have hmn' : 0 ≤ M := by omega
          go_enter Try.func33, Try.ntmps33
          repeat' (first | go_values | go_skip | go_guarded | go_step | go_upon)
          refine Calls.mono (Hc.out _) ?_
          rintro _ w1 ⟨rfl, hb1⟩
          dsimp only
          repeat' (first | go_values | go_skip | go_guarded | go_step | go_upon)
          all_goals go_ret3
          all_goals exact ⟨rfl, hb1⟩
      · rw [gett_ok Hv.out (by omega) (by omega)]
        have hnw : IntKind.i64.wrap (n : Int) = n := wi64 (i64_small (by omega))
        have hsl := slice_str (P := Try.prog) Try.underlying9 s ((m : Int) + k + 1) ((m : Int) + k + 1 + n) (m + k + 1) (m + k + 1 + n) (by omega) (by omega) (by omega) (by omega)
        rw [show m + k + 1 + n - (m + k + 1) = n from by omega] at hsl
        by_cases hmn : most < 0
        · obtain rfl : M = 0 := by omega
          clear hM
          go_enter Try.func33, Try.ntmps33
          repeat' (first | go_values | go_skip | go_guarded | go_step | go_upon)
          refine Calls.mono (Hc.out _) ?_
          rintro _ w1 ⟨rfl, hb1⟩
          dsimp only
          repeat' (first | go_values | go_skip | go_guarded | go_step | go_upon)
          go_ret3
          exact ⟨ret_sii rfl (by omega) rfl, hb1⟩
        · obtain rfl : M = most := by omega
          clear hM
          have hmn' : 0 ≤ M := by omega
          go_enter Try.func33, Try.ntmps33
          repeat' (first | go_values | go_skip | go_guarded | go_step | go_upon)
          refine Calls.mono (Hc.out _) ?_
          rintro _ w1 ⟨rfl, hb1⟩
          dsimp only
          repeat' (first | go_values | go_skip | go_guarded | go_step | go_upon)
          go_ret3
          exact ⟨ret_sii rfl (by omega) rfl, hb1⟩
end Go.Proofs.Ytpalafbapehodaa
