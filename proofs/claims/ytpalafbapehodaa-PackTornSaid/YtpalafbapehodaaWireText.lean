/- Walks: texts with their lengths (wire.GetText, wire.PutText). Condition: the texts are of at most 10^15 bytes. -/
import Derived.Test.YtpalafbapehodaaWireGet
import Derived.Test.YtpalafbapehodaaWireTextSpec
namespace Go.Proofs.Ytpalafbapehodaa
open Go.RowKit
theorem ba_append (l : List UInt8) (s : ByteArray) : (⟨l.toArray⟩ : ByteArray) ++ s = ⟨(l ++ s.data.toList).toArray⟩ := by
  apply ByteArray.ext
  apply Array.ext'
  simp
theorem ret_sii {a b : List UInt8} {k2 k3 : IntKind} {a2 b2 a3 b3 : Int} (h1 : a = b) (h2 : a2 = b2) (h3 : a3 = b3) : Ending.returned (.tuple #[.string ⟨a.toArray⟩, .int k2 a2, .int k3 a3]) = Ending.returned (.tuple #[.string ⟨b.toArray⟩, .int k2 b2, .int k3 b3]) := by rw [h1, h2, h3]

set_option maxRecDepth 100000 in
set_option maxHeartbeats 400000 in
theorem wire_PutText (s : ByteArray) (hs : s.size ≤ 1000000000000000) (w : World) :
    Calls Try.prog 20 #[.string s] w fun e w' => e = .returned (.string ⟨(vput s.size ++ s.data.toList).toArray⟩) ∧ Below w.heap.size w w' := by
  have hu : U64 s.size := u64_small (by omega)
  have hw : IntKind.u64.wrap (s.size : Int) = s.size := wu64 (by omega) hu
  have hl := vput_len10 hu
  have hap := fun l => ba_append l s
  go_enter Try.func20, Try.ntmps20
  repeat' (first | go_values | go_skip | go_guarded | go_step | go_upon)
  refine Calls.mono (wire_Put s.size _ hu) ?_
  rintro _ w1 ⟨rfl, hb1⟩
  dsimp only
  repeat' (first | go_values | go_skip | go_guarded | go_step | go_upon)
  go_ret
  exact ⟨rfl, hb1⟩

set_option maxRecDepth 100000 in
set_option maxHeartbeats 1000000 in
theorem wire_GetText (s : ByteArray) (hs : s.size ≤ 1000000000000000) (a : Int) (ha : I64 a) (most : Int) (hmo : I64 most) (w : World) :
    Calls Try.prog 40 #[.string s, .int .i64 a, .int .i64 most] w fun e w' => e = .returned (.tuple #[.string ⟨(gett s.data.toList a most).1.toArray⟩, .int .i64 (gett s.data.toList a most).2.1, .int .i64 (gett s.data.toList a most).2.2]) ∧ w = w' := by
  have hl := ba_len s
  have hc := wire_Get s hs a ha
  rcases vget_cases s.data.toList a with ⟨e, hv, he⟩ | ⟨m, k, n, rfl, hk, hmk, hp, hn, hv⟩
  · rw [gett_bad hv (by omega)]
    rw [hv] at hc
    have Hc := Lib.hid hc; clear hc hv
    rcases he with rfl | rfl | rfl
    all_goals
      go_enter Try.func40, Try.ntmps40
      repeat' (first | go_values | go_skip | go_guarded | go_step | go_upon)
      refine Calls.mono (Hc.out _) ?_
      rintro _ _ ⟨rfl, rfl⟩
      dsimp only
      repeat' (first | go_values | go_skip | go_guarded | go_step | go_upon)
      go_ret3
      exact ⟨rfl, rfl⟩
  · rw [hv] at hc
    have Hc := Lib.hid hc; clear hc
    have hv' : vget s.data.toList m = (n, ((m + k + 1 : Nat) : Int), 0) := hv
    have Hn : Hid (U64 n) := Lib.hid hn
    clear hn hp hv
    have hM0 : 0 ≤ max most 0 := by omega
    have HM : Hid (IntKind.u64.wrap (max most 0) = max most 0) := Lib.hid (wu64 hM0 (by
      rcases Int.le_total 0 most with h | h
      · rw [Int.max_eq_left h]; exact hmo.u64
      · rw [Int.max_eq_right h]; exact u64_small (by omega)))
    have hsw : IntKind.u64.wrap ((s.size : Int) - (m + k + 1)) = (s.size : Int) - (m + k + 1) := wu64 (by omega) (u64_small (by omega))
    obtain ⟨M, hM⟩ : ∃ M : Int, M = max most 0 := ⟨_, rfl⟩
    have Hv := Lib.hid hv'; clear hv'
    rw [← hM] at HM
    have hmw := HM.out
    by_cases h1 : M < n
    · rw [gett_long Hv.out (by omega)]
      by_cases hmn : most < 0
      · obtain rfl : M = 0 := by omega
        clear hM
        go_enter Try.func40, Try.ntmps40
        repeat' (first | go_values | go_skip | go_guarded | go_step | go_upon)
        refine Calls.mono (Hc.out _) ?_
        rintro _ _ ⟨rfl, rfl⟩
        dsimp only
        repeat' (first | go_values | go_skip | go_guarded | go_step | go_upon)
        go_ret3
        exact ⟨rfl, rfl⟩
      · obtain rfl : M = most := by omega
        clear hM
        have hmn' : 0 ≤ M := by omega
        go_enter Try.func40, Try.ntmps40
        repeat' (first | go_values | go_skip | go_guarded | go_step | go_upon)
        refine Calls.mono (Hc.out _) ?_
        rintro _ _ ⟨rfl, rfl⟩
        dsimp only
        repeat' (first | go_values | go_skip | go_guarded | go_step | go_upon)
        go_ret3
        exact ⟨rfl, rfl⟩
    · by_cases h2 : (s.size : Int) - (m + k + 1) < n
      · rw [gett_short Hv.out (by omega) (by omega)]
        by_cases hmn : most < 0
        · obtain rfl : M = 0 := by omega
          clear hM
          go_enter Try.func40, Try.ntmps40
          repeat' (first | go_values | go_skip | go_guarded | go_step | go_upon)
          refine Calls.mono (Hc.out _) ?_
          rintro _ _ ⟨rfl, rfl⟩
          dsimp only
          repeat' (first | go_values | go_skip | go_guarded | go_step | go_upon)
          all_goals go_ret3
          all_goals exact ⟨rfl, rfl⟩
        · obtain rfl : M = most := by omega
          clear hM
          have hmn' : 0 ≤ M := by omega
          go_enter Try.func40, Try.ntmps40
          repeat' (first | go_values | go_skip | go_guarded | go_step | go_upon)
          refine Calls.mono (Hc.out _) ?_
          rintro _ _ ⟨rfl, rfl⟩
          dsimp only
          repeat' (first | go_values | go_skip | go_guarded | go_step | go_upon)
          all_goals go_ret3
          all_goals exact ⟨rfl, rfl⟩
      · rw [gett_ok Hv.out (by omega) (by omega)]
        have hnw : IntKind.i64.wrap (n : Int) = n := wi64 (i64_small (by omega))
        have hsl := slice_str (P := Try.prog) Try.underlying9 s ((m : Int) + k + 1) ((m : Int) + k + 1 + n) (m + k + 1) (m + k + 1 + n) (by omega) (by omega) (by omega) (by omega)
        rw [show m + k + 1 + n - (m + k + 1) = n from by omega] at hsl
        by_cases hmn : most < 0
        · obtain rfl : M = 0 := by omega
          clear hM
          go_enter Try.func40, Try.ntmps40
          repeat' (first | go_values | go_skip | go_guarded | go_step | go_upon)
          refine Calls.mono (Hc.out _) ?_
          rintro _ _ ⟨rfl, rfl⟩
          dsimp only
          repeat' (first | go_values | go_skip | go_guarded | go_step | go_upon)
          go_ret3
          exact ⟨ret_sii rfl (by omega) rfl, rfl⟩
        · obtain rfl : M = most := by omega
          clear hM
          have hmn' : 0 ≤ M := by omega
          go_enter Try.func40, Try.ntmps40
          repeat' (first | go_values | go_skip | go_guarded | go_step | go_upon)
          refine Calls.mono (Hc.out _) ?_
          rintro _ _ ⟨rfl, rfl⟩
          dsimp only
          repeat' (first | go_values | go_skip | go_guarded | go_step | go_upon)
          go_ret3
          exact ⟨ret_sii rfl (by omega) rfl, rfl⟩
theorem wire_PutText_l (x : List UInt8) (hs : x.length ≤ 1000000000000000) (w : World) :
    Calls Try.prog 20 #[.string ⟨x.toArray⟩] w fun e w' => e = .returned (.string ⟨(vput x.length ++ x).toArray⟩) ∧ Below w.heap.size w w' := by
  have h := wire_PutText ⟨x.toArray⟩ (by simpa [ByteArray.size] using hs) w
  simpa [ByteArray.size] using h
end Go.Proofs.Ytpalafbapehodaa
