/- Walk: a number is read, by the reference (Get). Condition: the text is of at most 10^15 bytes. -/
import Derived.Test.YtbomloodllddaaaPk01
import Derived.Deep.RegionWith
namespace Go.Proofs.Ytbomloodllddaaa
open Go.RowKit

set_option maxRecDepth 100000 in
set_option maxHeartbeats 1000000 in
theorem ref_Get (s : ByteArray) (hs : s.size ≤ 1000000000000000) (a : Int) (ha : I64 a) (w : World) :
    Calls Try.prog 87 #[.string s, .int .i64 a] w fun e w' => e = .returned (.tuple #[.int .u64 (vget s.data.toList a).1, .int .i64 (vget s.data.toList a).2.1, .int .i64 (vget s.data.toList a).2.2]) ∧ Below w.heap.size w w' := by
  have hl := ba_len s
  by_cases h0 : a < 0
  · rw [vget_arg (.inl h0)]
    go_enter Try.func87, Try.ntmps87
    repeat' (first | go_values | go_skip | go_guarded | go_step | go_upon)
    go_ret3
    exact ⟨rfl, Below.refl _ _⟩
  obtain ⟨m, rfl⟩ := Int.eq_ofNat_of_zero_le (by omega : 0 ≤ a)
  by_cases h1 : (s.size : Int) < m
  · rw [vget_arg (.inr (by omega))]
    go_enter Try.func87, Try.ntmps87
    repeat' (first | go_values | go_skip | go_guarded | go_step | go_upon)
    go_ret3
    exact ⟨rfl, Below.refl _ _⟩
  have Hl := Lib.hid hl; clear hl
  obtain ⟨t, ht⟩ : ∃ t, t = s.data.toList := ⟨_, rfl⟩
  have Ht := Lib.hid ht
  have hbt : ∀ i (h : i < s.size), s[i].toNat = at8 t i := fun i h => by rw [ba_at, ht]
  rw [← ht]
  clear ht
  obtain ⟨r, hr⟩ : ∃ r, r = vget t m := ⟨_, rfl⟩
  rw [← hr]
  have Hr := Lib.hid hr; clear hr
  have Hlt : Hid (t.length = s.size) := Lib.hid (by rw [Ht.out]; exact Hl.out)
  go_enter Try.func87, Try.ntmps87
  repeat' (first | go_values | go_skip | go_guarded | go_step | go_upon)
  go_loop [7] (fun s7 => ∃ k : Nat, s7 = .int .i64 ((m : Int) + k) ∧ k ≤ 10 ∧ m + k ≤ s.size ∧ Hid (Lead t m k)) (fun s7 => (m + 10 - intOf s7).toNat)
  case atStart => exact ⟨0, by simp, by omega, by omega, Lib.hid (Lead.zero _ _)⟩
  case round =>
    obtain ⟨k, rfl, hk, hkl, Hk⟩ := hrel
    by_cases he : m + k = s.size
    · have he' : (m : Int) + k = s.size := by omega
      have He := Lib.hid he; clear he
      by_cases h10 : k = 10
      · subst h10
        repeat' (first | go_values | go_skip | go_guarded | go_step | go_upon)
        all_goals go_ret3
        all_goals exact ⟨by rw [Hr.out, vget_ten Hk.out]; rfl, Below.refl _ _⟩
      · repeat' (first | go_values | go_skip | go_guarded | go_step | go_upon)
        go_ret3
        exact ⟨by rw [Hr.out, vget_short Hk.out (by omega) (by rw [Hlt.out, He.out])]; rfl, Below.refl _ _⟩
    have hlt : m + k < s.size := by omega
    by_cases h10 : k = 10
    · subst h10
      repeat' (first | go_values | go_skip | go_guarded | go_step | go_upon)
      all_goals go_ret3
      all_goals exact ⟨by rw [Hr.out, vget_ten Hk.out]; rfl, Below.refl _ _⟩
    obtain ⟨c, hc⟩ : ∃ c, at8 t (m + k) = c := ⟨_, rfl⟩
    have hcb : c < 256 := by rw [← hc]; exact at8_lt _ _
    have Hc := Lib.hid hc
    have hle : m + k < t.length := by rw [Hlt.out]; exact hlt
    have Hle := Lib.hid hle; clear hle
    by_cases hc128 : c < 128
    · have hv := vget_at Hk.out (by omega) Hle.out (by rw [Hc.out]; exact hc128)
      have Hv := Lib.hid hv; clear hv
      repeat' (first | go_values | go_skip | go_guarded | go_step | go_upon)
      have hkk : k < 10 := by omega
      go_loop [8, 9] (fun s8 s9 => ∃ j : Nat, s9 = .int .i64 ((m : Int) + j - 1) ∧ j ≤ k + 1 ∧ ∃ x : Nat, s8 = .int .u64 x ∧ Hid (x = dsum t (m + j) (k + 1 - j) % p64)) (fun _ s9 => (intOf s9 + 1 - m).toNat)
      case atStart => exact ⟨k + 1, by go_num, Nat.le_refl _, 0, rfl, Lib.hid (by rw [Nat.sub_self]; rfl)⟩
      case round =>
        obtain ⟨j, rfl, hj, x, rfl, Hx⟩ := hrel
        by_cases hj0 : j = 0
        · subst hj0
          repeat' (first | go_values | go_skip | go_guarded | go_step | go_upon)
          have hxu : U64 x := by rw [Hx.out]; exact Nat.mod_lt _ (by unfold p64; omega)
          have hsl := slice_str (P := Try.prog) Try.underlying9 s ((m : Int)) ((m : Int) + k + 1) m (m + k + 1) rfl (by omega) (by omega) (by omega)
          rw [← Ht.out, show m + k + 1 - m = k + 1 from by omega] at hsl
          have hwr : IntKind.i64.wrap ((m : Int) + k + 1) = (m : Int) + k + 1 := IntWalk.i64_in _ (by omega)
          go_region_with (go_at_call 33; refine Calls.mono (ref_Put x _ hxu) ?_; rintro _ w1 ⟨rfl, hb1⟩)
          have hv := Hv.out
          have hxe : x = dsum t m (k + 1) % p64 := by have := Hx.out; rwa [Nat.add_zero, Nat.sub_zero] at this
          rw [← hxe] at hv
          have Hv' := Lib.hid hv; clear hv
          clear hsl hxe
          generalize hbb : (vput x == (t.drop m).take (k + 1)) = b
          cases b
          · have hve : ¬ vput x = (t.drop m).take (k + 1) := by simpa using hbb
            have Hve := Lib.hid hve; clear hve hbb
            repeat' (first | go_values | go_skip | go_guarded | go_step | go_upon)
            go_ret3
            refine ⟨?_, below_of_drew hb1⟩
            rw [Hr.out, Hv'.out, if_neg Hve.out]
            rfl
          · have hve : vput x = (t.drop m).take (k + 1) := by simpa using hbb
            have Hve := Lib.hid hve; clear hve hbb
            repeat' (first | go_values | go_skip | go_guarded | go_step | go_upon)
            go_ret3
            refine ⟨?_, below_of_drew hb1⟩
            rw [Hr.out, Hv'.out, if_pos Hve.out]
            rfl
        · obtain ⟨i, rfl⟩ : ∃ i, j = i + 1 := ⟨j - 1, by omega⟩
          have hi : m + i < s.size := by omega
          have hb := at8_lt t (m + i)
          have hix : (m : Int) + ↑(i + 1) - 1 = (m : Int) + i := by omega
          repeat' (first | go_values | go_skip | go_guarded | go_step | go_upon)
          go_round
          case rel =>
            refine ⟨i, by go_num, by omega, dsum t (m + i) (k + 1 - i) % p64, ?_, Lib.hid rfl⟩
            rw [show k + 1 - i = (k + 1 - (i + 1)) + 1 from by omega, dsum_shift, show m + i + 1 = m + (i + 1) from by omega, Hx.out]
            rw [IntKind.wrap_u64, IntKind.wrap_u64]
            congr 1
            unfold p64
            omega
          case measure => simp [intOf]; omega
    · repeat' (first | go_values | go_skip | go_guarded | go_step | go_upon)
      go_round
      case rel => exact ⟨k + 1, by go_num, by omega, by omega, Lib.hid (Hk.out.succ Hle.out (by rw [Hc.out]; omega))⟩
      case measure => simp [intOf]; omega
end Go.Proofs.Ytbomloodllddaaa
/- Walks: texts with their lengths, by the reference (GetText, PutText). Condition: the texts are of at most 10^15 bytes. -/
namespace Go.Proofs.Ytbomloodllddaaa
open Go.RowKit
set_option maxRecDepth 100000 in
set_option maxHeartbeats 400000 in
theorem ref_PutText (s : ByteArray) (hs : s.size ≤ 1000000000000000) (w : World) :
    Calls Try.prog 35 #[.string s] w fun e w' => e = .returned (.string ⟨(vput s.size ++ s.data.toList).toArray⟩) ∧ Below w.heap.size w w' := by
  have hu : U64 s.size := u64_small (by omega)
  have hw : IntKind.u64.wrap (s.size : Int) = s.size := wu64 (by omega) hu
  have hl := vput_len10 hu
  have hap := fun l => ba_append l s
  go_enter Try.func35, Try.ntmps35
  repeat' (first | go_values | go_skip | go_guarded | go_step | go_upon)
  refine Calls.mono (ref_Put s.size _ hu) ?_
  rintro _ w1 ⟨rfl, hb1⟩
  dsimp only
  repeat' (first | go_values | go_skip | go_guarded | go_step | go_upon)
  go_ret
  exact ⟨rfl, hb1⟩

set_option maxRecDepth 100000 in
set_option maxHeartbeats 1000000 in
theorem ref_GetText (s : ByteArray) (hs : s.size ≤ 1000000000000000) (a : Int) (ha : I64 a) (most : Int) (hmo : I64 most) (w : World) :
    Calls Try.prog 46 #[.string s, .int .i64 a, .int .i64 most] w fun e w' => e = .returned (.tuple #[.string ⟨(gett s.data.toList a most).1.toArray⟩, .int .i64 (gett s.data.toList a most).2.1, .int .i64 (gett s.data.toList a most).2.2]) ∧ Below w.heap.size w w' := by
  have hl := ba_len s
  have hc := ref_Get s hs a ha
  rcases vget_cases s.data.toList a with ⟨e, hv, he⟩ | ⟨m, k, n, rfl, hk, hmk, hp, hn, hv⟩
  · rw [gett_bad hv (by omega)]
    rw [hv] at hc
    have Hc := Lib.hid hc; clear hc hv
    rcases he with rfl | rfl | rfl
    all_goals
      go_enter Try.func46, Try.ntmps46
      repeat' (first | go_values | go_skip | go_guarded | go_step | go_upon)
      refine Calls.mono (Hc.out _) ?_
      rintro _ w1 ⟨rfl, hb1⟩
      dsimp only
      repeat' (first | go_values | go_skip | go_guarded | go_step | go_upon)
      go_ret3
      exact ⟨rfl, hb1⟩
  · rw [hv] at hc
    have Hc := Lib.hid hc; clear hc
    have hv' : vget s.data.toList m = (n, ((m + k + 1 : Nat) : Int), 0) := hv
    have Hn : Hid (U64 n) := Lib.hid hn
    clear hn hp hv
    have hM0 : 0 ≤ max most 0 := by omega
    have HM : Hid (IntKind.u64.wrap (max most 0) = max most 0) := Lib.hid (wu64 hM0 (by
      rcases Int.le_total 0 most with h | h
      · rw [Int.max_eq_left h]; exact hmo.u64
      · rw [Int.max_eq_right h]; exact u64_small (by omega)))
    have hsw : IntKind.u64.wrap ((s.size : Int) - (m + k + 1)) = (s.size : Int) - (m + k + 1) := wu64 (by omega) (u64_small (by omega))
    obtain ⟨M, hM⟩ : ∃ M : Int, M = max most 0 := ⟨_, rfl⟩
    have Hv := Lib.hid hv'; clear hv'
    rw [← hM] at HM
    have hmw := HM.out
    by_cases h1 : M < n
    · rw [gett_long Hv.out (by omega)]
      by_cases hmn : most < 0
      · obtain rfl : M = 0 := by omega
        clear hM
        go_enter Try.func46, Try.ntmps46
        repeat' (first | go_values | go_skip | go_guarded | go_step | go_upon)
        refine Calls.mono (Hc.out _) ?_
        rintro _ w1 ⟨rfl, hb1⟩
        dsimp only
        repeat' (first | go_values | go_skip | go_guarded | go_step | go_upon)
        go_ret3
        exact ⟨rfl, hb1⟩
      · obtain rfl : M = most := by omega
        clear hM
        have hmn' : 0 ≤ M := by omega
        go_enter Try.func46, Try.ntmps46
        repeat' (first | go_values | go_skip | go_guarded | go_step | go_upon)
        refine Calls.mono (Hc.out _) ?_
        rintro _ w1 ⟨rfl, hb1⟩
        dsimp only
        repeat' (first | go_values | go_skip | go_guarded | go_step | go_upon)
        go_ret3
        exact ⟨rfl, hb1⟩
    · by_cases h2 : (s.size : Int) - (m + k + 1) < n
      · rw [gett_short Hv.out (by omega) (by omega)]
        by_cases hmn : most < 0
        · obtain rfl : M = 0 := by omega
          clear hM
          go_enter Try.func46, Try.ntmps46
          repeat' (first | go_values | go_skip | go_guarded | go_step | go_upon)
          refine Calls.mono (Hc.out _) ?_
          rintro _ w1 ⟨rfl, hb1⟩
          dsimp only
          repeat' (first | go_values | go_skip | go_guarded | go_step | go_upon)
          all_goals go_ret3
          all_goals exact ⟨rfl, hb1⟩
        · obtain rfl : M = most := by omega
          clear hM
          have hmn' : 0 ≤ M := by omega
          go_enter Try.func46, Try.ntmps46
          repeat' (first | go_values | go_skip | go_guarded | go_step | go_upon)
          refine Calls.mono (Hc.out _) ?_
          rintro _ w1 ⟨rfl, hb1⟩
          dsimp only
          repeat' (first | go_values | go_skip | go_guarded | go_step | go_upon)
          all_goals go_ret3
          all_goals exact ⟨rfl, hb1⟩
      · rw [gett_ok Hv.out (by omega) (by omega)]
        have hnw : IntKind.i64.wrap (n : Int) = n := wi64 (i64_small (by omega))
        have hsl := slice_str (P := Try.prog) Try.underlying9 s ((m : Int) + k + 1) ((m : Int) + k + 1 + n) (m + k + 1) (m + k + 1 + n) (by omega) (by omega) (by omega) (by omega)
        rw [show m + k + 1 + n - (m + k + 1) = n from by omega] at hsl
        by_cases hmn : most < 0
        · obtain rfl : M = 0 := by omega
          clear hM
          go_enter Try.func46, Try.ntmps46
          repeat' (first | go_values | go_skip | go_guarded | go_step | go_upon)
          refine Calls.mono (Hc.out _) ?_
          rintro _ w1 ⟨rfl, hb1⟩
          dsimp only
          repeat' (first | go_values | go_skip | go_guarded | go_step | go_upon)
          go_ret3
          exact ⟨ret_sii rfl (by omega) rfl, hb1⟩
        · obtain rfl : M = most := by omega
          clear hM
          have hmn' : 0 ≤ M := by omega
          go_enter Try.func46, Try.ntmps46
          repeat' (first | go_values | go_skip | go_guarded | go_step | go_upon)
          refine Calls.mono (Hc.out _) ?_
          rintro _ w1 ⟨rfl, hb1⟩
          dsimp only
          repeat' (first | go_values | go_skip | go_guarded | go_step | go_upon)
          go_ret3
          exact ⟨ret_sii rfl (by omega) rfl, hb1⟩
end Go.Proofs.Ytbomloodllddaaa
