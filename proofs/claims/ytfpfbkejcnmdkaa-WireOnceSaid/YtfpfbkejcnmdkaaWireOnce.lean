/- Walk: what is read from any bytes, written again, is just the bytes that were read. Condition: the text is of at most 2^47 bytes. -/
import Derived.Test.YtfpfbkejcnmdkaaWireOnceSpec
import Derived.Test.YtfpfbkejcnmdkaaWireList
import Derived.Test.YtfpfbkejcnmdkaaCount
import Derived.Test.YtfpfbkejcnmdkaaRegion
namespace Go.Proofs.Ytfpfbkejcnmdkaa
open Go.RowKit
set_option maxRecDepth 100000 in
set_option maxHeartbeats 400000 in
theorem law02_alive (w : World) : Calls Try.prog 27 #[] w fun e w' => e = .returned (.bool true) ∧ Below w.heap.size w w' := by
  have h1 := count_a
  go_enter Try.func27, Try.ntmps27
  repeat' (first | go_values | go_skip | go_guarded | go_step | go_upon)
  refine Calls.mono (utf_Count ⟨#[97]⟩ (by decide) _) ?_
  rintro _ w1 ⟨rfl, hb1⟩
  dsimp only
  repeat' (first | go_values | go_skip | go_guarded | go_step | go_upon)
  go_ret
  exact ⟨rfl, hb1⟩

set_option maxRecDepth 100000 in
set_option maxHeartbeats 2000000 in
theorem law_WireOnce (w : World) (s : ByteArray) (hs : s.size ≤ 140737488351232) (a : Int) (ha : I64 a) :
    Calls Try.prog 8 #[.string s, .int .i64 a] w fun e w' => e = .returned (.bool true) ∧ Below w.heap.size w w' := by
  have hl := ba_len s
  by_cases h0 : a < 0
  · have hc := wire_Get s (by omega) a ha
    rw [vget_arg (.inl h0)] at hc
    have Hc := Lib.hid hc; clear hc
    go_enter Try.func8, Try.ntmps8
    repeat' (first | go_values | go_skip | go_guarded | go_step | go_upon)
    refine Calls.mono (law02_alive _) ?_
    rintro _ w1 ⟨rfl, hb1⟩
    dsimp only
    repeat' (first | go_values | go_skip | go_guarded | go_step | go_upon)
    refine Calls.mono (Hc.out _) ?_
    rintro _ _ ⟨rfl, rfl⟩
    dsimp only
    repeat' (first | go_values | go_skip | go_guarded | go_step | go_upon)
    go_ret
    exact ⟨rfl, hb1⟩
  by_cases h1 : (s.size : Int) < a
  · have hc := wire_Get s (by omega) a ha
    rw [vget_arg (.inr (by omega))] at hc
    have Hc := Lib.hid hc; clear hc
    go_enter Try.func8, Try.ntmps8
    repeat' (first | go_values | go_skip | go_guarded | go_step | go_upon)
    refine Calls.mono (law02_alive _) ?_
    rintro _ w1 ⟨rfl, hb1⟩
    dsimp only
    repeat' (first | go_values | go_skip | go_guarded | go_step | go_upon)
    refine Calls.mono (Hc.out _) ?_
    rintro _ _ ⟨rfl, rfl⟩
    dsimp only
    repeat' (first | go_values | go_skip | go_guarded | go_step | go_upon)
    all_goals go_ret
    all_goals exact ⟨rfl, hb1⟩
  rcases vget_cases s.data.toList a with ⟨e, hv, he⟩ | ⟨m, k, n, rfl, hk, hmk, hp, hn, hv⟩
  · -- nothing is read
    have hc := wire_Get s (by omega) a ha
    rw [hv] at hc
    have ht := wire_GetText s (by omega) a ha s.size (i64_small (by omega))
    rw [gett_bad hv (by omega)] at ht
    have hg := wire_GetAll s (by omega) a ha 5000 (i64_small (by omega)) (.inr (by omega))
    rw [geta_bad hv (by omega)] at hg
    have Hc := Lib.hid hc; clear hc
    have Ht := Lib.hid ht; clear ht
    have Hg := Lib.hid hg; clear hg hv
    rcases he with rfl | rfl | rfl
    all_goals
      go_enter Try.func8, Try.ntmps8
      repeat' (first | go_values | go_skip | go_guarded | go_step | go_upon)
      refine Calls.mono (law02_alive _) ?_
      rintro _ w1 ⟨rfl, hb1⟩
      dsimp only
      repeat' (first | go_values | go_skip | go_guarded | go_step | go_upon)
      refine Calls.mono (Hc.out _) ?_
      rintro _ _ ⟨rfl, rfl⟩
      dsimp only
      repeat' (first | go_values | go_skip | go_guarded | go_step | go_upon)
      refine wp_region_wb (by kernel_rfl) (by kernel_rfl) w hb1 ?_
      repeat (go_big_quiet_step ((fail)))
      refine wpQuiet_nil ?_
      rintro _ ⟨nq, rfl⟩
      have hnq := nq.2
      repeat' (first | go_values | go_skip | go_guarded | go_step | go_upon)
      refine Calls.mono (Ht.out _) ?_
      rintro _ _ ⟨rfl, rfl⟩
      dsimp only
      repeat' (first | go_values | go_skip | go_guarded | go_step | go_upon)
      refine wp_region_wb (by kernel_rfl) (by kernel_rfl) w hnq ?_
      repeat (go_big_quiet_step ((fail)))
      refine wpQuiet_nil ?_
      rintro _ ⟨nq, rfl⟩
      have hnq := nq.2
      repeat' (first | go_values | go_skip | go_guarded | go_step | go_upon)
      refine Calls.mono (Hg.out _) ?_
      rintro _ w2 ⟨v2, rfl, hown2, hb2⟩
      dsimp only
      repeat' (first | go_values | go_skip | go_guarded | go_step | go_upon)
      have hb3 := hnq.trans (hb2.mono hnq.size)
      refine wp_region_wb (by kernel_rfl) (by kernel_rfl) w hb3 ?_
      repeat (go_big_quiet_step ((fail)))
      refine wpQuiet_nil ?_
      rintro _ ⟨nq, rfl⟩
      have hnq := nq.2
      repeat' (first | go_values | go_skip | go_guarded | go_step | go_upon)
      go_ret
      exact ⟨rfl, hnq⟩
  · -- a number is read
    have hc := wire_Get s (by omega) m ha
    rw [hv] at hc
    have ht := wire_GetText s (by omega) m ha s.size (i64_small (by omega))
    have hg := wire_GetAll s (by omega) m ha 5000 (i64_small (by omega)) (.inr (by omega))
    have Hc := Lib.hid hc; clear hc
    have Hg := Lib.hid hg; clear hg
    have hp1 : vput n = (s.data.toList.drop m).take (m + k + 1 - m) := by rw [hp, show m + k + 1 - m = k + 1 from by omega]
    have hbe : (vput n == (s.data.toList.drop m).take (m + k + 1 - m)) = true := by simpa using hp1
    have Hp1 := Lib.hid hp1; clear hp1
    have Hp := Lib.hid hp; clear hp
    have hsl := slice_str (P := Try.prog) Try.underlying9 s (m : Int) ((m : Int) + k + 1) m (m + k + 1) rfl (by omega) (by omega) (by omega)
    have hf1 : ¬ ((m : Int) + k + 1 ≤ m) := by omega
    have hf2 : ¬ ((s.size : Int) < (m : Int) + k + 1) := by omega
    have Hn := Lib.hid hn; clear hn
    have Hv := Lib.hid hv; clear hv
    obtain ⟨x, to, e, hx⟩ : ∃ x to e, gett s.data.toList m s.size = (x, to, e) := ⟨_, _, _, rfl⟩
    rw [hx] at ht
    have Ht := Lib.hid ht; clear ht
    have htc : (e ≠ 0) ∨ (e = 0 ∧ to = (m : Int) + k + 1 + n ∧ x.length ≤ s.size ∧ ¬ (s.size : Int) - ((m : Int) + k + 1) < n ∧ vput x.length ++ x = (s.data.toList.drop m).take (m + k + 1 + n - m)) := by
      by_cases h2 : max (s.size : Int) 0 < (n : Int)
      · rw [gett_long Hv.out h2] at hx
        cases hx
        exact .inl (by decide)
      · by_cases h3 : (s.data.toList.length : Int) - ((m : Int) + k + 1) < n
        · rw [gett_short Hv.out h2 h3] at hx
          cases hx
          exact .inl (by decide)
        · have hv' : vget s.data.toList m = (n, ((m + k + 1 : Nat) : Int), 0) := Hv.out
          rw [gett_ok hv' h2 (by omega)] at hx
          cases hx
          refine .inr ⟨rfl, by omega, by simp; omega, by omega, ?_⟩
          rw [gett_once Hp.out hmk h3, show m + k + 1 + n - m = k + 1 + n from by omega]
    obtain ⟨r, hr⟩ : ∃ r, r = geta s.data.toList m 5000 := ⟨_, rfl⟩
    have hgc : r.2.2 ≠ 0 ∨ (r.2.2 = 0 ∧ AllU64 r.1 ∧ r.1.length ≤ 5000 ∧ ∃ m' : Nat, r.2.1 = m' ∧ m < m' ∧ m' ≤ s.size ∧ vputs r.1 = (s.data.toList.drop m).take (m' - m)) := by
      by_cases h0 : r.2.2 = 0
      · right
        rw [hr] at h0
        obtain ⟨h1, m1, m', h2, h3, h4, h5, h6, h7⟩ := geta_once h0
        obtain rfl : m = m1 := by omega
        rw [← hr] at h0 h1 h3 h6 h7
        exact ⟨h0, h1, by omega, m', h3, h4, by omega, h6⟩
      · exact .inl h0
    rw [← hr] at Hg
    have Hx := Lib.hid hx; clear hx hr
    rcases htc with he | ⟨rfl, rfl, hxl, hf3, hp2⟩
    · have he1 : (e == 0) = false := by simpa using he
      have he2 : (e != 0) = true := by simpa using he
      clear he
      rcases hgc with hr0 | ⟨hr0, hru, hrl, m', hm', hf4, hf5, hp3⟩
      · have hr1 : (r.2.2 == 0) = false := by simpa using hr0
        have hr2 : (r.2.2 != 0) = true := by simpa using hr0
        clear hr0
        go_enter Try.func8, Try.ntmps8
        repeat' (first | go_values | go_skip | go_guarded | go_step | go_upon)
        refine Calls.mono (law02_alive _) ?_
        rintro _ w1 ⟨rfl, hb1⟩
        dsimp only
        repeat' (first | go_values | go_skip | go_guarded | go_step | go_upon)
        refine Calls.mono (Hc.out _) ?_
        rintro _ _ ⟨rfl, rfl⟩
        dsimp only
        repeat' (first | go_values | go_skip | go_guarded | go_step | go_upon)
        refine wp_region_wb (by kernel_rfl) (by kernel_rfl) w hb1 ?_
        repeat (go_big_quiet_step ((go_at_call 10; exact calls_wb (wire_Put n _ Hn.out))))
        refine wpQuiet_nil ?_
        rintro _ ⟨nq, rfl⟩
        have hnq := nq.2
        repeat' (first | go_values | go_skip | go_guarded | go_step | go_upon)
        refine Calls.mono (Ht.out _) ?_
        rintro _ _ ⟨rfl, rfl⟩
        dsimp only
        repeat' (first | go_values | go_skip | go_guarded | go_step | go_upon)
        refine wp_region_wb (by kernel_rfl) (by kernel_rfl) w hnq ?_
        repeat (go_big_quiet_step ((fail)))
        refine wpQuiet_nil ?_
        rintro _ ⟨nq, rfl⟩
        have hnq := nq.2
        repeat' (first | go_values | go_skip | go_guarded | go_step | go_upon)
        refine Calls.mono (Hg.out _) ?_
        rintro _ w2 ⟨v2, rfl, hown2, hb2⟩
        dsimp only
        have hb3 := hnq.trans (hb2.mono hnq.size)
        have hrd := OwnI.rd hown2
        repeat' (first | go_values | go_skip | go_guarded | go_step | go_upon)
        refine wp_region_wb (by kernel_rfl) (by kernel_rfl) w2 (Below.refl _ _) ?_
        repeat (go_big_quiet_step ((fail)))
        refine wpQuiet_nil ?_
        rintro _ ⟨nq, rfl⟩
        have hnq := nq.2
        repeat' (first | go_values | go_skip | go_guarded | go_step | go_upon)
        go_ret
        exact ⟨rfl, hb3.trans (hnq.mono hb3.size)⟩
      · have hr1 : (r.2.2 == 0) = true := by simpa using hr0
        have hr2 : (r.2.2 != 0) = false := by simpa using hr0
        have hbe3 : (vputs r.1 == (s.data.toList.drop m).take (m' - m)) = true := by simpa using hp3
        have Hp3 := Lib.hid hp3; clear hp3 hr0
        have hsl3 := slice_str (P := Try.prog) Try.underlying9 s (m : Int) r.2.1 m m' rfl hm' (by omega) (by omega)
        have hg1 : (m : Int) < r.2.1 := by omega
        have hg2 : r.2.1 ≤ (s.size : Int) := by omega
        have Hm' := Lib.hid hm'; clear hm'
        go_enter Try.func8, Try.ntmps8
        repeat' (first | go_values | go_skip | go_guarded | go_step | go_upon)
        refine Calls.mono (law02_alive _) ?_
        rintro _ w1 ⟨rfl, hb1⟩
        dsimp only
        repeat' (first | go_values | go_skip | go_guarded | go_step | go_upon)
        refine Calls.mono (Hc.out _) ?_
        rintro _ _ ⟨rfl, rfl⟩
        dsimp only
        repeat' (first | go_values | go_skip | go_guarded | go_step | go_upon)
        refine wp_region_wb (by kernel_rfl) (by kernel_rfl) w hb1 ?_
        repeat (go_big_quiet_step ((go_at_call 10; exact calls_wb (wire_Put n _ Hn.out))))
        refine wpQuiet_nil ?_
        rintro _ ⟨nq, rfl⟩
        have hnq := nq.2
        repeat' (first | go_values | go_skip | go_guarded | go_step | go_upon)
        refine Calls.mono (Ht.out _) ?_
        rintro _ _ ⟨rfl, rfl⟩
        dsimp only
        repeat' (first | go_values | go_skip | go_guarded | go_step | go_upon)
        refine wp_region_wb (by kernel_rfl) (by kernel_rfl) w hnq ?_
        repeat (go_big_quiet_step ((fail)))
        refine wpQuiet_nil ?_
        rintro _ ⟨nq, rfl⟩
        have hnq := nq.2
        repeat' (first | go_values | go_skip | go_guarded | go_step | go_upon)
        refine Calls.mono (Hg.out _) ?_
        rintro _ w2 ⟨v2, rfl, hown2, hb2⟩
        dsimp only
        have hb3 := hnq.trans (hb2.mono hnq.size)
        have hrd := OwnI.rd hown2
        repeat' (first | go_values | go_skip | go_guarded | go_step | go_upon)
        refine wp_region_wb (by kernel_rfl) (by kernel_rfl) w2 (Below.refl _ _) ?_
        repeat (go_big_quiet_step ((go_at_call 24; exact calls_wb (wire_PutAll v2 r.1 hru (by omega) _ (RdI.wb _ hrd)))))
        refine wpQuiet_nil ?_
        rintro _ ⟨nq, rfl⟩
        have hnq := nq.2
        repeat' (first | go_values | go_skip | go_guarded | go_step | go_upon)
        go_ret
        exact ⟨rfl, hb3.trans (hnq.mono hb3.size)⟩
    · have hbe2 : (vput x.length ++ x == (s.data.toList.drop m).take (m + k + 1 + n - m)) = true := by simpa using hp2
      have Hp2 := Lib.hid hp2; clear hp2
      have hsl2 := slice_str (P := Try.prog) Try.underlying9 s (m : Int) ((m : Int) + k + 1 + n) m (m + k + 1 + n) rfl (by omega) (by omega) (by omega)
      have hf5 : ¬ ((m : Int) + k + 1 + n ≤ m) := by omega
      have hf6 : ¬ ((s.size : Int) < (m : Int) + k + 1 + n) := by omega
      rcases hgc with hr0 | ⟨hr0, hru, hrl, m', hm', hf4, hf7, hp3⟩
      · have hr1 : (r.2.2 == 0) = false := by simpa using hr0
        have hr2 : (r.2.2 != 0) = true := by simpa using hr0
        clear hr0
        go_enter Try.func8, Try.ntmps8
        repeat' (first | go_values | go_skip | go_guarded | go_step | go_upon)
        refine Calls.mono (law02_alive _) ?_
        rintro _ w1 ⟨rfl, hb1⟩
        dsimp only
        repeat' (first | go_values | go_skip | go_guarded | go_step | go_upon)
        refine Calls.mono (Hc.out _) ?_
        rintro _ _ ⟨rfl, rfl⟩
        dsimp only
        repeat' (first | go_values | go_skip | go_guarded | go_step | go_upon)
        refine wp_region_wb (by kernel_rfl) (by kernel_rfl) w hb1 ?_
        repeat (go_big_quiet_step ((go_at_call 10; exact calls_wb (wire_Put n _ Hn.out))))
        refine wpQuiet_nil ?_
        rintro _ ⟨nq, rfl⟩
        have hnq := nq.2
        repeat' (first | go_values | go_skip | go_guarded | go_step | go_upon)
        refine Calls.mono (Ht.out _) ?_
        rintro _ _ ⟨rfl, rfl⟩
        dsimp only
        repeat' (first | go_values | go_skip | go_guarded | go_step | go_upon)
        refine wp_region_wb (by kernel_rfl) (by kernel_rfl) w hnq ?_
        repeat (go_big_quiet_step ((go_at_call 20; exact calls_wb (wire_PutText_l x (by omega) _))))
        refine wpQuiet_nil ?_
        rintro _ ⟨nq, rfl⟩
        have hnq := nq.2
        repeat' (first | go_values | go_skip | go_guarded | go_step | go_upon)
        refine Calls.mono (Hg.out _) ?_
        rintro _ w2 ⟨v2, rfl, hown2, hb2⟩
        dsimp only
        have hb3 := hnq.trans (hb2.mono hnq.size)
        have hrd := OwnI.rd hown2
        repeat' (first | go_values | go_skip | go_guarded | go_step | go_upon)
        refine wp_region_wb (by kernel_rfl) (by kernel_rfl) w2 (Below.refl _ _) ?_
        repeat (go_big_quiet_step ((fail)))
        refine wpQuiet_nil ?_
        rintro _ ⟨nq, rfl⟩
        have hnq := nq.2
        repeat' (first | go_values | go_skip | go_guarded | go_step | go_upon)
        go_ret
        exact ⟨rfl, hb3.trans (hnq.mono hb3.size)⟩
      · have hr1 : (r.2.2 == 0) = true := by simpa using hr0
        have hr2 : (r.2.2 != 0) = false := by simpa using hr0
        have hbe3 : (vputs r.1 == (s.data.toList.drop m).take (m' - m)) = true := by simpa using hp3
        have Hp3 := Lib.hid hp3; clear hp3 hr0
        have hsl3 := slice_str (P := Try.prog) Try.underlying9 s (m : Int) r.2.1 m m' rfl hm' (by omega) (by omega)
        have hg1 : (m : Int) < r.2.1 := by omega
        have hg2 : r.2.1 ≤ (s.size : Int) := by omega
        have Hm' := Lib.hid hm'; clear hm'
        go_enter Try.func8, Try.ntmps8
        repeat' (first | go_values | go_skip | go_guarded | go_step | go_upon)
        refine Calls.mono (law02_alive _) ?_
        rintro _ w1 ⟨rfl, hb1⟩
        dsimp only
        repeat' (first | go_values | go_skip | go_guarded | go_step | go_upon)
        refine Calls.mono (Hc.out _) ?_
        rintro _ _ ⟨rfl, rfl⟩
        dsimp only
        repeat' (first | go_values | go_skip | go_guarded | go_step | go_upon)
        refine wp_region_wb (by kernel_rfl) (by kernel_rfl) w hb1 ?_
        repeat (go_big_quiet_step ((go_at_call 10; exact calls_wb (wire_Put n _ Hn.out))))
        refine wpQuiet_nil ?_
        rintro _ ⟨nq, rfl⟩
        have hnq := nq.2
        repeat' (first | go_values | go_skip | go_guarded | go_step | go_upon)
        refine Calls.mono (Ht.out _) ?_
        rintro _ _ ⟨rfl, rfl⟩
        dsimp only
        repeat' (first | go_values | go_skip | go_guarded | go_step | go_upon)
        refine wp_region_wb (by kernel_rfl) (by kernel_rfl) w hnq ?_
        repeat (go_big_quiet_step ((go_at_call 20; exact calls_wb (wire_PutText_l x (by omega) _))))
        refine wpQuiet_nil ?_
        rintro _ ⟨nq, rfl⟩
        have hnq := nq.2
        repeat' (first | go_values | go_skip | go_guarded | go_step | go_upon)
        refine Calls.mono (Hg.out _) ?_
        rintro _ w2 ⟨v2, rfl, hown2, hb2⟩
        dsimp only
        have hb3 := hnq.trans (hb2.mono hnq.size)
        have hrd := OwnI.rd hown2
        repeat' (first | go_values | go_skip | go_guarded | go_step | go_upon)
        refine wp_region_wb (by kernel_rfl) (by kernel_rfl) w2 (Below.refl _ _) ?_
        repeat (go_big_quiet_step ((go_at_call 24; exact calls_wb (wire_PutAll v2 r.1 hru (by omega) _ (RdI.wb _ hrd)))))
        refine wpQuiet_nil ?_
        rintro _ ⟨nq, rfl⟩
        have hnq := nq.2
        repeat' (first | go_values | go_skip | go_guarded | go_step | go_upon)
        go_ret
        exact ⟨rfl, hb3.trans (hnq.mono hb3.size)⟩
end Go.Proofs.Ytfpfbkejcnmdkaa
