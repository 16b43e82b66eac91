/- Walks: lists of numbers are read, by the reference (GetAll); two lists are held together (Like). Conditions: the text is of at most 10^15 bytes; either it or the bound is at most 10^13. -/
import Derived.Test.YtfpfbkejcnmdkaaWireRefGet
import Derived.Test.YtfpfbkejcnmdkaaWireList
import Derived.Deep.QuietTactic
import Derived.BigQuiet
namespace Go.Proofs.Ytfpfbkejcnmdkaa
open Go.RowKit
set_option maxRecDepth 100000 in
set_option maxHeartbeats 1000000 in
theorem ref_GetAll (s : ByteArray) (hs : s.size ≤ 1000000000000000) (a : Int) (ha : I64 a) (most : Int) (hmo : I64 most) (hb : s.size ≤ 10000000000000 ∨ most ≤ 10000000000000) (w : World) :
    Calls Try.prog 23 #[.string s, .int .i64 a, .int .i64 most] w (GotAll w.heap.size w (geta s.data.toList a most)) := by
  have hl := ba_len s
  have hc := ref_Get s hs a ha
  rcases vget_cases s.data.toList a with ⟨e, hv, he⟩ | ⟨m, k, n, rfl, hk, hmk, hp, hn, hv⟩
  · rw [geta_bad hv (by omega)]
    rw [hv] at hc
    have Hc := Lib.hid hc; clear hc hv
    rcases he with rfl | rfl | rfl
    all_goals
      go_enter Try.func23, Try.ntmps23
      repeat' (first | go_values | go_skip | go_guarded | go_step | go_upon)
      refine Calls.mono (Hc.out _) ?_
      rintro _ w1 ⟨rfl, hb1⟩
      dsimp only
      repeat' (first | go_values | go_skip | go_guarded | go_step | go_upon)
      go_ret3
      exact ⟨_, rfl, OwnI.nil _ _ _ _, hb1⟩
  · rw [hv] at hc
    have Hc := Lib.hid hc; clear hc
    have Hn : Hid (U64 n) := Lib.hid hn
    clear hn hp
    have hM0 : 0 ≤ max most 0 := by omega
    have HM : Hid (IntKind.u64.wrap (max most 0) = max most 0) := Lib.hid (wu64 hM0 (by
      rcases Int.le_total 0 most with h | h
      · rw [Int.max_eq_left h]; exact hmo.u64
      · rw [Int.max_eq_right h]; exact u64_small (by omega)))
    obtain ⟨M, hM⟩ : ∃ M : Int, M = max most 0 := ⟨_, rfl⟩
    have Hv := Lib.hid hv; clear hv
    rw [← hM] at HM
    have hmw := HM.out
    by_cases h1 : M < n
    · rw [geta_long Hv.out (by omega)]
      by_cases hmn : most < 0
      · obtain rfl : M = 0 := by omega
        clear hM
        have hn0 : 0 < n := by omega
        go_enter Try.func23, Try.ntmps23
        repeat' (first | go_values | go_skip | go_guarded | go_step | go_upon)
        refine Calls.mono (Hc.out _) ?_
        rintro _ w1 ⟨rfl, hb1⟩
        dsimp only
        repeat' (first | go_values | go_skip | go_guarded | go_step | go_upon)
        go_ret3
        exact ⟨_, rfl, OwnI.nil _ _ _ _, hb1⟩
      · obtain rfl : M = most := by omega
        clear hM
        have hmn' : 0 ≤ M := by omega
        go_enter Try.func23, Try.ntmps23
        repeat' (first | go_values | go_skip | go_guarded | go_step | go_upon)
        refine Calls.mono (Hc.out _) ?_
        rintro _ w1 ⟨rfl, hb1⟩
        dsimp only
        repeat' (first | go_values | go_skip | go_guarded | go_step | go_upon)
        go_ret3
        exact ⟨_, rfl, OwnI.nil _ _ _ _, hb1⟩
    · rw [geta_go Hv.out (by omega)]
      have hnb : s.size ≤ 10000000000000 ∨ n ≤ 10000000000000 := by omega
      clear hb
      obtain ⟨r, hr⟩ : ∃ r, r = getn s.data.toList n ((m : Int) + k + 1) := ⟨_, rfl⟩
      rw [← hr]
      have Hr := Lib.hid hr; clear hr
      have hto : m + k + 1 ≤ s.size := by omega
      have hstart : ahead [] (getn s.data.toList (n - 0) ((m : Int) + k + 1)) = r := by rw [Hr.out, Nat.sub_zero]; exact ahead_nil _ _ _
      have Hst := Lib.hid hstart; clear hstart
      by_cases hn0 : n = 0
      · subst hn0
        clear hM
        go_enter Try.func23, Try.ntmps23
        repeat' (first | go_values | go_skip | go_guarded | go_step | go_upon)
        refine Calls.mono (Hc.out _) ?_
        rintro _ w1 ⟨rfl, hb1⟩
        dsimp only
        repeat' (first | go_values | go_skip | go_guarded | go_step | go_upon)
        refine wp_loop_once ?_
        repeat' (first | go_values | go_skip | go_guarded | go_step | go_upon)
        go_ret3
        refine ⟨.slice (some ⟨w1.heap.size, 0, none⟩) 0 0, ?_, ?_, hb1.alloc hb1.size _⟩
        · rw [Hr.out]; rfl
        · rw [Hr.out]; exact OwnI.lit w1 [] hb1.size 0 rfl (by decide)
      · obtain rfl : M = most := by omega
        clear hM
        have hmn' : 0 ≤ M := by omega
        have hn0' : 0 < n := by omega
        go_enter Try.func23, Try.ntmps23
        repeat' (first | go_values | go_skip | go_guarded | go_step | go_upon)
        refine Calls.mono (Hc.out _) ?_
        rintro _ w1 ⟨rfl, hb1⟩
        dsimp only
        repeat' (first | go_values | go_skip | go_guarded | go_step | go_upon)
        go_loopw [10, 12] (fun s10 s12 wr => ∃ (to : Nat) (l : List Nat), s10 = .int .i64 to ∧ l.length ≤ n ∧ l.length ≤ to ∧ to ≤ s.size ∧ Hid (ahead l (getn s.data.toList (n - l.length) to) = r) ∧ OwnI w.heap.size 22 .u64 wr s12 (nats l) ∧ Below w.heap.size w wr) (fun _ s12 _ => n - (match s12 with | .slice _ q _ => q | _ => 0))
        case atStart => exact ⟨m + k + 1, [], by go_num, Nat.zero_le _, Nat.zero_le _, hto, by rw [show ((m + k + 1 : Nat) : Int) = (m : Int) + k + 1 from by omega]; exact Hst, OwnI.lit w1 [] hb1.size 0 rfl (by decide), hb1.alloc hb1.size _⟩
        case round =>
          obtain ⟨to, l, rfl, hj, hjt, htl, Hq, hown, hbel⟩ := hrel
          obtain ⟨ao, cap, hvv⟩ := OwnI.form hown
          rw [nats_len] at hvv
          subst hvv
          have hsz := hbel.size
          have hcr := ref_Get s hs to (i64_small (by omega))
          have hlw : IntKind.u64.wrap (l.length : Int) = l.length := wu64 (by omega) (Hn.out.le (by omega))
          by_cases hjn : l.length = n
          · have hlt : ¬ (l.length : Int) < n := by omega
            have Hjn := Lib.hid hjn; clear hjn
            repeat' (first | go_values | go_skip | go_guarded | go_step | go_upon)
            go_ret3
            have h := Hq.out
            rw [Hjn.out, Nat.sub_self, ahead_zero] at h
            refine ⟨.slice ao l.length cap, ?_, ?_, hbel⟩
            · rw [← h]; rfl
            · rw [← h]; exact hown
          · have hjn' : l.length < n := by omega
            rcases vget_cases s.data.toList to with ⟨e, hv2, he⟩ | ⟨m2, k2, n2, hm2, hk2, hmk2, hp2, hn2, hv2⟩
            · have hfin := Hq.out
              rw [show n - l.length = (n - l.length - 1) + 1 from by omega, ahead_bad l hv2 (by omega)] at hfin
              have Hfin := Lib.hid hfin; clear hfin
              rw [hv2] at hcr
              have Hcr := Lib.hid hcr; clear hcr hv2
              rcases he with rfl | rfl | rfl
              all_goals
                repeat' (first | go_values | go_skip | go_guarded | go_step | go_upon)
                refine Calls.mono (Hcr.out _) ?_
                rintro _ w2 ⟨rfl, hb2⟩
                dsimp only
                repeat' (first | go_values | go_skip | go_guarded | go_step | go_upon)
                go_ret3
                refine ⟨.slice none 0 0, ?_, ?_, hbel.trans (hb2.mono hsz)⟩
                · rw [← Hfin.out]; rfl
                · rw [← Hfin.out]; exact OwnI.nil _ _ _ _
            · obtain rfl : to = m2 := by omega
              have hfin := Hq.out
              rw [show n - l.length = (n - (l ++ [n2]).length) + 1 from by simp; omega, ahead_step l hv2] at hfin
              have Hfin := Lib.hid hfin; clear hfin
              rw [hv2] at hcr
              have Hcr := Lib.hid hcr; clear hcr hv2 hp2
              have Hn2 := Lib.hid hn2; clear hn2
              have hll : (nats l).length = l.length := nats_len l
              repeat' (first | go_values | go_skip | go_guarded | go_step | go_upon)
              refine Calls.mono (Hcr.out _) ?_
              rintro _ w2 ⟨rfl, hb2⟩
              dsimp only
              have hown2 := OwnI.keep hown hb2 (Nat.le_refl _)
              have hB2 : w.heap.size ≤ w2.heap.size := by have := hb2.size; omega
              repeat' (first | (at_builtin; go_loud (refine app_ints w.heap.size 8 [_] Try.underlying38 info_u64 (by decide) rfl _ _ rfl rfl rfl rfl rfl hown2 hB2 (by omega) ?_); intro v3 w3 hown3 hb3 _) | go_values | go_skip | go_guarded | go_step | go_upon)
              go_roundw
              case rel => exact ⟨to + k2 + 1, l ++ [n2], by go_num, by simp; omega, by simp; omega, by omega, Hfin, by rw [nats_append]; exact hown3, hbel.trans ((hb2.mono hsz).trans hb3)⟩
              case measure =>
                obtain ⟨a3, c3, rfl⟩ := OwnI.form hown3
                simp [nats_len]; omega

set_option maxRecDepth 100000 in
set_option maxHeartbeats 1000000 in
/-- two slices that read alike -/
theorem ref_Like (v1 v2 : Value) (l : List Int) (hn : l.length ≤ maxLen) (B1 B2 : Nat) (w : World) (h1 : RdI B1 .u64 w v1 l) (h2 : RdI B2 .u64 w v2 l) :
    Calls Try.prog 26 #[v1, v2] w fun e w' => e = .returned (.bool true) ∧ Below w.heap.size w w' := by
  unfold maxLen at hn
  obtain ⟨a1, c1, rfl, hc1, hr1⟩ := h1
  obtain ⟨a2, c2, rfl, hc2, hr2⟩ := h2
  go_enter Try.func26, Try.ntmps26
  repeat' (first | go_values | go_skip | go_guarded | go_step | go_upon)
  go_loopw [13] (fun s13 wr => ∃ k : Nat, s13 = .int .i64 k ∧ k ≤ l.length ∧ Below w.heap.size w wr ∧ wr.heap = w.heap) (fun s13 _ => l.length - (intOf s13).toNat)
  case atStart => exact ⟨0, rfl, Nat.zero_le _, Below.refl _ _, rfl⟩
  case round =>
    obtain ⟨k, rfl, hk, hbel, hheap⟩ := hrel
    have Hh := Lib.hid hheap; clear hheap
    by_cases hkl : k < l.length
    · rcases hr1 with hr1 | ⟨b1, o1, rfl, _, hr1⟩
      · simp [hr1] at hkl
      rcases hr2 with hr2 | ⟨b2, o2, rfl, _, hr2⟩
      · simp [hr2] at hkl
      have hcell : ∀ a, wr.cell? a = w.cell? a := fun a => by simp [World.cell?, Hh.out]
      obtain ⟨x, hx⟩ : ∃ x, x = l.getD k 0 := ⟨_, rfl⟩
      have hA : wr.cell? ⟨b1, o1 + k, none⟩ = some (.int .u64 x) := by rw [hcell, hr1 k hkl, hx]
      have hB : wr.cell? ⟨b2, o2 + k, none⟩ = some (.int .u64 x) := by rw [hcell, hr2 k hkl, hx]
      clear hcell hx
      repeat' (first | go_values | go_skip | go_guarded | go_step | go_upon)
      go_quiet (fail)
      repeat' (first | go_values | go_skip | go_guarded | go_step | go_upon)
      go_roundw
      case rel => exact ⟨k + 1, by go_num, by omega, ⟨hbel.os, hbel.tape, hbel.output, hbel.size, hbel.block⟩, Hh.out⟩
      case measure => simp [intOf]; omega
    · obtain rfl : k = l.length := by omega
      repeat' (first | go_values | go_skip | go_guarded | go_step | go_upon)
      go_ret
      exact ⟨rfl, hbel⟩
end Go.Proofs.Ytfpfbkejcnmdkaa
