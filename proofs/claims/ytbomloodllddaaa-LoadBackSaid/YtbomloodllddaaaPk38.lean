/- Walks: lists of numbers are read (wire.GetAll). Conditions: the text is of at most 10^15 bytes; either it or the bound is at most 10^13. -/
import Derived.Test.YtbomloodllddaaaPk02
import Derived.Test.YtbomloodllddaaaPk01
import Derived.Test.YtbomloodllddaaaPk03
import Derived.Test.YtbomloodllddaaaPk09
import Derived.Test.YtbomloodllddaaaPk00
namespace Go.Proofs.Ytbomloodllddaaa
open Go.RowKit
theorem info_u64 : (Try.prog.info? 66).map (fun i => (i.zero, i.size, i.bytes)) = some (some (.int .u64 0), 1, 8) := by kernel_rfl
/-- what a walk of GetAll comes to -/
def GotAll (B : Nat) (w : World) (r : List Nat × Int × Int) (e : Ending) (w' : World) : Prop :=
  ∃ v, e = .returned (.tuple #[v, .int .i64 r.2.1, .int .i64 r.2.2]) ∧ OwnI B 66 .u64 w' v (nats r.1) ∧ Below B w w'

set_option maxRecDepth 100000 in
set_option maxHeartbeats 1000000 in
theorem wire_list (s : ByteArray) (hs : s.size ≤ 1000000000000000) (a : Int) (ha : I64 a) (most : Int) (hmo : I64 most) (hb : s.size ≤ 10000000000000 ∨ most ≤ 10000000000000) (w : World) :
    Calls Try.prog 126 #[.string s, .int .i64 a, .int .i64 most, .func (.func 107) #[] #[]] w (GotAll w.heap.size w (geta s.data.toList a most)) := by
  have hl := ba_len s
  have hc := wire_Get s hs a ha
  rcases vget_cases s.data.toList a with ⟨e, hv, he⟩ | ⟨m, k, n, rfl, hk, hmk, hp, hn, hv⟩
  · rw [geta_bad hv (by omega)]
    rw [hv] at hc
    have Hc := Lib.hid hc; clear hc hv
    rcases he with rfl | rfl | rfl
    all_goals
      go_enter Try.func126, Try.ntmps126
      repeat' (first | go_values | go_skip | go_guarded | go_step | go_upon)
      refine Calls.mono (Hc.out _) ?_
      rintro _ _ ⟨rfl, rfl⟩
      dsimp only
      repeat' (first | go_values | go_skip | go_guarded | go_step | go_upon)
      go_ret3
      exact ⟨_, rfl, OwnI.nil _ _ _ _, Below.refl _ _⟩
  · rw [hv] at hc
    have Hc := Lib.hid hc; clear hc
    have Hn : Hid (U64 n) := Lib.hid hn
    clear hn hp
    have hM0 : 0 ≤ max most 0 := by omega
    have HM : Hid (IntKind.u64.wrap (max most 0) = max most 0) := Lib.hid (wu64 hM0 (by
      rcases Int.le_total 0 most with h | h
      · rw [Int.max_eq_left h]; exact hmo.u64
      · rw [Int.max_eq_right h]; exact u64_small (by omega)))
    obtain ⟨M, hM⟩ : ∃ M : Int, M = max most 0 := ⟨_, rfl⟩
    have Hv := Lib.hid hv; clear hv
    rw [← hM] at HM
    have hmw := HM.out
    by_cases h1 : M < n
    · rw [geta_long Hv.out (by omega)]
      by_cases hmn : most < 0
      · obtain rfl : M = 0 := by omega
        clear hM
        go_enter Try.func126, Try.ntmps126
        repeat' (first | go_values | go_skip | go_guarded | go_step | go_upon)
        refine Calls.mono (Hc.out _) ?_
        rintro _ _ ⟨rfl, rfl⟩
        dsimp only
        repeat' (first | go_values | go_skip | go_guarded | go_step | go_upon)
        go_ret3
        exact ⟨_, rfl, OwnI.nil _ _ _ _, Below.refl _ _⟩
      · obtain rfl : M = most := by omega
        clear hM
        have hmn' : 0 ≤ M := by omega
        go_enter Try.func126, Try.ntmps126
        repeat' (first | go_values | go_skip | go_guarded | go_step | go_upon)
        refine Calls.mono (Hc.out _) ?_
        rintro _ _ ⟨rfl, rfl⟩
        dsimp only
        repeat' (first | go_values | go_skip | go_guarded | go_step | go_upon)
        go_ret3
        exact ⟨_, rfl, OwnI.nil _ _ _ _, Below.refl _ _⟩
    · rw [geta_go Hv.out (by omega)]
      have hnb : s.size ≤ 10000000000000 ∨ n ≤ 10000000000000 := by omega
      clear hb
      obtain ⟨r, hr⟩ : ∃ r, r = getn s.data.toList n ((m : Int) + k + 1) := ⟨_, rfl⟩
      rw [← hr]
      have Hr := Lib.hid hr; clear hr
      have hto : m + k + 1 ≤ s.size := by omega
      have hstart : ahead [] (getn s.data.toList (n - 0) ((m : Int) + k + 1)) = r := by rw [Hr.out, Nat.sub_zero]; exact ahead_nil _ _ _
      have Hst := Lib.hid hstart; clear hstart
      by_cases hmn : most < 0
      · obtain rfl : M = 0 := by omega
        clear hM
        obtain rfl : n = 0 := by omega
        go_enter Try.func126, Try.ntmps126
        repeat' (first | go_values | go_skip | go_guarded | go_step | go_upon)
        refine Calls.mono (Hc.out _) ?_
        rintro _ _ ⟨rfl, rfl⟩
        dsimp only
        repeat' (first | go_values | go_skip | go_guarded | go_step | go_upon)
        refine wp_loop_once ?_
        repeat' (first | go_values | go_skip | go_guarded | go_step | go_upon)
        go_ret3
        refine ⟨.slice none 0 0, ?_, ?_, Below.refl _ _⟩
        · rw [Hr.out]; rfl
        · rw [Hr.out]; exact OwnI.nil _ _ _ _
      · obtain rfl : M = most := by omega
        clear hM
        have hmn' : 0 ≤ M := by omega
        go_enter Try.func126, Try.ntmps126
        repeat' (first | go_values | go_skip | go_guarded | go_step | go_upon)
        refine Calls.mono (Hc.out _) ?_
        rintro _ _ ⟨rfl, rfl⟩
        dsimp only
        repeat' (first | go_values | go_skip | go_guarded | go_step | go_upon)
        go_loopw [1, 13, 31] (fun s1 s13 s31 wr => ∃ (j tq : Nat) (l : List Nat), s1 = .int .i64 tq ∧ s31 = .int .u64 j ∧ j ≤ n ∧ j = l.length ∧ j ≤ tq ∧ tq ≤ s.size ∧ Hid (ahead l (getn s.data.toList (n - j) tq) = r) ∧ OwnI w.heap.size 66 .u64 wr s13 (nats l) ∧ Below w.heap.size w wr) (fun _ _ s31 _ => n - (intOf s31).toNat)
        case atStart => exact ⟨0, m + k + 1, [], by go_num, rfl, Nat.zero_le _, rfl, Nat.zero_le _, hto, by rw [show ((m + k + 1 : Nat) : Int) = (m : Int) + k + 1 from by omega]; exact Hst, OwnI.nil _ _ _ _, Below.refl _ _⟩
        case round =>
          obtain ⟨j, tq, l, rfl, rfl, hj, hjl, hjt, htl, Hq, hown, hbel⟩ := hrel
          have hsz := hbel.size
          have hcr := wire_Get s hs tq (i64_small (by omega))
          by_cases hjn : j = n
          · subst hjn
            repeat' (first | go_values | go_skip | go_guarded | go_step | go_upon)
            go_ret3
            have h := Hq.out
            rw [Nat.sub_self, ahead_zero] at h
            refine ⟨u13, ?_, ?_, hbel⟩
            · rw [← h]; rfl
            · rw [← h]; exact hown
          · have hjn' : j < n := by omega
            have hwj : IntKind.u64.wrap ((j : Int) + 1) = (j : Int) + 1 := wu64 (by omega) (Hn.out.le (by omega))
            rcases vget_cases s.data.toList tq with ⟨e, hv2, he⟩ | ⟨m2, k2, n2, hm2, hk2, hmk2, hp2, hn2, hv2⟩
            · have hfin := Hq.out
              rw [show n - j = (n - j - 1) + 1 from by omega, ahead_bad l hv2 (by omega)] at hfin
              have Hfin := Lib.hid hfin; clear hfin
              rw [hv2] at hcr
              have Hcr := Lib.hid hcr; clear hcr hv2
              rcases he with rfl | rfl | rfl
              all_goals
                repeat' (first | go_values | go_skip | go_guarded | go_step | go_upon)
                refine Calls.mono (Hcr.out _) ?_
                rintro _ _ ⟨rfl, rfl⟩
                dsimp only
                repeat' (first | go_values | go_skip | go_guarded | go_step | go_upon)
                go_ret3
                refine ⟨.slice none 0 0, ?_, ?_, hbel⟩
                · rw [← Hfin.out]; rfl
                · rw [← Hfin.out]; exact OwnI.nil _ _ _ _
            · obtain rfl : tq = m2 := by omega
              have hfin := Hq.out
              rw [show n - j = (n - (j + 1)) + 1 from by omega, ahead_step l hv2] at hfin
              have Hfin := Lib.hid hfin; clear hfin
              rw [hv2] at hcr
              have Hcr := Lib.hid hcr; clear hcr hv2 hp2
              have Hn2 := Lib.hid hn2; clear hn2
              have hll : (nats l).length = j := by rw [nats_len]; exact hjl.symm
              have Hjl := Lib.hid hjl; clear hjl
              repeat' (first | go_values | go_skip | go_guarded | go_step | go_upon)
              refine Calls.mono (Hcr.out _) ?_
              rintro _ _ ⟨rfl, rfl⟩
              dsimp only
              repeat' (first | (at_builtin; go_loud (refine app_ints w.heap.size 8 [_] Try.underlying26 info_u64 (by decide) rfl _ _ rfl rfl rfl rfl rfl hown hsz (by omega) ?_); intro v1 w1 hown1 hb1 _) | go_values | go_skip | go_guarded | go_step | go_upon)
              go_roundw
              case rel => exact ⟨j + 1, tq + k2 + 1, l ++ [n2], by go_num, by go_num, by omega, by have := Hjl.out; simp; omega, by omega, by omega, Hfin, by rw [nats_append]; exact hown1, hbel.trans hb1⟩
              case measure => simp [intOf]; omega

set_option maxRecDepth 100000 in
set_option maxHeartbeats 400000 in
theorem wire_GetAll (s : ByteArray) (hs : s.size ≤ 1000000000000000) (a : Int) (ha : I64 a) (most : Int) (hmo : I64 most) (hb : s.size ≤ 10000000000000 ∨ most ≤ 10000000000000) (w : World) :
    Calls Try.prog 110 #[.string s, .int .i64 a, .int .i64 most] w (GotAll w.heap.size w (geta s.data.toList a most)) := by
  go_enter Try.func110, Try.ntmps110
  repeat' (first | go_values | go_skip | go_guarded | go_step | go_upon)
  refine Calls.mono (wire_list s hs a ha most hmo hb _) ?_
  rintro _ w1 ⟨v, rfl, hown, hbel⟩
  dsimp only
  repeat' (first | go_values | go_skip | go_guarded | go_step | go_upon)
  go_ret3
  exact ⟨v, rfl, hown, hbel⟩
end Go.Proofs.Ytbomloodllddaaa
/- Plain laws: numbers that are read, written again. No conditions; no program. -/
namespace Go.Proofs.Ytbomloodllddaaa
theorem getn_once (t : List UInt8) : ∀ (n m : Nat), m ≤ t.length → (getn t n m).2.2 = 0 →
    (getn t n m).1.length = n ∧ AllU64 (getn t n m).1 ∧ ∃ m' : Nat, (getn t n m).2.1 = m' ∧ m ≤ m' ∧ m' ≤ t.length ∧ (getn t n m).1.flatMap vput = (t.drop m).take (m' - m)
  | 0, m, hm, _ => ⟨rfl, (fun n hn => absurd hn (List.not_mem_nil)), m, rfl, Nat.le_refl _, hm, by simp [getn]⟩
  | n + 1, m, hm, h => by
    rcases vget_cases t m with ⟨e, hv, he⟩ | ⟨m1, k, x, hm1, hk, hmk, hp, hx, hv⟩
    · rw [getn, hv, if_pos (by show e ≠ 0; omega)] at h
      exfalso
      simp at h
      omega
    · obtain rfl : m = m1 := by omega
      have hto : (m : Int) + k + 1 = ((m + k + 1 : Nat) : Int) := by omega
      rw [getn, hv, if_neg (by simp)] at h ⊢
      dsimp only at h ⊢
      rw [hto] at h ⊢
      by_cases hq : (getn t n ((m + k + 1 : Nat) : Int)).2.2 ≠ 0
      · rw [if_pos hq] at h
        exact absurd h hq
      · rw [if_neg hq] at h ⊢
        obtain ⟨h1, h2, m', h3, h4, h5, h6⟩ := getn_once t n (m + k + 1) (by omega) (by simpa using hq)
        refine ⟨by rw [List.length_cons, h1], fun y hy => ?_, m', h3, by omega, h5, ?_⟩
        · rcases List.mem_cons.1 hy with rfl | hy
          · exact hx
          · exact h2 y hy
        · rw [List.flatMap_cons, h6, hp, show m + k + 1 = m + (k + 1) from by omega, take_drop_join]
          congr 1
          omega
/-- a list that is read, written again -/
theorem geta_once {t : List UInt8} {a most : Int} (h : (geta t a most).2.2 = 0) :
    AllU64 (geta t a most).1 ∧ ∃ m m' : Nat, a = m ∧ (geta t a most).2.1 = m' ∧ m < m' ∧ m' ≤ t.length ∧ vputs (geta t a most).1 = (t.drop m).take (m' - m) ∧ ((geta t a most).1.length : Int) ≤ max most 0 := by
  rcases vget_cases t a with ⟨e, hv, he⟩ | ⟨m, k, n, rfl, hk, hmk, hp, hn, hv⟩
  · rw [geta_bad hv (by omega)] at h
    simp at h
    omega
  · by_cases hm : max most 0 < (n : Int)
    · rw [geta_long hv hm] at h
      simp at h
    · have hto : (m : Int) + k + 1 = ((m + k + 1 : Nat) : Int) := by omega
      rw [geta_go hv hm, hto] at h ⊢
      obtain ⟨h1, h2, m', h3, h4, h5, h6⟩ := getn_once t n (m + k + 1) (by omega) h
      refine ⟨h2, m, m', rfl, h3, by omega, h5, ?_, by omega⟩
      unfold vputs
      rw [h1, hp, h6, show m + k + 1 = m + (k + 1) from by omega, take_drop_join]
      congr 1
      omega
end Go.Proofs.Ytbomloodllddaaa
