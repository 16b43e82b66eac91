/- Walks: lists of numbers are written (wire.PutAll, the reference's). Conditions: the numbers are of 64 bits, at most 10^13 of them. -/
import Derived.Test.YtbomloodllddaaaPk01
import Derived.Test.YtbomloodllddaaaPk00
import Derived.Test.YtbomloodllddaaaPk02
namespace Go.Proofs.Ytbomloodllddaaa
open Go.RowKit
/-- how a list is written -/
def vputs (l : List Nat) : List UInt8 := vput l.length ++ l.flatMap vput
def AllU64 (l : List Nat) : Prop := ∀ n ∈ l, U64 n
theorem vflat_len (l : List Nat) (h : AllU64 l) : (l.flatMap vput).length ≤ 10 * l.length := by
  induction l with
  | nil => simp
  | cons a l ih =>
    have h1 := vput_len10 (h a (by simp))
    have h2 := ih (fun n hn => h n (by simp [hn]))
    simp only [List.flatMap_cons, List.length_append, List.length_cons]
    omega
theorem flat_take (l : List Nat) (k : Nat) (h : k < l.length) : (l.take (k + 1)).flatMap vput = (l.take k).flatMap vput ++ vput l[k] := by
  rw [List.take_succ_eq_append_getElem h, List.flatMap_append]
  simp
theorem nats_getD (l : List Nat) (k : Nat) (h : k < l.length) : (nats l).getD k 0 = (l[k] : Int) := by simp [nats, List.getD, h]
theorem toU8s_bytes (x : List UInt8) : toU8s (x.map fun b => (b.toNat : Int)) = x := by
  induction x with
  | nil => rfl
  | cons b x ih => rw [List.map_cons, toU8s_cons, ih]; simp [u8_self]

set_option maxRecDepth 100000 in
set_option maxHeartbeats 1000000 in
theorem wire_PutAll (v : Value) (l : List Nat) (hu : AllU64 l) (hn : l.length ≤ 10000000000000) (w : World) (hr : RdI w.heap.size .u64 w v (nats l)) :
    Calls Try.prog 30 #[v] w fun e w' => e = .returned (.string ⟨(vputs l).toArray⟩) ∧ Below w.heap.size w w' := by
  obtain ⟨a, cap, rfl, hcap, hcell⟩ := hr
  rw [nats_len] at hcap hcell ⊢
  have hlu : U64 l.length := u64_small (by omega)
  have hlw : IntKind.u64.wrap (l.length : Int) = l.length := wu64 (by omega) hlu
  have hlp := vput_len10 hlu
  go_enter Try.func30, Try.ntmps30
  repeat' (first | go_values | go_skip | go_guarded | go_step | go_upon)
  refine Calls.mono (wire_Put l.length _ hlu) ?_
  rintro _ w1 ⟨rfl, hb1⟩
  dsimp only
  have hs1 := hb1.size
  repeat' (first | (with_reducible refine wp_bytes_of w.heap.size _ Try.underlying9 Try.underlying58 Try.underlying5 rfl _ rfl rfl hs1 (by unfold maxLen; omega) ?_; intro v2 w2 hown2 hb2) | go_values | go_skip | go_guarded | go_step | go_upon)
  have hb12 : Below w.heap.size w w2 := hb1.trans (hb2.mono hs1)
  clear hb1 hb2 hs1
  go_loopw [3, 13] (fun s3 s13 wr => ∃ (k : Nat) (bs : List Int), s13 = .int .i64 k ∧ k ≤ l.length ∧ OwnI w.heap.size 5 .u8 wr s3 bs ∧ Hid (toU8s bs = vput l.length ++ (l.take k).flatMap vput) ∧ bs.length ≤ 10 * (k + 1) ∧ Below w.heap.size w wr) (fun _ s13 _ => l.length - (intOf s13).toNat)
  case atStart => exact ⟨0, _, rfl, Nat.zero_le _, hown2, Lib.hid (by rw [toU8s_bytes]; simp), by simp; omega, hb12⟩
  case round =>
    obtain ⟨k, bs, rfl, hk, hown, Hbs, hbl, hbel⟩ := hrel
    have hsz := hbel.size
    by_cases hkl : k < l.length
    · rcases hcell with hcell | ⟨b, off, rfl, hbB, hcell⟩
      · have : l.length = 0 := by have := congrArg List.length hcell; rwa [nats_len] at this
        omega
      have hc0 := hcell k hkl
      rw [nats_getD l k hkl] at hc0
      obtain ⟨x, hx⟩ : ∃ x, x = l[k] := ⟨_, rfl⟩
      have hxu : U64 x := by rw [hx]; exact hu _ (List.getElem_mem hkl)
      rw [← hx] at hc0
      have Hx := Lib.hid hx; clear hx
      have hc : wr.cell? ⟨b, off + k, none⟩ = some (.int .u64 x) := by rw [hbel.cell (show b < w.heap.size from hbB)]; exact hc0
      have hxl := vput_len10 hxu
      repeat' (first | go_values | go_skip | go_guarded | go_step | go_upon)
      refine Calls.mono (wire_Put x _ hxu) ?_
      rintro _ w1 ⟨rfl, hb1⟩
      dsimp only
      have hown1 := OwnI.keep hown hb1 (Nat.le_refl _)
      have hs1 := hb1.size
      have hB1 : w.heap.size ≤ w1.heap.size := by omega
      repeat' (first | (at_builtin; go_loud (refine app_str w.heap.size _ Try.underlying58 Try.underlying9 info_u8 rfl _ _ rfl rfl rfl hown1 hB1 (by omega) ?_); intro v3 w3 hown3 hb3 _) | go_values | go_skip | go_guarded | go_step | go_upon)
      go_roundw
      case rel =>
        refine ⟨k + 1, _, by go_num, by omega, hown3, Lib.hid ?_, ?_, hbel.trans ((hb1.mono hsz).trans hb3)⟩
        · rw [toU8s_append, Hbs.out, toU8s_bytes, flat_take l k hkl, ← Hx.out, List.append_assoc]
        · simp; omega
      case measure => simp [intOf]; omega
    · obtain rfl : k = l.length := by omega
      repeat' (first | (with_reducible refine wp_conv_own Try.underlying58 Try.underlying5 Try.underlying9 rfl _ rfl rfl hown ?_) | go_values | go_skip | go_guarded | go_step | go_upon)
      go_ret
      refine ⟨ret_s ?_, hbel⟩
      rw [Hbs.out, List.take_length]
      rfl

end Go.Proofs.Ytbomloodllddaaa
/- Walks: lists of numbers are read (wire.GetAll). Conditions: the text is of at most 10^15 bytes; either it or the bound is at most 10^13. -/
namespace Go.Proofs.Ytbomloodllddaaa
open Go.RowKit
theorem info_u64 : (Try.prog.info? 66).map (fun i => (i.zero, i.size, i.bytes)) = some (some (.int .u64 0), 1, 8) := by kernel_rfl
/-- what a walk of GetAll comes to -/
def GotAll (B : Nat) (w : World) (r : List Nat × Int × Int) (e : Ending) (w' : World) : Prop :=
  ∃ v, e = .returned (.tuple #[v, .int .i64 r.2.1, .int .i64 r.2.2]) ∧ OwnI B 66 .u64 w' v (nats r.1) ∧ Below B w w'

set_option maxRecDepth 100000 in
set_option maxHeartbeats 1000000 in
theorem wire_list (s : ByteArray) (hs : s.size ≤ 1000000000000000) (a : Int) (ha : I64 a) (most : Int) (hmo : I64 most) (hb : s.size ≤ 10000000000000 ∨ most ≤ 10000000000000) (w : World) :
    Calls Try.prog 126 #[.string s, .int .i64 a, .int .i64 most, .func (.func 107) #[] #[]] w (GotAll w.heap.size w (geta s.data.toList a most)) := by
  have hl := ba_len s
  have hc := wire_Get s hs a ha
  rcases vget_cases s.data.toList a with ⟨e, hv, he⟩ | ⟨m, k, n, rfl, hk, hmk, hp, hn, hv⟩
  · rw [geta_bad hv (by omega)]
    rw [hv] at hc
    have Hc := Lib.hid hc; clear hc hv
    rcases he with rfl | rfl | rfl
    all_goals
      go_enter Try.func126, Try.ntmps126
      repeat' (first | go_values | go_skip | go_guarded | go_step | go_upon)
      refine Calls.mono (Hc.out _) ?_
      rintro _ _ ⟨rfl, rfl⟩
      dsimp only
      repeat' (first | go_values | go_skip | go_guarded | go_step | go_upon)
      go_ret3
      exact ⟨_, rfl, OwnI.nil _ _ _ _, Below.refl _ _⟩
  · rw [hv] at hc
    have Hc := Lib.hid hc; clear hc
    have Hn : Hid (U64 n) := Lib.hid hn
    clear hn hp
    have hM0 : 0 ≤ max most 0 := by omega
    have HM : Hid (IntKind.u64.wrap (max most 0) = max most 0) := Lib.hid (wu64 hM0 (by
      rcases Int.le_total 0 most with h | h
      · rw [Int.max_eq_left h]; exact hmo.u64
      · rw [Int.max_eq_right h]; exact u64_small (by omega)))
    obtain ⟨M, hM⟩ : ∃ M : Int, M = max most 0 := ⟨_, rfl⟩
    have Hv := Lib.hid hv; clear hv
    rw [← hM] at HM
    have hmw := HM.out
    by_cases h1 : M < n
    · rw [geta_long Hv.out (by omega)]
      by_cases hmn : most < 0
      · obtain rfl : M = 0 := by omega
        clear hM
        go_enter Try.func126, Try.ntmps126
        repeat' (first | go_values | go_skip | go_guarded | go_step | go_upon)
        refine Calls.mono (Hc.out _) ?_
        rintro _ _ ⟨rfl, rfl⟩
        dsimp only
        repeat' (first | go_values | go_skip | go_guarded | go_step | go_upon)
        go_ret3
        exact ⟨_, rfl, OwnI.nil _ _ _ _, Below.refl _ _⟩
      · obtain rfl : M = most := by omega
        clear hM
        have hmn' : 0 ≤ M := by omega
        go_enter Try.func126, Try.ntmps126
        repeat' (first | go_values | go_skip | go_guarded | go_step | go_upon)
        refine Calls.mono (Hc.out _) ?_
        rintro _ _ ⟨rfl, rfl⟩
        dsimp only
        repeat' (first | go_values | go_skip | go_guarded | go_step | go_upon)
        go_ret3
        exact ⟨_, rfl, OwnI.nil _ _ _ _, Below.refl _ _⟩
    · rw [geta_go Hv.out (by omega)]
      have hnb : s.size ≤ 10000000000000 ∨ n ≤ 10000000000000 := by omega
      clear hb
      obtain ⟨r, hr⟩ : ∃ r, r = getn s.data.toList n ((m : Int) + k + 1) := ⟨_, rfl⟩
      rw [← hr]
      have Hr := Lib.hid hr; clear hr
      have hto : m + k + 1 ≤ s.size := by omega
      have hstart : ahead [] (getn s.data.toList (n - 0) ((m : Int) + k + 1)) = r := by rw [Hr.out, Nat.sub_zero]; exact ahead_nil _ _ _
      have Hst := Lib.hid hstart; clear hstart
      by_cases hmn : most < 0
      · obtain rfl : M = 0 := by omega
        clear hM
        obtain rfl : n = 0 := by omega
        go_enter Try.func126, Try.ntmps126
        repeat' (first | go_values | go_skip | go_guarded | go_step | go_upon)
        refine Calls.mono (Hc.out _) ?_
        rintro _ _ ⟨rfl, rfl⟩
        dsimp only
        repeat' (first | go_values | go_skip | go_guarded | go_step | go_upon)
        refine wp_loop_once ?_
        repeat' (first | go_values | go_skip | go_guarded | go_step | go_upon)
        go_ret3
        refine ⟨.slice none 0 0, ?_, ?_, Below.refl _ _⟩
        · rw [Hr.out]; rfl
        · rw [Hr.out]; exact OwnI.nil _ _ _ _
      · obtain rfl : M = most := by omega
        clear hM
        have hmn' : 0 ≤ M := by omega
        go_enter Try.func126, Try.ntmps126
        repeat' (first | go_values | go_skip | go_guarded | go_step | go_upon)
        refine Calls.mono (Hc.out _) ?_
        rintro _ _ ⟨rfl, rfl⟩
        dsimp only
        repeat' (first | go_values | go_skip | go_guarded | go_step | go_upon)
        go_loopw [1, 13, 31] (fun s1 s13 s31 wr => ∃ (j tq : Nat) (l : List Nat), s1 = .int .i64 tq ∧ s31 = .int .u64 j ∧ j ≤ n ∧ j = l.length ∧ j ≤ tq ∧ tq ≤ s.size ∧ Hid (ahead l (getn s.data.toList (n - j) tq) = r) ∧ OwnI w.heap.size 66 .u64 wr s13 (nats l) ∧ Below w.heap.size w wr) (fun _ _ s31 _ => n - (intOf s31).toNat)
        case atStart => exact ⟨0, m + k + 1, [], by go_num, rfl, Nat.zero_le _, rfl, Nat.zero_le _, hto, by rw [show ((m + k + 1 : Nat) : Int) = (m : Int) + k + 1 from by omega]; exact Hst, OwnI.nil _ _ _ _, Below.refl _ _⟩
        case round =>
          obtain ⟨j, tq, l, rfl, rfl, hj, hjl, hjt, htl, Hq, hown, hbel⟩ := hrel
          have hsz := hbel.size
          have hcr := wire_Get s hs tq (i64_small (by omega))
          by_cases hjn : j = n
          · subst hjn
            repeat' (first | go_values | go_skip | go_guarded | go_step | go_upon)
            go_ret3
            have h := Hq.out
            rw [Nat.sub_self, ahead_zero] at h
            refine ⟨u13, ?_, ?_, hbel⟩
            · rw [← h]; rfl
            · rw [← h]; exact hown
          · have hjn' : j < n := by omega
            have hwj : IntKind.u64.wrap ((j : Int) + 1) = (j : Int) + 1 := wu64 (by omega) (Hn.out.le (by omega))
            rcases vget_cases s.data.toList tq with ⟨e, hv2, he⟩ | ⟨m2, k2, n2, hm2, hk2, hmk2, hp2, hn2, hv2⟩
            · have hfin := Hq.out
              rw [show n - j = (n - j - 1) + 1 from by omega, ahead_bad l hv2 (by omega)] at hfin
              have Hfin := Lib.hid hfin; clear hfin
              rw [hv2] at hcr
              have Hcr := Lib.hid hcr; clear hcr hv2
              rcases he with rfl | rfl | rfl
              all_goals
                repeat' (first | go_values | go_skip | go_guarded | go_step | go_upon)
                refine Calls.mono (Hcr.out _) ?_
                rintro _ _ ⟨rfl, rfl⟩
                dsimp only
                repeat' (first | go_values | go_skip | go_guarded | go_step | go_upon)
                go_ret3
                refine ⟨.slice none 0 0, ?_, ?_, hbel⟩
                · rw [← Hfin.out]; rfl
                · rw [← Hfin.out]; exact OwnI.nil _ _ _ _
            · obtain rfl : tq = m2 := by omega
              have hfin := Hq.out
              rw [show n - j = (n - (j + 1)) + 1 from by omega, ahead_step l hv2] at hfin
              have Hfin := Lib.hid hfin; clear hfin
              rw [hv2] at hcr
              have Hcr := Lib.hid hcr; clear hcr hv2 hp2
              have Hn2 := Lib.hid hn2; clear hn2
              have hll : (nats l).length = j := by rw [nats_len]; exact hjl.symm
              have Hjl := Lib.hid hjl; clear hjl
              repeat' (first | go_values | go_skip | go_guarded | go_step | go_upon)
              refine Calls.mono (Hcr.out _) ?_
              rintro _ _ ⟨rfl, rfl⟩
              dsimp only
              repeat' (first | (at_builtin; go_loud (refine app_ints w.heap.size 8 [_] Try.underlying26 info_u64 (by decide) rfl _ _ rfl rfl rfl rfl rfl hown hsz (by omega) ?_); intro v1 w1 hown1 hb1 _) | go_values | go_skip | go_guarded | go_step | go_upon)
              go_roundw
              case rel => exact ⟨j + 1, tq + k2 + 1, l ++ [n2], by go_num, by go_num, by omega, by have := Hjl.out; simp; omega, by omega, by omega, Hfin, by rw [nats_append]; exact hown1, hbel.trans hb1⟩
              case measure => simp [intOf]; omega

set_option maxRecDepth 100000 in
set_option maxHeartbeats 400000 in
theorem wire_GetAll (s : ByteArray) (hs : s.size ≤ 1000000000000000) (a : Int) (ha : I64 a) (most : Int) (hmo : I64 most) (hb : s.size ≤ 10000000000000 ∨ most ≤ 10000000000000) (w : World) :
    Calls Try.prog 110 #[.string s, .int .i64 a, .int .i64 most] w (GotAll w.heap.size w (geta s.data.toList a most)) := by
  go_enter Try.func110, Try.ntmps110
  repeat' (first | go_values | go_skip | go_guarded | go_step | go_upon)
  refine Calls.mono (wire_list s hs a ha most hmo hb _) ?_
  rintro _ w1 ⟨v, rfl, hown, hbel⟩
  dsimp only
  repeat' (first | go_values | go_skip | go_guarded | go_step | go_upon)
  go_ret3
  exact ⟨v, rfl, hown, hbel⟩
end Go.Proofs.Ytbomloodllddaaa
