/- Walk: the document's sum, bit by bit (fretsawref03.On). Conditions: the sum is of 32 bits; the text is of at most 10^15 bytes. -/
import Derived.Test.YtpalafbapehodaaSumSpec
import Derived.Test.YtpalafbapehodaaProg
namespace Go.Proofs.Ytpalafbapehodaa
open Go.RowKit
theorem ret_u32 {a b : Nat} (h : a = b) : Ending.returned (.int .u32 (a : Int)) = Ending.returned (.int .u32 (b : Int)) := by rw [h]
theorem u32_le {n : Nat} (h : U32 n) : n < 4294967296 := by unfold U32 at h; omega
theorem le_u32 {n : Nat} (h : n < 4294967296) : U32 n := by unfold U32; omega

set_option maxRecDepth 100000 in
set_option maxHeartbeats 400000 in
theorem ref_step (c : Nat) (hc : c < 4294967296) (d : Nat) (hd : d < 2) (w : World) :
    Calls Try.prog 44 #[.int .u32 c, .int .u32 d] w fun e w' => e = .returned (.int .u32 (stp (c ^^^ d) : Nat)) ∧ w = w' := by
  have hx : bits .xor .u32 ((c : Int) / 2) 3988292384 = ((c / 2 ^^^ poly : Nat) : Int) := u32_xor_nat (c / 2) poly (by omega) (by decide)
  have hdiv : (c ^^^ d) / 2 = c / 2 := by rw [xor_div2, show d / 2 = 0 from by omega, Nat.xor_zero]
  by_cases h : c % 2 = d
  · have e : stp (c ^^^ d) = c / 2 := by unfold stp; rw [if_neg (by rw [xor_mod2]; omega), hdiv]
    rw [e]
    have ht : ((c : Int) % 2 != (d : Int)) = false := by simp; omega
    go_enter Try.func44, Try.ntmps44
    repeat' (first | go_values | go_skip | go_guarded | go_step | go_upon)
    all_goals go_ret
    all_goals exact ⟨by simp, rfl⟩
  · have e : stp (c ^^^ d) = c / 2 ^^^ poly := by unfold stp; rw [if_pos (by rw [xor_mod2]; omega), hdiv]
    rw [e]
    have ht : ((c : Int) % 2 != (d : Int)) = true := by simp; omega
    go_enter Try.func44, Try.ntmps44
    repeat' (first | go_values | go_skip | go_guarded | go_step | go_upon)
    all_goals go_ret
    all_goals exact ⟨rfl, rfl⟩

theorem take_at (s : ByteArray) (k : Nat) (hk : k < s.size) : s.data.toList.take (k + 1) = s.data.toList.take k ++ [s[k]] := by
  rw [List.take_succ_eq_append_getElem (by simpa using hk)]
  rfl
theorem reg_at (c : Nat) (s : ByteArray) (k : Nat) (hk : k < s.size) : reg c (s.data.toList.take (k + 1)) = stps 8 (reg c (s.data.toList.take k) ^^^ s[k].toNat) := by rw [take_at s k hk, reg_snoc]
set_option maxRecDepth 100000 in
set_option maxHeartbeats 400000 in
theorem ref_On (c : Nat) (hc : U32 c) (s : ByteArray) (hs : s.size ≤ 1000000000000000) (w : World) :
    Calls Try.prog 37 #[.int .u32 c, .string s] w fun e w' => e = .returned (.int .u32 (sumOn c s.data.toList : Nat)) ∧ w = w' := by
  have hc' := u32_le hc
  have e0 : (4294967295 : Int) - (c : Int) = ((inv32 c : Nat) : Int) := by unfold inv32; omega
  have hi := inv32_lt c
  obtain ⟨r, hr⟩ : ∃ r, sumOn c s.data.toList = r := ⟨_, rfl⟩
  rw [hr]
  have Hr := Lib.hid hr; clear hr
  have ew : IntKind.u32.wrap (4294967295 - (c : Int)) = 4294967295 - (c : Int) := IntWalk.u32_in _ (by omega)
  go_enter Try.func37, Try.ntmps37
  repeat' (first | go_values | go_skip | go_guarded | go_step | go_upon)
  go_loop [0, 5] (fun s0 s5 => ∃ k x : Nat, s5 = .int .i64 k ∧ k ≤ s.size ∧ s0 = .int .u32 x ∧ x < 4294967296 ∧ Hid (x = reg (inv32 c) (s.data.toList.take k))) (fun _ s5 => s.size - (intOf s5).toNat)
  case atStart => exact ⟨0, inv32 c, rfl, Nat.zero_le _, rfl, hi, Lib.hid (by rw [List.take_zero, reg_nil])⟩
  case round =>
    obtain ⟨k, x, rfl, hk, rfl, hx, Hx⟩ := hrel
    by_cases hlt : k < s.size
    · have hlt' : (k : Int) < s.size := by omega
      obtain ⟨b, hb⟩ : ∃ b, s[k].toNat = b := ⟨_, rfl⟩
      have hbl : b < 256 := by rw [← hb]; exact s[k].toNat_lt
      have hst := reg_at (inv32 c) s k hlt
      rw [← Hx.out, hb] at hst
      have Hst := Lib.hid hst; clear hst
      have hbw : IntKind.u32.wrap (b : Int) = b := IntWalk.u32_in _ (by omega)
      repeat' (first | go_values | go_skip | go_guarded | go_step | go_upon)
      go_loop [0, 6, 7] (fun s0 s6 s7 => ∃ j y d : Nat, s7 = .int .i64 j ∧ j ≤ 8 ∧ s0 = .int .u32 y ∧ y < 4294967296 ∧ s6 = .int .u32 d ∧ d < 2 ^ (8 - j) ∧ d < 256 ∧ Hid (stps (8 - j) (y ^^^ d) = stps 8 (x ^^^ b))) (fun _ _ s7 => 8 - (intOf s7).toNat)
      case atStart => exact ⟨0, x, b, rfl, by omega, rfl, hx, rfl, hbl, hbl, Lib.hid rfl⟩
      case round =>
        obtain ⟨j, y, d, rfl, hj, rfl, hy, rfl, hd, hd2, Hy⟩ := hrel
        by_cases hj8 : j < 8
        · repeat' (first | go_values | go_skip | go_guarded | go_step | go_upon)
          have hdm : ((d : Int) % 2) = ((d % 2 : Nat) : Int) := by omega
          rw [hdm]
          refine Calls.mono (ref_step y hy (d % 2) (by omega) _) ?_
          rintro _ _ ⟨rfl, rfl⟩
          dsimp only
          repeat' (first | go_values | go_skip | go_guarded | go_step | go_upon)
          go_round
          case rel => exact ⟨j + 1, _, d / 2, by go_num, by omega, rfl, stp_lt (Nat.xor_lt_two_pow (n := 32) hy (by omega)), by simp, by
            have e : 2 ^ (8 - j) = 2 * 2 ^ (8 - (j + 1)) := by rw [show 8 - j = (8 - (j + 1)) + 1 from by omega, Nat.pow_succ, Nat.mul_comm]
            omega, by omega, Lib.hid (by
              rw [← Hy.out, show 8 - j = (8 - (j + 1)) + 1 from by omega, stps, stp_bit y d])⟩
          case measure => simp [intOf]; omega
        · obtain rfl : j = 8 := by omega
          obtain rfl : d = 0 := by simpa using hd
          have hy' := Hy.out
          rw [Nat.sub_self, stps, Nat.xor_zero] at hy'
          repeat' (first | go_values | go_skip | go_guarded | go_step | go_upon)
          go_round
          case rel => exact ⟨k + 1, y, by go_num, hlt, rfl, hy, Lib.hid (by rw [hy', Hst.out])⟩
          case measure => simp [intOf]; omega
    · obtain rfl : k = s.size := by omega
      have e2 : (4294967295 : Int) - (x : Int) = ((inv32 x : Nat) : Int) := by unfold inv32; omega
      have ew2 : IntKind.u32.wrap (4294967295 - (x : Int)) = 4294967295 - (x : Int) := IntWalk.u32_in _ (by omega)
      repeat' (first | go_values | go_skip | go_guarded | go_step | go_upon)
      go_ret
      exact ⟨by
        have hx' := Hx.out
        rw [List.take_of_length_le (by simp)] at hx'
        rw [← Hr.out]
        exact ret_u32 (by rw [hx']; rfl), rfl⟩
set_option maxRecDepth 100000 in
theorem ref_Of (s : ByteArray) (hs : s.size ≤ 1000000000000000) (w : World) :
    Calls Try.prog 27 #[.string s] w fun e w' => e = .returned (.int .u32 (sumOn 0 s.data.toList : Nat)) ∧ w = w' := by
  go_enter Try.func27, Try.ntmps27
  repeat' (first | go_values | go_skip | go_guarded | go_step | go_upon)
  refine Calls.mono (ref_On 0 (by unfold U32; omega) s hs _) ?_
  rintro _ _ ⟨rfl, rfl⟩
  dsimp only
  repeat' (first | go_values | go_skip | go_guarded | go_step | go_upon)
  go_ret
  exact ⟨rfl, rfl⟩
end Go.Proofs.Ytpalafbapehodaa
