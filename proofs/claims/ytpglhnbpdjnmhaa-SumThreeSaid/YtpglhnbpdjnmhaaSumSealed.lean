/- Walk: a text with its sum behind it, of which bits within 32 are turned, has not its sum behind it (SumSealed). Conditions: the text is of at most 2^47 bytes; the numbers are ints and of 32 bits. -/
import Derived.Test.YtpglhnbpdjnmhaaSumBursts
import Derived.Test.YtpglhnbpdjnmhaaRegion
namespace Go.Proofs.Ytpglhnbpdjnmhaa
open Go.RowKit
def fourOf (n : Nat) : List UInt8 := [u8 n, u8 (n / 256), u8 (n / 65536), u8 (n / 16777216)]
theorem num_fourOf (n : Nat) (h : n < 4294967296) : num (fourOf n) = n := by
  have e2 : n / 256 / 256 = n / 65536 := by omega
  have e3 : n / 65536 / 256 = n / 16777216 := by omega
  have e4 : n / 16777216 / 256 = 0 := by omega
  have h1 := xor_low8 (n / 16777216)
  have h2 := xor_low8 (n / 65536)
  have h3 := xor_low8 (n / 256)
  rw [e4] at h1; rw [e3] at h2; rw [e2] at h3
  unfold fourOf
  rw [num, num, num, num, num, u8_toNat, u8_toNat, u8_toNat, u8_toNat, h1, h2, h3, xor_low8]
/-- what the register is behind any text with its sum behind it -/
theorem reg_sealed (u : List UInt8) : reg (inv32 0) (u ++ fourOf (sumOn 0 u)) = stps 32 4294967295 := by
  have hl := reg_lt (inv32_lt 0) u
  rw [reg_append, reg_num (fourOf _), num_fourOf _ (sumOn_lt 0 u), show 8 * (fourOf (sumOn 0 u)).length = 32 from rfl]
  congr 1
  unfold sumOn
  rw [inv32_xor hl, Nat.xor_comm 4294967295, xor_same]
theorem sum_sealed (u : List UInt8) : sumOn 0 (u ++ fourOf (sumOn 0 u)) = inv32 (stps 32 4294967295) := by
  conv => lhs; unfold sumOn
  exact congrArg inv32 (reg_sealed u)
theorem slice_hi {P : Program} {ty : TypeId} (hu : P.underlying ty = some .string) (l : List UInt8) (i : Int) (n : Nat) (hi : i = n) (hn : n ≤ l.length) (wx : World) :
    (Instr.slice ty (.string ⟨l.toArray⟩) none (some (.int .i64 i)) none).run P wx = .ok (.string ⟨(l.take n).toArray⟩) wx := by
  have hsz : (⟨l.toArray⟩ : ByteArray).size = l.length := rfl
  rw [run_slice_string_h (ht := hu) (kh := .i64) (h := i) (h0 := by omega) (h2 := by rw [hsz]; omega), ba_extract]
  subst hi
  simp
theorem slice_lo {P : Program} {ty : TypeId} (hu : P.underlying ty = some .string) (l : List UInt8) (i : Int) (n : Nat) (hi : i = n) (hn : n ≤ l.length) (wx : World) :
    (Instr.slice ty (.string ⟨l.toArray⟩) (some (.int .i64 i)) none none).run P wx = .ok (.string ⟨(l.drop n).toArray⟩) wx := by
  have hsz : (⟨l.toArray⟩ : ByteArray).size = l.length := rfl
  rw [run_slice_string_l (ht := hu) (kl := .i64) (l := i) (h0 := by omega) (h1 := by rw [hsz]; omega), ba_extract]
  subst hi
  rw [hsz, Int.toNat_natCast]
  have e : (l.drop n).take (l.length - n) = l.drop n := List.take_of_length_le (by simp)
  rw [e]
set_option maxRecDepth 100000 in
set_option maxHeartbeats 400000 in
theorem law_four (n : Nat) (w : World) :
    Calls Try.prog 15 #[.int .u32 n] w fun e w' => e = .returned (.string ⟨(fourOf n).toArray⟩) ∧ Below w.heap.size w w' := by
  go_enter Try.func15, Try.ntmps15
  repeat' (first | (with_reducible refine wp_conv_lit4 Try.underlying32 Try.underlying5 Try.underlying9 rfl _ rfl rfl ?_) | go_values | go_skip | go_guarded | go_step | go_upon)
  go_ret
  refine ⟨ret_s ?_, (Below.refl _ _).alloc (Nat.le_refl _) _⟩
  simp only [fourOf, List.cons.injEq, and_true]
  refine ⟨?_, ?_, ?_, ?_⟩ <;> exact u8_congr (by omega)
theorem ba_app (a b : List UInt8) : (⟨a.toArray⟩ : ByteArray) ++ ⟨b.toArray⟩ = ⟨(a ++ b).toArray⟩ := by
  apply ByteArray.ext
  apply Array.ext'
  simp

set_option maxRecDepth 100000 in
set_option maxHeartbeats 400000 in
theorem law_SumSealed (s : ByteArray) (hs : s.size ≤ 140737488351232) (a : Int) (ha : I64 a) (p : Nat) (hp : U32 p) (w : World) :
    Calls Try.prog 5 #[.string s, .int .i64 a, .int .u32 p] w fun e w' => e = .returned (.bool true) ∧ Below w.heap.size w w' := by
  have hle := short_le s
  have h1 := law_short s hs w
  generalize short s = u at hle h1
  clear hs
  obtain ⟨l, rfl⟩ := ba_list u
  have hsz : (⟨l.toArray⟩ : ByteArray).size = l.length := rfl
  rw [hsz] at hle
  have ho := sum_Of ⟨l.toArray⟩ (by rw [hsz]; omega)
  rw [show (⟨l.toArray⟩ : ByteArray).data.toList = l from rfl] at ho
  obtain ⟨all, hall⟩ : ∃ all, l ++ fourOf (sumOn 0 l) = all := ⟨_, rfl⟩
  have hsa := sum_sealed l
  rw [hall] at hsa
  have hal : all.length = l.length + 4 := by rw [← hall, List.length_append]; rfl
  have hap : (⟨l.toArray⟩ : ByteArray) ++ ⟨(fourOf (sumOn 0 l)).toArray⟩ = ⟨all.toArray⟩ := by rw [ba_app, hall]
  have hfl : (fourOf (sumOn 0 l)).length = 4 := rfl
  have hf := law_four (sumOn 0 l)
  generalize sumOn 0 l = x at ho hall hap hf hfl
  generalize fourOf x = f at hall hap hf hfl
  clear hall
  have hpos : (0 : Int) < 8 * all.length := by omega
  obtain ⟨k, hk⟩ : ∃ k : Nat, k = (place a % (8 * all.length)).toNat := ⟨_, rfl⟩
  unfold I64 at ha
  have hpl : 0 ≤ place a ∧ place a ≤ 9223372036854775807 := by unfold place; split <;> omega
  have hk1 : place a % (8 * all.length) = (k : Int) := by rw [hk]; exact (Int.toNat_of_nonneg (Int.emod_nonneg _ (Int.ne_of_gt hpos))).symm
  have hk2 : k < 8 * all.length := by have := Int.emod_lt_of_pos (place a) hpos; rw [hk1] at this; omega
  have ht := ref_Turned ⟨all.toArray⟩ (by show all.length ≤ _; omega) k hk2 p hp
  rw [show (⟨all.toArray⟩ : ByteArray).data.toList = all from rfl] at ht
  have h8 : ((8 * (all.length : Int)) == 0) = false := beq_false_of_ne (by omega)
  have hneg : a < 0 → IntKind.i64.wrap (-(a + 1)) = -(a + 1) := fun h => wi64 (by unfold I64; omega)
  -- what a turned text is
  have hturn : ∀ t : List UInt8, IsTurned all t k 32 → t.drop (t.length - 4) = fourOf (sumOn 0 (t.take (t.length - 4))) → all = t := fun t htt hd =>
    IsTurned.alike htt (by omega) 0 (by rw [hsa, ← sum_sealed (t.take (t.length - 4)), ← hd, List.take_append_drop])
  clear hsa hsz
  by_cases hn : a < 0
  · have hw := hneg hn
    have hm : (-(a + 1)).tmod (8 * (all.length : Int)) = (k : Int) := by rw [Int.tmod_eq_emod_of_nonneg (show 0 ≤ -(a + 1) by omega), ← hk1]; unfold place; rw [if_pos hn]
    clear hneg hk hk1 hpl
    have hal1 : 4 ≤ all.length := by omega
    have hal2 : all.length ≤ 20004 := by omega
    clear hal
    go_enter Try.func5, Try.ntmps5
    repeat' (first | go_values | go_skip | go_guarded | go_step | go_upon)
    refine Calls.mono (h1) ?_
    rintro _ _ ⟨rfl, rfl⟩
    dsimp only
    clear h1
    repeat' (first | go_values | go_skip | go_guarded | go_step | go_upon)
    refine Calls.mono (ho _) ?_
    rintro _ w1 ⟨rfl, hb1⟩
    dsimp only
    repeat' (first | go_values | go_skip | go_guarded | go_step | go_upon)
    refine Calls.mono (hf _) ?_
    rintro _ w2 ⟨rfl, hb2⟩
    dsimp only
    have hb3 := hb1.trans (hb2.mono hb1.size)
    clear hb1 hb2
    repeat' (first | go_values | go_skip | go_guarded | go_step | go_upon)
    refine Calls.mono (ht _) ?_
    rintro _ w4 ⟨⟨t, rfl, htt⟩, hb4⟩
    dsimp only
    have hb5 := hb3.trans (hb4.mono hb3.size)
    clear ht ho hf hb4 hb3 hk2
    have htl1 : 4 ≤ t.length := by rw [htt.1]; exact hal1
    have htl2 : t.length ≤ 20004 := by rw [htt.1]; exact hal2
    have hpart := hturn t htt
    clear hturn htt
    by_cases hat : t = all
    · have e1 : (t == all) = true := by rw [hat]; simp
      clear hat hpart
      repeat' (first | go_values | go_skip | go_guarded | go_step | go_upon)
      refine wp_region_wb (by kernel_rfl) (by kernel_rfl) w hb5 ?_
      repeat (go_big_quiet_step ((fail)))
      refine wpQuiet_nil ?_
      rintro _ ⟨nq, rfl⟩
      have hnq := nq.2
      repeat' (first | go_values | go_skip | go_guarded | go_step | go_upon)
      go_ret
      exact ⟨rfl, hnq⟩
    · have e1 : (t == all) = false := by simpa using hat
      obtain ⟨n, hn4⟩ : ∃ n, t.length = n + 4 := ⟨t.length - 4, by omega⟩
      rw [show t.length - 4 = n from by omega] at hpart
      have hlo := slice_lo (P := Try.prog) Try.underlying9 t ((t.length : Int) - 4) n (by omega) (by omega)
      have hhi := slice_hi (P := Try.prog) Try.underlying9 t ((t.length : Int) - 4) n (by omega) (by omega)
      have hc1 := sum_Of ⟨(t.take n).toArray⟩ (by show (t.take n).length ≤ _; rw [List.length_take]; omega)
      rw [show (⟨(t.take n).toArray⟩ : ByteArray).data.toList = t.take n from rfl] at hc1
      have hc2 := law_four (sumOn 0 (t.take n))
      have e2 : (t.drop n == fourOf (sumOn 0 (t.take n))) = false := by simpa using fun h => hat (hpart h).symm
      clear hpart hat
      generalize fourOf (sumOn 0 (t.take n)) = f2 at hc2 e2
      generalize sumOn 0 (t.take n) = x2 at hc1 hc2
      generalize t.take n = tk at hc1 hhi
      generalize t.drop n = td at hlo e2
      clear hn4
      have Hc1 := Lib.hid hc1
      have Hc2 := Lib.hid hc2
      clear hc1 hc2
      repeat' (first | go_values | go_skip | go_guarded | go_step | go_upon)
      refine wp_region_wb (by kernel_rfl) (by kernel_rfl) w hb5 ?_
      repeat (go_big_quiet_step ((first | (go_at_call 10; exact calls_wb (Hc1.out _)) | (go_at_call 15; exact calls_wb (Hc2.out _)))))
      refine wpQuiet_nil ?_
      rintro _ ⟨nq, rfl⟩
      have hnq := nq.2
      repeat' (first | go_values | go_skip | go_guarded | go_step | go_upon)
      go_ret
      exact ⟨rfl, hnq⟩
  · have hm : a.tmod (8 * (all.length : Int)) = (k : Int) := by rw [Int.tmod_eq_emod_of_nonneg (show 0 ≤ a by omega), ← hk1]; unfold place; rw [if_neg hn]
    clear hneg hk hk1 hpl
    have hal1 : 4 ≤ all.length := by omega
    have hal2 : all.length ≤ 20004 := by omega
    clear hal
    go_enter Try.func5, Try.ntmps5
    repeat' (first | go_values | go_skip | go_guarded | go_step | go_upon)
    refine Calls.mono (h1) ?_
    rintro _ _ ⟨rfl, rfl⟩
    dsimp only
    clear h1
    repeat' (first | go_values | go_skip | go_guarded | go_step | go_upon)
    refine Calls.mono (ho _) ?_
    rintro _ w1 ⟨rfl, hb1⟩
    dsimp only
    repeat' (first | go_values | go_skip | go_guarded | go_step | go_upon)
    refine Calls.mono (hf _) ?_
    rintro _ w2 ⟨rfl, hb2⟩
    dsimp only
    have hb3 := hb1.trans (hb2.mono hb1.size)
    clear hb1 hb2
    repeat' (first | go_values | go_skip | go_guarded | go_step | go_upon)
    refine Calls.mono (ht _) ?_
    rintro _ w4 ⟨⟨t, rfl, htt⟩, hb4⟩
    dsimp only
    have hb5 := hb3.trans (hb4.mono hb3.size)
    clear ht ho hf hb4 hb3 hk2
    have htl1 : 4 ≤ t.length := by rw [htt.1]; exact hal1
    have htl2 : t.length ≤ 20004 := by rw [htt.1]; exact hal2
    have hpart := hturn t htt
    clear hturn htt
    by_cases hat : t = all
    · have e1 : (t == all) = true := by rw [hat]; simp
      clear hat hpart
      repeat' (first | go_values | go_skip | go_guarded | go_step | go_upon)
      refine wp_region_wb (by kernel_rfl) (by kernel_rfl) w hb5 ?_
      repeat (go_big_quiet_step ((fail)))
      refine wpQuiet_nil ?_
      rintro _ ⟨nq, rfl⟩
      have hnq := nq.2
      repeat' (first | go_values | go_skip | go_guarded | go_step | go_upon)
      go_ret
      exact ⟨rfl, hnq⟩
    · have e1 : (t == all) = false := by simpa using hat
      obtain ⟨n, hn4⟩ : ∃ n, t.length = n + 4 := ⟨t.length - 4, by omega⟩
      rw [show t.length - 4 = n from by omega] at hpart
      have hlo := slice_lo (P := Try.prog) Try.underlying9 t ((t.length : Int) - 4) n (by omega) (by omega)
      have hhi := slice_hi (P := Try.prog) Try.underlying9 t ((t.length : Int) - 4) n (by omega) (by omega)
      have hc1 := sum_Of ⟨(t.take n).toArray⟩ (by show (t.take n).length ≤ _; rw [List.length_take]; omega)
      rw [show (⟨(t.take n).toArray⟩ : ByteArray).data.toList = t.take n from rfl] at hc1
      have hc2 := law_four (sumOn 0 (t.take n))
      have e2 : (t.drop n == fourOf (sumOn 0 (t.take n))) = false := by simpa using fun h => hat (hpart h).symm
      clear hpart hat
      generalize fourOf (sumOn 0 (t.take n)) = f2 at hc2 e2
      generalize sumOn 0 (t.take n) = x2 at hc1 hc2
      generalize t.take n = tk at hc1 hhi
      generalize t.drop n = td at hlo e2
      clear hn4
      have Hc1 := Lib.hid hc1
      have Hc2 := Lib.hid hc2
      clear hc1 hc2
      repeat' (first | go_values | go_skip | go_guarded | go_step | go_upon)
      refine wp_region_wb (by kernel_rfl) (by kernel_rfl) w hb5 ?_
      repeat (go_big_quiet_step ((first | (go_at_call 10; exact calls_wb (Hc1.out _)) | (go_at_call 15; exact calls_wb (Hc2.out _)))))
      refine wpQuiet_nil ?_
      rintro _ ⟨nq, rfl⟩
      have hnq := nq.2
      repeat' (first | go_values | go_skip | go_guarded | go_step | go_upon)
      go_ret
      exact ⟨rfl, hnq⟩
end Go.Proofs.Ytpglhnbpdjnmhaa
