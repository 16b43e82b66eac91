/- Walks: numbers of four bytes are written and read. Conditions: the number is of 32 bits; the text is of at most 2^47 bytes. -/
import Derived.Test.YtfpfbkejcnmdkaaWirePut
namespace Go.Proofs.Ytfpfbkejcnmdkaa
open Go.RowKit
def put4 (n : Nat) : List UInt8 := [u8 n, u8 (n / 256), u8 (n / 65536), u8 (n / 16777216)]
def part4 (t : List UInt8) (a : Nat) : Nat → Nat
  | 0 => 0
  | k + 1 => part4 t a k + at8 t (a + k) * 2 ^ (8 * k)
theorem part4_lt (t : List UInt8) (a : Nat) : ∀ k, part4 t a k < 2 ^ (8 * k)
  | 0 => by simp [part4]
  | k + 1 => by
    have h := part4_lt t a k
    have hb := at8_lt t (a + k)
    have e : 2 ^ (8 * (k + 1)) = 256 * 2 ^ (8 * k) := by rw [show 8 * (k + 1) = 8 * k + 8 from by omega, Nat.pow_add]; simp [Nat.mul_comm]
    rw [part4, e]
    have : at8 t (a + k) * 2 ^ (8 * k) ≤ 255 * 2 ^ (8 * k) := Nat.mul_le_mul_right _ (by omega)
    omega
/-- what GetFour tells -/
def get4 (t : List UInt8) (a : Int) : Nat × Int × Int :=
  if a < 0 ∨ (t.length : Int) < a then (0, 0, 1) else if (t.length : Int) - a < 4 then (0, 0, 20) else (part4 t a.toNat 4, a + 4, 0)

set_option maxRecDepth 100000 in
set_option maxHeartbeats 400000 in
theorem wire_PutFour (n : Nat) (w : World) :
    Calls Try.prog 13 #[.int .u32 n] w fun e w' => e = .returned (.string ⟨(put4 n).toArray⟩) ∧ Below w.heap.size w w' := by
  go_enter Try.func13, Try.ntmps13
  repeat' (first | (with_reducible refine wp_conv_lit4 Try.underlying47 Try.underlying5 Try.underlying9 rfl _ rfl rfl ?_) | go_values | go_skip | go_guarded | go_step | go_upon)
  go_ret
  refine ⟨ret_s ?_, (Below.refl _ _).alloc (Nat.le_refl _) _⟩
  simp only [put4, List.cons.injEq, and_true]
  refine ⟨?_, ?_, ?_, ?_⟩ <;> exact u8_congr (by omega)

set_option maxRecDepth 100000 in
set_option maxHeartbeats 400000 in
theorem ref_PutFour (n : Nat) (hn : U32 n) (w : World) :
    Calls Try.prog 14 #[.int .u32 n] w fun e w' => e = .returned (.string ⟨(put4 n).toArray⟩) ∧ Below w.heap.size w w' := by
  have h1 : IntKind.u32.wrap ((n : Int) / 256) = (n : Int) / 256 := wu32 (by omega) (by unfold U32 at *; omega)
  have h2 : IntKind.u32.wrap ((n : Int) / 65536) = (n : Int) / 65536 := wu32 (by omega) (by unfold U32 at *; omega)
  have h3 : IntKind.u32.wrap ((n : Int) / 16777216) = (n : Int) / 16777216 := wu32 (by omega) (by unfold U32 at *; omega)
  go_enter Try.func14, Try.ntmps14
  repeat' (first | (with_reducible refine wp_conv_lit4 Try.underlying47 Try.underlying5 Try.underlying9 rfl _ rfl rfl ?_) | go_values | go_skip | go_guarded | go_step | go_upon)
  go_ret
  refine ⟨ret_s ?_, (Below.refl _ _).alloc (Nat.le_refl _) _⟩
  simp only [put4, List.cons.injEq, and_true]
  refine ⟨?_, ?_, ?_, ?_⟩ <;> exact u8_congr (by omega)

set_option maxRecDepth 100000 in
set_option maxHeartbeats 400000 in
theorem wire_GetFour (s : ByteArray) (hs : s.size ≤ 1000000000000000) (a : Int) (ha : I64 a) (w : World) :
    Calls Try.prog 11 #[.string s, .int .i64 a] w fun e w' => e = .returned (.tuple #[.int .u32 (get4 s.data.toList a).1, .int .i64 (get4 s.data.toList a).2.1, .int .i64 (get4 s.data.toList a).2.2]) ∧ w = w' := by
  have hl := ba_len s
  by_cases h0 : a < 0
  · have e : get4 s.data.toList a = (0, 0, 1) := by unfold get4; rw [if_pos (.inl h0)]
    rw [e]
    go_enter Try.func11, Try.ntmps11
    repeat' (first | go_values | go_skip | go_guarded | go_step | go_upon)
    go_ret3
    exact ⟨rfl, rfl⟩
  · obtain ⟨m, rfl⟩ := Int.eq_ofNat_of_zero_le (by omega : 0 ≤ a)
    by_cases h1 : (s.size : Int) < m
    · have e : get4 s.data.toList m = (0, 0, 1) := by unfold get4; rw [if_pos (.inr (by omega))]
      rw [e]
      go_enter Try.func11, Try.ntmps11
      repeat' (first | go_values | go_skip | go_guarded | go_step | go_upon)
      go_ret3
      exact ⟨rfl, rfl⟩
    · by_cases h2 : (s.size : Int) - m < 4
      · have e : get4 s.data.toList m = (0, 0, 20) := by unfold get4; rw [if_neg (by omega), if_pos (by omega)]
        rw [e]
        go_enter Try.func11, Try.ntmps11
        repeat' (first | go_values | go_skip | go_guarded | go_step | go_upon)
        go_ret3
        exact ⟨rfl, rfl⟩
      · have e : get4 s.data.toList m = (part4 s.data.toList m 4, (m : Int) + 4, 0) := by unfold get4; rw [if_neg (by omega), if_neg (by omega)]; rfl
        rw [e]
        clear e
        have hx : ∀ k, part4 s.data.toList m k < 2 ^ (8 * k) := part4_lt s.data.toList m
        have Hx := Lib.hid hx; clear hx
        go_enter Try.func11, Try.ntmps11
        repeat' (first | go_values | go_skip | go_guarded | go_step | go_upon)
        go_loop [7, 24] (fun s7 s24 => ∃ k : Nat, s24 = .int .i64 k ∧ k ≤ 4 ∧ s7 = .int .u32 (part4 s.data.toList m k)) (fun _ s => 4 - (intOf s).toNat)
        case atStart => exact ⟨0, rfl, by omega, by rw [part4]; rfl⟩
        case round =>
          obtain ⟨k, rfl, hk, rfl⟩ := hrel
          by_cases hk4 : k < 4
          · have hlt : m + k < s.size := by omega
            have hlt' : (m : Int) + k < s.size := by omega
            have hb := at8_lt s.data.toList (m + k)
            have hor := or_u32' (part4 s.data.toList m k) (at8 s.data.toList (m + k)) (8 * k) (Hx.out k) (by
              have h1 : (2 : Nat) ^ (8 * k) ≤ 2 ^ 24 := Nat.pow_le_pow_right (by omega) (by omega)
              have h2 := Nat.mul_le_mul (show at8 s.data.toList (m + k) ≤ 255 by omega) h1
              unfold U32; omega) (by omega)
            repeat' (first | go_values | go_skip | go_guarded | go_step | go_upon)
            go_round
            case rel => exact ⟨k + 1, by go_num, by omega, by rw [part4]; simp⟩
            case measure => simp [intOf]; omega
          · obtain rfl : k = 4 := by omega
            repeat' (first | go_values | go_skip | go_guarded | go_step | go_upon)
            go_ret3
            exact ⟨rfl, rfl⟩

set_option maxRecDepth 100000 in
set_option maxHeartbeats 400000 in
theorem ref_GetFour (s : ByteArray) (hs : s.size ≤ 1000000000000000) (a : Int) (ha : I64 a) (w : World) :
    Calls Try.prog 12 #[.string s, .int .i64 a] w fun e w' => e = .returned (.tuple #[.int .u32 (get4 s.data.toList a).1, .int .i64 (get4 s.data.toList a).2.1, .int .i64 (get4 s.data.toList a).2.2]) ∧ w = w' := by
  have hl := ba_len s
  by_cases h0 : a < 0
  · have e : get4 s.data.toList a = (0, 0, 1) := by unfold get4; rw [if_pos (.inl h0)]
    rw [e]
    go_enter Try.func12, Try.ntmps12
    repeat' (first | go_values | go_skip | go_guarded | go_step | go_upon)
    go_ret3
    exact ⟨rfl, rfl⟩
  · obtain ⟨m, rfl⟩ := Int.eq_ofNat_of_zero_le (by omega : 0 ≤ a)
    by_cases h1 : (s.size : Int) < m
    · have e : get4 s.data.toList m = (0, 0, 1) := by unfold get4; rw [if_pos (.inr (by omega))]
      rw [e]
      go_enter Try.func12, Try.ntmps12
      repeat' (first | go_values | go_skip | go_guarded | go_step | go_upon)
      go_ret3
      exact ⟨rfl, rfl⟩
    · by_cases h2 : (s.size : Int) - m < 4
      · have e : get4 s.data.toList m = (0, 0, 20) := by unfold get4; rw [if_neg (by omega), if_pos (by omega)]
        rw [e]
        go_enter Try.func12, Try.ntmps12
        repeat' (first | go_values | go_skip | go_guarded | go_step | go_upon)
        go_ret3
        exact ⟨rfl, rfl⟩
      · have e : get4 s.data.toList m = (part4 s.data.toList m 4, (m : Int) + 4, 0) := by unfold get4; rw [if_neg (by omega), if_neg (by omega)]; rfl
        rw [e]
        clear e
        obtain ⟨t, ht⟩ : ∃ t, t = s.data.toList := ⟨_, rfl⟩
        have hb0 := at8_lt t m
        have hb1 := at8_lt t (m + 1)
        have hb2 := at8_lt t (m + 2)
        have hb3 := at8_lt t (m + 3)
        have hg0 : m < s.size := by omega
        have hg1 : m + 1 < s.size := by omega
        have hg2 : m + 2 < s.size := by omega
        have hg3 : m + 3 < s.size := by omega
        go_enter Try.func12, Try.ntmps12
        repeat' (first | go_values | go_skip | go_guarded | go_step | go_upon)
        go_loop [7, 8] (fun s7 s8 => (s8 = .int .i64 3 ∧ s7 = .int .u32 0) ∨ (s8 = .int .i64 2 ∧ s7 = .int .u32 (at8 t (m + 3))) ∨ (s8 = .int .i64 1 ∧ s7 = .int .u32 (at8 t (m + 3) * 256 + at8 t (m + 2))) ∨ (s8 = .int .i64 0 ∧ s7 = .int .u32 ((at8 t (m + 3) * 256 + at8 t (m + 2)) * 256 + at8 t (m + 1))) ∨ (s8 = .int .i64 (-1) ∧ s7 = .int .u32 (((at8 t (m + 3) * 256 + at8 t (m + 2)) * 256 + at8 t (m + 1)) * 256 + at8 t m))) (fun _ s => (intOf s + 1).toNat)
        case atStart => exact .inl ⟨rfl, rfl⟩
        case round =>
          have hbt : ∀ i (h : i < s.size), s[i].toNat = at8 t i := fun i h => by rw [ba_at, ht]
          have Ht := Lib.hid ht; clear ht
          rcases hrel with ⟨rfl, rfl⟩ | ⟨rfl, rfl⟩ | ⟨rfl, rfl⟩ | ⟨rfl, rfl⟩ | ⟨rfl, rfl⟩
          all_goals repeat' (first | go_values | go_skip | go_guarded | go_step | go_upon)
          · go_round
            case rel => exact .inr (.inl ⟨rfl, rfl⟩)
            case measure => simp [intOf]
          · go_round
            case rel => exact .inr (.inr (.inl ⟨rfl, rfl⟩))
            case measure => simp [intOf]
          · go_round
            case rel => exact .inr (.inr (.inr (.inl ⟨rfl, rfl⟩)))
            case measure => simp [intOf]
          · go_round
            case rel => exact .inr (.inr (.inr (.inr ⟨rfl, rfl⟩)))
            case measure => simp [intOf]
          · go_ret3
            refine ⟨ret_iii ?_ rfl rfl, rfl⟩
            rw [← Ht.out]
            simp only [part4, Nat.mul_zero, Nat.add_zero]
            omega

set_option maxRecDepth 100000 in
set_option maxHeartbeats 400000 in
theorem law_WireFours (n : Nat) (hn : U32 n) (s : ByteArray) (hs : s.size ≤ 140737488351232) (a : Int) (ha : I64 a) (w : World) :
    Calls Try.prog 4 #[.int .u32 n, .string s, .int .i64 a] w fun e w' => e = .returned (.bool true) ∧ Below w.heap.size w w' := by
  go_enter Try.func4, Try.ntmps4
  repeat' (first | go_values | go_skip | go_guarded | go_step | go_upon)
  refine Calls.mono (wire_GetFour s (by omega) a ha _) ?_
  rintro _ _ ⟨rfl, rfl⟩
  dsimp only
  repeat' (first | go_values | go_skip | go_guarded | go_step | go_upon)
  refine Calls.mono (ref_GetFour s (by omega) a ha _) ?_
  rintro _ _ ⟨rfl, rfl⟩
  dsimp only
  repeat' (first | go_values | go_skip | go_guarded | go_step | go_upon)
  refine Calls.mono (wire_PutFour n _) ?_
  rintro _ w1 ⟨rfl, hb1⟩
  dsimp only
  repeat' (first | go_values | go_skip | go_guarded | go_step | go_upon)
  refine Calls.mono (ref_PutFour n hn _) ?_
  rintro _ w2 ⟨rfl, hb2⟩
  dsimp only
  repeat' (first | go_values | go_skip | go_guarded | go_step | go_upon)
  go_ret
  exact ⟨rfl, hb1.trans (hb2.mono hb1.size)⟩
end Go.Proofs.Ytfpfbkejcnmdkaa
