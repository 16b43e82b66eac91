/- Walk: a number is read (wire.Get). Condition: the text is of at most 10^15 bytes. -/
import Derived.Test.YtpelngkhipcneaaDoorWirePut
namespace Go.Proofs.YtpelngkhipcneaaDoor
open Go.RowKit
/-- the number, the place, the error as Go's three results -/
theorem ret_get {r r' : Nat × Int × Int} (h : r = r') : Ending.returned (.tuple #[.int .u64 r.1, .int .i64 r.2.1, .int .i64 r.2.2]) = Ending.returned (.tuple #[.int .u64 r'.1, .int .i64 r'.2.1, .int .i64 r'.2.2]) := by rw [h]
theorem and127 (c : Nat) (h : c < 256) : bits .and .u8 (c : Int) 127 = ((c % 128 : Nat) : Int) := by
  have := u8_and_nat c 127 h (by decide)
  rw [nat_mask7] at this
  exact this

set_option maxRecDepth 100000 in
set_option maxHeartbeats 1000000 in
theorem wire_Get (s : ByteArray) (hs : s.size ≤ 1000000000000000) (a : Int) (ha : I64 a) (w : World) :
    Calls Tryd.prog 31 #[.string s, .int .i64 a] w fun e w' => e = .returned (.tuple #[.int .u64 (vget s.data.toList a).1, .int .i64 (vget s.data.toList a).2.1, .int .i64 (vget s.data.toList a).2.2]) ∧ w = w' := by
  have hl := ba_len s
  by_cases h0 : a < 0
  · rw [vget_arg (.inl h0)]
    go_enter Tryd.func31, Tryd.ntmps31
    repeat' (first | go_values | go_skip | go_guarded | go_step | go_upon)
    go_ret3
    exact ⟨rfl, rfl⟩
  obtain ⟨m, rfl⟩ := Int.eq_ofNat_of_zero_le (by omega : 0 ≤ a)
  by_cases h1 : (s.size : Int) < m
  · rw [vget_arg (.inr (by omega))]
    go_enter Tryd.func31, Tryd.ntmps31
    repeat' (first | go_values | go_skip | go_guarded | go_step | go_upon)
    go_ret3
    exact ⟨rfl, rfl⟩
  have Hl := Lib.hid hl; clear hl
  obtain ⟨t, ht⟩ : ∃ t, t = s.data.toList := ⟨_, rfl⟩
  have Ht := Lib.hid ht
  have hbt : ∀ i (h : i < s.size), s[i].toNat = at8 t i := fun i h => by rw [ba_at, ht]
  rw [← ht]
  clear ht
  obtain ⟨r, hr⟩ : ∃ r, r = vget t m := ⟨_, rfl⟩
  rw [← hr]
  have Hr := Lib.hid hr; clear hr
  have Hlt : Hid (t.length = s.size) := Lib.hid (by rw [Ht.out]; exact Hl.out)
  go_enter Tryd.func31, Tryd.ntmps31
  repeat' (first | go_values | go_skip | go_guarded | go_step | go_upon)
  go_loop [7, 18] (fun s7 s18 => ∃ k : Nat, s18 = .int .i64 k ∧ k ≤ 10 ∧ s7 = .int .u64 (dsum t m k) ∧ Hid (Lead t m k)) (fun _ s => 10 - (intOf s).toNat)
  case atStart => exact ⟨0, rfl, by omega, by rw [dsum]; rfl, Lib.hid (Lead.zero _ _)⟩
  case round =>
    obtain ⟨k, rfl, hk, rfl, Hk⟩ := hrel
    by_cases h10 : k = 10
    · subst h10
      repeat' (first | go_values | go_skip | go_guarded | go_step | go_upon)
      go_ret3
      exact ⟨by rw [Hr.out, vget_ten Hk.out]; rfl, rfl⟩
    by_cases he : m + k = s.size
    · repeat' (first | go_values | go_skip | go_guarded | go_step | go_upon)
      go_ret3
      exact ⟨by rw [Hr.out, vget_short Hk.out (by omega) (by rw [Hlt.out, he])]; rfl, rfl⟩
    have hlt : m + k < s.size := by
      by_cases e0 : k = 0
      · omega
      · have := (Hk.out (k - 1) (by omega)).1
        rw [Hlt.out] at this
        omega
    have hlt' : (m : Int) + k < s.size := by omega
    obtain ⟨c, hc⟩ : ∃ c, at8 t (m + k) = c := ⟨_, rfl⟩
    have hcb : c < 256 := by rw [← hc]; exact at8_lt _ _
    have Hc := Lib.hid hc
    have Hd : Hid (dsum t m k < 2 ^ (7 * k)) := Lib.hid (dsum_lt t m k)
    have hle : m + k < t.length := by rw [Hlt.out]; exact hlt
    have Hle := Lib.hid hle; clear hle
    by_cases hw : k = 9 ∧ 1 < c
    · obtain ⟨h9, hc1⟩ := hw
      have hb9 : ((k : Int) == 9) = true := by simp; omega
      have H9 := Lib.hid h9; clear h9
      repeat' (first | go_values | go_skip | go_guarded | go_step | go_upon)
      go_ret3
      have h9 := H9.out
      subst h9
      exact ⟨by rw [Hr.out, vget_wide Hk.out Hle.out (by rw [Hc.out]; exact hc1)]; rfl, rfl⟩
    have hand := and127 c hcb
    obtain ⟨d, hd⟩ : ∃ d, d = c % 128 := ⟨_, rfl⟩
    rw [← hd] at hand
    have hd128 : d < 128 := by omega
    have Hdd := Lib.hid hd; clear hd
    have hwd : IntKind.u64.wrap (d : Int) = d := wu64 (by omega) (by unfold U64; omega)
    have hor : c < 128 → bits .or .u64 (dsum t m k : Int) (IntKind.u64.wrap ((d : Int) * 2 ^ (7 * k))) = (dsum t m (k + 1) : Nat) := fun hc128 => by
      rw [or_u64 _ _ _ Hd.out (by
        have h := dsum_u64 (t := t) (a := m) (k := k) (by omega) (fun h9 => by rw [Hc.out]; omega)
        rw [dsum, Hc.out, ← Hdd.out] at h
        exact U64.le h (by omega)) (by omega)]
      rw [dsum, Hc.out, ← Hdd.out]
    have hor2 : bits .or .u64 (dsum t m k : Int) (IntKind.u64.wrap ((d : Int) * 2 ^ (7 * k))) = (dsum t m (k + 1) : Nat) := by
      by_cases hc128 : c < 128
      · exact hor hc128
      · rw [or_u64 _ _ _ Hd.out (by
          have h1 : (2 : Nat) ^ (7 * k) ≤ 2 ^ 56 := Nat.pow_le_pow_right (by omega) (by omega)
          have h2 := Nat.mul_le_mul (show d ≤ 127 by omega) h1
          have e : (127 : Nat) * 2 ^ 56 = 9151314442816847872 := by decide
          unfold U64; omega) (by omega)]
        rw [dsum, Hc.out, ← Hdd.out]
    clear hor
    obtain ⟨n', hn'⟩ : ∃ n', n' = dsum t m (k + 1) := ⟨_, rfl⟩
    rw [← hn'] at hor2
    have Hn' := Lib.hid hn'; clear hn'
    by_cases hc128 : c < 128
    · by_cases hz : c = 0
      · by_cases hk0 : 0 < k
        · have hz' : ((c : Int) == 0) = true := by simp; omega
          have Hz := Lib.hid hz; clear hz
          by_cases h9 : k = 9
          · have hb9 : ((k : Int) == 9) = true := by simp; omega
            have H9 := Lib.hid h9; clear h9
            repeat' (first | go_values | go_skip | go_guarded | go_step | go_upon)
            all_goals go_ret3
            all_goals exact ⟨by rw [Hr.out, vget_nought Hk.out (by omega) Hle.out (by rw [Hc.out]; exact Hz.out) hk0]; rfl, rfl⟩
          · repeat' (first | go_values | go_skip | go_guarded | go_step | go_upon)
            go_ret3
            exact ⟨by rw [Hr.out, vget_nought Hk.out (by omega) Hle.out (by rw [Hc.out]; exact Hz.out) hk0]; rfl, rfl⟩
        · have hk0' : k = 0 := by omega
          subst hk0'
          have hc0 : at8 t m = 0 := by rw [← hz, ← hc]; rfl
          have Hz := Lib.hid hz; clear hz hc
          repeat' (first | go_values | go_skip | go_guarded | go_step | go_upon)
          go_ret3
          rw [Hr.out, vget_ok Hk.out (by omega) Hle.out (by rw [Hc.out]; exact hc128) (.inr rfl) (fun h => by omega)]
          have e1 : dsum t m (0 + 1) = 0 := by rw [dsum, Hc.out, Hz.out]; simp [dsum]
          have e2 : dsum t m 0 = 0 := rfl
          have e3 : (m : Int) + ((0 : Nat) : Int) + 1 = m + 1 := by omega
          rw [e1, e3]
          refine ⟨ret_iii ?_ rfl rfl, rfl⟩
          show bits .or .u64 ((0 : Nat) : Int) (IntKind.u64.wrap (IntKind.u64.wrap (bits .and .u8 0 127))) = ((0 : Nat) : Int)
          decide
      · have hz' : ((c : Int) == 0) = false := by simp; omega
        by_cases h9 : k = 9
        · have hb9 : ((k : Int) == 9) = true := by simp; omega
          have hc1 : ¬ 1 < c := fun h => hw ⟨h9, h⟩
          have H9 := Lib.hid h9; clear h9 hw
          repeat' (first | go_values | go_skip | go_guarded | go_step | go_upon)
          all_goals go_ret3
          all_goals refine ⟨?_, rfl⟩
          all_goals rw [Hr.out, vget_ok Hk.out (by omega) Hle.out (by rw [Hc.out]; exact hc128) (.inl (by rw [Hc.out]; exact hz)) (fun h => by rw [Hc.out]; omega), ← Hn'.out]
          all_goals rfl
        · clear hw
          repeat' (first | go_values | go_skip | go_guarded | go_step | go_upon)
          all_goals go_ret3
          all_goals refine ⟨?_, rfl⟩
          all_goals rw [Hr.out, vget_ok Hk.out (by omega) Hle.out (by rw [Hc.out]; exact hc128) (.inl (by rw [Hc.out]; exact hz)) (fun h => absurd h h9), ← Hn'.out]
          all_goals rfl
    · have h9 : ¬ k = 9 := fun h => hw ⟨h, by omega⟩
      clear hw
      repeat' (first | go_values | go_skip | go_guarded | go_step | go_upon)
      go_round
      case rel => exact ⟨k + 1, by go_num, by omega, by rw [Hn'.out], Lib.hid (Hk.out.succ Hle.out (by rw [Hc.out]; omega))⟩
      case measure => simp [intOf]; omega
end Go.Proofs.YtpelngkhipcneaaDoor
