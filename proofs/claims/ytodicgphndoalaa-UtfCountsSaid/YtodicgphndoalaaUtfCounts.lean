/- Walks: sums and products are the right ones, or refused (utf.Add, utf.Mul, the reference's). Conditions: the numbers are ints. -/
import Derived.Test.YtodicgphndoalaaBase
import Derived.Test.YtodicgphndoalaaProg
namespace Go.Proofs.Ytodicgphndoalaa
open Go.RowKit
def room : Nat := 4611686018427387904
/-- what a sum, a product comes to -/
def counted (a b s : Int) : Int × Int := if a < 0 ∨ b < 0 then (0, 1) else if s ≤ (room : Int) then (s, 0) else (0, 3)
theorem counted_arg {a b s : Int} (h : a < 0 ∨ b < 0) : counted a b s = (0, 1) := if_pos h
theorem counted_ok {a b s : Int} (h : ¬ (a < 0 ∨ b < 0)) (hs : s ≤ 4611686018427387904) : counted a b s = (s, 0) := by unfold counted room; rw [if_neg h]; exact if_pos hs
theorem counted_over {a b s : Int} (h : ¬ (a < 0 ∨ b < 0)) (hs : ¬ s ≤ 4611686018427387904) : counted a b s = (0, 3) := by unfold counted room; rw [if_neg h]; exact if_neg hs
theorem ret_ii {k1 k2 : IntKind} {a1 b1 a2 b2 : Int} (h1 : a1 = b1) (h2 : a2 = b2) : Ending.returned (.tuple #[.int k1 a1, .int k2 a2]) = Ending.returned (.tuple #[.int k1 b1, .int k2 b2]) := by rw [h1, h2]

set_option maxRecDepth 100000 in
set_option maxHeartbeats 400000 in
theorem utf_Add (a : Int) (ha : I64 a) (b : Int) (hb : I64 b) (w : World) :
    Calls Try.prog 4 #[.int .i64 a, .int .i64 b] w fun e w' => e = .returned (.tuple #[.int .i64 (counted a b (a + b)).1, .int .i64 (counted a b (a + b)).2]) ∧ w = w' := by
  unfold I64 at ha hb
  by_cases h0 : a < 0
  · rw [counted_arg (.inl h0)]
    clear ha hb
    go_enter Try.func4, Try.ntmps4
    repeat' (first | go_values | go_skip | go_guarded | go_step | go_upon)
    all_goals go_ret2
    all_goals exact ⟨rfl, rfl⟩
  by_cases h1 : b < 0
  · rw [counted_arg (.inr h1)]
    clear ha hb
    go_enter Try.func4, Try.ntmps4
    repeat' (first | go_values | go_skip | go_guarded | go_step | go_upon)
    all_goals go_ret2
    all_goals exact ⟨rfl, rfl⟩
  by_cases h2 : a + b ≤ 4611686018427387904
  · rw [counted_ok (by omega) h2]
    go_enter Try.func4, Try.ntmps4
    repeat' (first | go_values | go_skip | go_guarded | go_step | go_upon)
    all_goals go_ret2
    all_goals exact ⟨rfl, rfl⟩
  · rw [counted_over (by omega) h2]
    go_enter Try.func4, Try.ntmps4
    repeat' (first | go_values | go_skip | go_guarded | go_step | go_upon)
    all_goals go_ret2
    all_goals exact ⟨rfl, rfl⟩


set_option maxRecDepth 100000 in
set_option maxHeartbeats 400000 in
theorem ref_Add (a : Int) (ha : I64 a) (b : Int) (hb : I64 b) (w : World) :
    Calls Try.prog 5 #[.int .i64 a, .int .i64 b] w fun e w' => e = .returned (.tuple #[.int .i64 (counted a b (a + b)).1, .int .i64 (counted a b (a + b)).2]) ∧ w = w' := by
  unfold I64 at ha hb
  by_cases h0 : a < 0
  · rw [counted_arg (.inl h0)]
    clear ha hb
    go_enter Try.func5, Try.ntmps5
    repeat' (first | go_values | go_skip | go_guarded | go_step | go_upon)
    all_goals go_ret2
    all_goals exact ⟨rfl, rfl⟩
  by_cases h1 : b < 0
  · rw [counted_arg (.inr h1)]
    clear ha hb
    go_enter Try.func5, Try.ntmps5
    repeat' (first | go_values | go_skip | go_guarded | go_step | go_upon)
    all_goals go_ret2
    all_goals exact ⟨rfl, rfl⟩
  have e1 : IntKind.u64.wrap a = a := wu64 (by omega) (by unfold U64; omega)
  have e2 : IntKind.u64.wrap b = b := wu64 (by omega) (by unfold U64; omega)
  have e3 : IntKind.u64.wrap (a + b) = a + b := wu64 (by omega) (by unfold U64; omega)
  by_cases h2 : a + b ≤ 4611686018427387904
  · rw [counted_ok (by omega) h2]
    have e4 : IntKind.i64.wrap (a + b) = a + b := wi64 (by unfold I64; omega)
    go_enter Try.func5, Try.ntmps5
    repeat' (first | go_values | go_skip | go_guarded | go_step | go_upon)
    all_goals go_ret2
    all_goals exact ⟨rfl, rfl⟩
  · rw [counted_over (by omega) h2]
    go_enter Try.func5, Try.ntmps5
    repeat' (first | go_values | go_skip | go_guarded | go_step | go_upon)
    all_goals go_ret2
    all_goals exact ⟨rfl, rfl⟩

theorem mul_arg {x y : Nat} (hx : 0 < x) : (4611686018427387904 : Int) / (x : Int) < (y : Int) ↔ ¬ (x : Int) * (y : Int) ≤ 4611686018427387904 := by
  rw [Int.ediv_lt_iff_lt_mul (by omega), Int.not_le, Int.mul_comm]
set_option maxRecDepth 100000 in
set_option maxHeartbeats 400000 in
theorem utf_Mul (a : Int) (ha : I64 a) (b : Int) (hb : I64 b) (w : World) :
    Calls Try.prog 6 #[.int .i64 a, .int .i64 b] w fun e w' => e = .returned (.tuple #[.int .i64 (counted a b (a * b)).1, .int .i64 (counted a b (a * b)).2]) ∧ w = w' := by
  unfold I64 at ha hb
  by_cases h0 : a < 0
  · rw [counted_arg (.inl h0)]
    clear ha hb
    go_enter Try.func6, Try.ntmps6
    repeat' (first | go_values | go_skip | go_guarded | go_step | go_upon)
    all_goals go_ret2
    all_goals exact ⟨rfl, rfl⟩
  by_cases h1 : b < 0
  · rw [counted_arg (.inr h1)]
    clear ha hb
    go_enter Try.func6, Try.ntmps6
    repeat' (first | go_values | go_skip | go_guarded | go_step | go_upon)
    all_goals go_ret2
    all_goals exact ⟨rfl, rfl⟩
  obtain ⟨x, rfl⟩ := Int.eq_ofNat_of_zero_le (by omega : 0 ≤ a)
  obtain ⟨y, rfl⟩ := Int.eq_ofNat_of_zero_le (by omega : 0 ≤ b)
  by_cases hx : x = 0
  · subst hx
    rw [counted_ok (by omega) (by simp)]
    go_enter Try.func6, Try.ntmps6
    repeat' (first | go_values | go_skip | go_guarded | go_step | go_upon)
    all_goals go_ret2
    all_goals exact ⟨ret_ii (by simp) rfl, rfl⟩
  by_cases h2 : (x : Int) * (y : Int) ≤ 4611686018427387904
  · rw [counted_ok (by omega) h2]
    have e4 : IntKind.i64.wrap ((x : Int) * (y : Int)) = (x : Int) * (y : Int) := wi64 (by have := Int.mul_nonneg (by omega : 0 ≤ (x : Int)) (by omega : 0 ≤ (y : Int)); unfold I64; omega)
    have h3 : ¬ (4611686018427387904 : Int) / (x : Int) < (y : Int) := fun h => (mul_arg (by omega)).1 h h2
    have e5 : ((x : Int) == 0) = false := by simp; omega
    go_enter Try.func6, Try.ntmps6
    repeat' (first | go_values | go_skip | go_guarded | go_step | go_upon)
    all_goals go_ret2
    all_goals exact ⟨rfl, rfl⟩
  · rw [counted_over (by omega) h2]
    have h3 : (4611686018427387904 : Int) / (x : Int) < (y : Int) := (mul_arg (by omega)).2 h2
    have e5 : ((x : Int) == 0) = false := by simp; omega
    go_enter Try.func6, Try.ntmps6
    repeat' (first | go_values | go_skip | go_guarded | go_step | go_upon)
    all_goals go_ret2
    all_goals exact ⟨rfl, rfl⟩


/-- twice the product so far, and the next bit of y -/
theorem mul_step (x y j : Nat) : x * (y / 2 ^ j) = 2 * (x * (y / 2 ^ (j + 1))) + x * (y / 2 ^ j % 2) := by
  have h : y / 2 ^ (j + 1) = y / 2 ^ j / 2 := by rw [Nat.pow_succ, Nat.div_div_eq_div_mul]
  have h2 := Nat.div_add_mod (y / 2 ^ j) 2
  rw [h]
  conv => lhs; rw [← h2, Nat.mul_add]
  rw [Nat.mul_left_comm]
theorem bit_at (y i : Nat) : ((y : Int) / 2 ^ i).tmod 2 = ((y / 2 ^ i % 2 : Nat) : Int) := by
  have h : (y : Int) / 2 ^ i = ((y / 2 ^ i : Nat) : Int) := by simp
  rw [h]; rfl
theorem mul_part_le (x y j : Nat) : x * (y / 2 ^ j) ≤ x * y := Nat.mul_le_mul_left _ (Nat.div_le_self _ _)
set_option maxRecDepth 100000 in
set_option maxHeartbeats 400000 in
theorem ref_Mul (a : Int) (ha : I64 a) (b : Int) (hb : I64 b) (w : World) :
    Calls Try.prog 7 #[.int .i64 a, .int .i64 b] w fun e w' => e = .returned (.tuple #[.int .i64 (counted a b (a * b)).1, .int .i64 (counted a b (a * b)).2]) ∧ w = w' := by
  unfold I64 at ha hb
  by_cases h0 : a < 0
  · rw [counted_arg (.inl h0)]
    clear ha hb
    go_enter Try.func7, Try.ntmps7
    repeat' (first | go_values | go_skip | go_guarded | go_step | go_upon)
    all_goals go_ret2
    all_goals exact ⟨rfl, rfl⟩
  by_cases h1 : b < 0
  · rw [counted_arg (.inr h1)]
    clear ha hb
    go_enter Try.func7, Try.ntmps7
    repeat' (first | go_values | go_skip | go_guarded | go_step | go_upon)
    all_goals go_ret2
    all_goals exact ⟨rfl, rfl⟩
  obtain ⟨x, rfl⟩ := Int.eq_ofNat_of_zero_le (by omega : 0 ≤ a)
  obtain ⟨y, rfl⟩ := Int.eq_ofNat_of_zero_le (by omega : 0 ≤ b)
  have e1 : IntKind.u64.wrap (x : Int) = x := wu64 (by omega) (by unfold U64; omega)
  have e2 : IntKind.u64.wrap (y : Int) = y := wu64 (by omega) (by unfold U64; omega)
  have hover : ∀ j p : Nat, p = x * (y / 2 ^ j) → 4611686018427387904 < p → counted (x : Int) y ((x : Int) * y) = (0, 3) := by
    intro j p hp h
    have h1' := mul_part_le x y j
    have h2' : ((x * y : Nat) : Int) = (x : Int) * y := by simp
    exact counted_over (by omega) (by omega)
  have Ho := Lib.hid hover; clear hover
  obtain ⟨r, hr⟩ : ∃ r, counted (x : Int) y ((x : Int) * y) = r := ⟨_, rfl⟩
  rw [hr]
  have Hr := Lib.hid hr; clear hr
  go_enter Try.func7, Try.ntmps7
  repeat' (first | go_values | go_skip | go_guarded | go_step | go_upon)
  go_loop [6, 7] (fun s6 s7 => ∃ j p : Nat, s7 = .int .i64 ((j : Int) - 1) ∧ s6 = .int .u64 p ∧ j ≤ 63 ∧ p ≤ 18446744073709551615 ∧ Hid (p = x * (y / 2 ^ j))) (fun _ s => (intOf s + 1).toNat)
  case atStart => exact ⟨63, 0, rfl, rfl, by omega, by omega, Lib.hid (by rw [Nat.div_eq_of_lt (by omega)]; rfl)⟩
  case round =>
    obtain ⟨j, p, rfl, rfl, hj, hp, Hp⟩ := hrel
    by_cases hov : 4611686018427387904 < p
    · have e := Ho.out j p Hp.out hov
      rw [Hr.out] at e
      subst e
      by_cases hj0 : j = 0
      · subst hj0
        repeat' (first | go_values | go_skip | go_guarded | go_step | go_upon)
        all_goals go_ret2
        all_goals exact ⟨rfl, rfl⟩
      · repeat' (first | go_values | go_skip | go_guarded | go_step | go_upon)
        all_goals go_ret2
        all_goals exact ⟨rfl, rfl⟩
    by_cases hj0 : j = 0
    · subst hj0
      have e3 : IntKind.i64.wrap (p : Int) = p := wi64 (by unfold I64; omega)
      repeat' (first | go_values | go_skip | go_guarded | go_step | go_upon)
      all_goals go_ret2
      all_goals exact ⟨by
        have hp' := Hp.out
        rw [Nat.pow_zero, Nat.div_one] at hp'
        have h' : ((x * y : Nat) : Int) = (x : Int) * y := by simp
        rw [← Hr.out, counted_ok (by omega) (by omega)]
        exact ret_ii (by omega) rfl, rfl⟩
    · obtain ⟨i, rfl⟩ : ∃ i, j = i + 1 := ⟨j - 1, by omega⟩
      have hst := mul_step x y i
      rw [← Hp.out] at hst
      have e3 : IntKind.u64.wrap ((p : Int) * 2) = (p : Int) * 2 := wu64 (by omega) (by unfold U64; omega)
      rcases Nat.mod_two_eq_zero_or_one (y / 2 ^ i) with hb2 | hb2
      · rw [hb2] at hst
        have Hst := Lib.hid hst; clear hst
        have htb : (((y : Int) / 2 ^ i).tmod 2 == 1) = false := by rw [bit_at, hb2]; rfl
        repeat' (first | go_values | go_skip | go_guarded | go_step | go_upon)
        go_round
        case rel => exact ⟨i, p * 2, by go_num, by simp, by omega, by omega, Lib.hid (by rw [Hst.out]; omega)⟩
        case measure => simp [intOf]
      · rw [hb2] at hst
        have Hst := Lib.hid hst; clear hst
        have htb : (((y : Int) / 2 ^ i).tmod 2 == 1) = true := by rw [bit_at, hb2]; rfl
        have e4 : IntKind.u64.wrap ((p : Int) * 2 + x) = (p : Int) * 2 + x := wu64 (by omega) (by unfold U64; omega)
        repeat' (first | go_values | go_skip | go_guarded | go_step | go_upon)
        go_round
        case rel => exact ⟨i, p * 2 + x, by go_num, by simp, by omega, by omega, Lib.hid (by rw [Hst.out]; omega)⟩
        case measure => simp [intOf]

set_option maxRecDepth 100000 in
set_option maxHeartbeats 400000 in
theorem law_UtfCounts (a : Int) (ha : I64 a) (b : Int) (hb : I64 b) (w : World) :
    Calls Try.prog 3 #[.int .i64 a, .int .i64 b] w fun e w' => e = .returned (.bool true) ∧ Below w.heap.size w w' := by
  have hge : (counted a b (a + b)).2 = 0 → a ≤ (counted a b (a + b)).1 := fun h => by
    by_cases h0 : a < 0 ∨ b < 0
    · rw [counted_arg h0] at h; cases h
    by_cases h1 : a + b ≤ 4611686018427387904
    · rw [counted_ok h0 h1]; dsimp only; omega
    · rw [counted_over h0 h1] at h; cases h
  generalize hc : counted a b (a + b) = c at hge
  obtain ⟨c1, c2⟩ := c
  generalize hd : counted a b (a * b) = d
  obtain ⟨d1, d2⟩ := d
  have h1 := utf_Add a ha b hb w
  have h2 := ref_Add a ha b hb w
  have h3 := utf_Mul a ha b hb w
  have h4 := ref_Mul a ha b hb w
  rw [hc] at h1 h2
  rw [hd] at h3 h4
  clear hc hd ha hb
  dsimp only at h1 h2 h3 h4 hge
  go_enter Try.func3, Try.ntmps3
  repeat' (first | go_values | go_skip | go_guarded | go_step | go_upon)
  refine Calls.mono (h1) ?_
  rintro _ _ ⟨rfl, rfl⟩
  dsimp only
  repeat' (first | go_values | go_skip | go_guarded | go_step | go_upon)
  refine Calls.mono (h2) ?_
  rintro _ _ ⟨rfl, rfl⟩
  dsimp only
  repeat' (first | go_values | go_skip | go_guarded | go_step | go_upon)
  refine Calls.mono (h3) ?_
  rintro _ _ ⟨rfl, rfl⟩
  dsimp only
  repeat' (first | go_values | go_skip | go_guarded | go_step | go_upon)
  refine Calls.mono (h4) ?_
  rintro _ _ ⟨rfl, rfl⟩
  dsimp only
  clear h1 h2 h3 h4
  by_cases hz : c2 = 0
  · have hge' := hge hz
    subst hz
    repeat' (first | go_values | go_skip | go_guarded | go_step | go_upon)
    all_goals go_ret
    all_goals exact ⟨rfl, Below.refl _ _⟩
  · have hz' : (c2 == 0) = false := by simpa using hz
    repeat' (first | go_values | go_skip | go_guarded | go_step | go_upon)
    all_goals go_ret
    all_goals exact ⟨rfl, Below.refl _ _⟩
end Go.Proofs.Ytodicgphndoalaa
