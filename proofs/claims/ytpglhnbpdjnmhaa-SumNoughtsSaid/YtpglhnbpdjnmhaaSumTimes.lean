/- Walk: what a matrix makes of a register (matrix.times). Condition: the matrix is that of a number of steps. -/
import Derived.Test.YtpglhnbpdjnmhaaSumOn
namespace Go.Proofs.Ytpglhnbpdjnmhaa
open Go.RowKit
theorem under_mat : Try.prog.underlying 45 = some (.array 32 22) := by kernel_rfl
theorem info_mat : (Try.prog.info? 45).map (fun i => i.size) = some 32 := by kernel_rfl
/-- the matrix of e steps, of which the first k rows are filled -/
def matTo (e k : Nat) : Array Value := ((List.range 32).map fun j => Value.int .u32 ((if j < k then stps e (2 ^ j) else 0 : Nat) : Int)).toArray
theorem matTo_size (e k : Nat) : (matTo e k).size = 32 := by simp [matTo]
theorem matTo_at (e k j : Nat) (hj : j < 32) : (matTo e k)[j]? = some (Value.int .u32 ((if j < k then stps e (2 ^ j) else 0 : Nat) : Int)) := by simp [matTo, hj]
theorem matTo_set (e k : Nat) (hk : k < 32) : (matTo e k).setIfInBounds k (.int .u32 ((stps e (2 ^ k) : Nat) : Int)) = matTo e (k + 1) := by
  apply Array.ext_getElem?
  intro j
  rw [Array.getElem?_setIfInBounds]
  by_cases hj : j < 32
  · rw [matTo_at _ _ _ hj, matTo_at _ _ _ hj]
    by_cases h : k = j
    · subst h; simp [matTo_size, hk]
    · have : (j < k + 1) = (j < k) := by apply propext; omega
      simp [h, this]
  · have h1 : (matTo e k)[j]? = none := by simp [matTo_size, Nat.le_of_not_lt hj]
    have h2 : (matTo e (k + 1))[j]? = none := by simp [matTo_size, Nat.le_of_not_lt hj]
    have h : ¬ k = j := by omega
    rw [h1, h2]; simp [h]
theorem matTo_one (e k : Nat) : (matTo e k).all (·.oneCell') = true := by simp [matTo, Value.oneCell']
theorem matTo_zero (e : Nat) : matTo e 0 = matTo 0 0 := by simp [matTo]
theorem run_zero_mat (w : World) : (zeroValue 45).run Try.prog w = .ok (.agg (matTo 0 0)) w := by
  have h : (Try.prog.info? 45).map (fun i => (i.zero, i.size)) = some (some (.agg (matTo 0 0)), 32) := by kernel_rfl
  exact (zero_of_info h).1 w
/-- the matrix of e steps, filled up to row k, lies in block g -/
def MatAt (w : World) (g e k : Nat) : Prop := w.heap[g]? = some (.cells (matTo e k) 45 (0, 0))
theorem MatAt.cell {w : World} {g e k : Nat} (h : MatAt w g e k) (n : Nat) (hn : n < 32) (hk : n < k) : w.cell? ⟨g, n, none⟩ = some (.int .u32 ((stps e (2 ^ n) : Nat) : Int)) := by
  rw [cell_of_row w g n _ _ _ h, matTo_at _ _ _ hn, if_pos hk]
theorem MatAt.old {w : World} {g e k : Nat} (h : MatAt w g e k) (n : Nat) (hn : n < 32) (hk : ¬ n < k) : w.cell? ⟨g, n, none⟩ = some (.int .u32 ((0 : Nat) : Int)) := by
  rw [cell_of_row w g n _ _ _ h, matTo_at _ _ _ hn, if_neg hk]
theorem MatAt.free {w : World} {g e k : Nat} (h : MatAt w g e k) (n : Nat) : w.frozen? ⟨g, n, none⟩ = false := frozen_of_row _ _ _ _ _ h
theorem MatAt.set {w : World} {g e k : Nat} (h : MatAt w g e k) (hk : k < 32) : MatAt (w.setCell ⟨g, k, none⟩ (.int .u32 ((stps e (2 ^ k) : Nat) : Int))) g e (k + 1) := by
  unfold MatAt
  rw [setCell_eq_setRow _ _ _ _ _ _ _ h, matTo_set e k hk]
  exact setRow_heap _ _ _ _ _ _ h
theorem MatAt.keep {w w' : World} {g e k B : Nat} (h : MatAt w g e k) (hb : Below B w w') (hB : g < B) : MatAt w' g e k := by unfold MatAt; rw [hb.block g hB]; exact h
theorem MatAt.heap {w : World} {g e k : Nat} (h : MatAt w g e k) : w.heap[g]? = some (.cells (matTo e k) 45 (0, 0)) := h
theorem MatAt.lt {w : World} {g e k : Nat} (h : MatAt w g e k) : g < w.heap.size := (Array.getElem?_eq_some_iff.1 h).1
theorem mod_next (c i : Nat) : c % 2 ^ (i + 1) = c % 2 ^ i ^^^ (if c / 2 ^ i % 2 = 1 then 2 ^ i else 0) := by
  apply Nat.eq_of_testBit_eq
  intro j
  have hb : c.testBit i = decide (c / 2 ^ i % 2 = 1) := by rw [Nat.testBit_eq_decide_div_mod_eq]
  rw [Nat.testBit_xor, Nat.testBit_mod_two_pow, Nat.testBit_mod_two_pow]
  by_cases h : c / 2 ^ i % 2 = 1
  · rw [if_pos h, Nat.testBit_two_pow]
    rw [decide_eq_true h] at hb
    by_cases hj : i = j
    · subst hj; simp [hb]
    · have : decide (j < i + 1) = decide (j < i) := by rw [decide_eq_decide]; omega
      simp [hj, this]
  · rw [if_neg h]
    rw [decide_eq_false h] at hb
    by_cases hj : i = j
    · subst hj; simp [hb]
    · have : decide (j < i + 1) = decide (j < i) := by rw [decide_eq_decide]; omega
      simp [this]

set_option maxRecDepth 100000 in
set_option maxHeartbeats 400000 in
theorem sum_times (g e : Nat) (c : Nat) (hc : c < 4294967296) (w : World) (hm : MatAt w g e 32) :
    Calls Try.prog 22 #[.pointer (some ⟨g, 0, none⟩), .int .u32 c] w fun r w' => r = .returned (.int .u32 (stps e c : Nat)) ∧ Below w.heap.size w w' := by
  obtain ⟨r, hr⟩ : ∃ r, stps e c = r := ⟨_, rfl⟩
  rw [hr]
  have Hr := Lib.hid hr; clear hr
  have Hm := Lib.hid hm; clear hm
  go_enter Try.func22, Try.ntmps22
  repeat' (first | go_values | go_skip | go_guarded | go_step | go_upon)
  go_loopw [5, 7] (fun s5 s7 w' => ∃ (i x : Nat), s7 = .int .i64 i ∧ i ≤ 32 ∧ s5 = .int .u32 x ∧ x < 4294967296 ∧ Hid (x = stps e (c % 2 ^ i)) ∧ Hid (Below w.heap.size w w')) (fun _ s7 _ => 32 - (intOf s7).toNat)
  case atStart => exact ⟨0, 0, rfl, by omega, rfl, by omega, Lib.hid (by rw [Nat.pow_zero, Nat.mod_one, stps_zero]), Lib.hid (Below.refl _ _)⟩
  case round =>
    obtain ⟨i, x, rfl, hi, rfl, hx, Hx, Hb⟩ := hrel
    by_cases hi2 : i < 32
    · have hml := stps_lt e (show 2 ^ i < 2 ^ 32 from Nat.pow_lt_pow_right (by omega) hi2)
      have hmc := (Hm.out.keep Hb.out Hm.out.lt).cell i hi2 hi2
      have hnx := mod_next c i
      have hand : bits .and .u32 ((c : Int) / 2 ^ i) 1 = ((c / 2 ^ i % 2 : Nat) : Int) := by
        have h : (c : Int) / 2 ^ i = ((c / 2 ^ i : Nat) : Int) := by simp
        rw [h]
        exact u32_and1 _ (Nat.lt_of_le_of_lt (Nat.div_le_self _ _) hc)
      by_cases hbit : c / 2 ^ i % 2 = 1
      · rw [if_pos hbit] at hnx
        rw [hbit] at hand
        have hst : x ^^^ stps e (2 ^ i) = stps e (c % 2 ^ (i + 1)) := by rw [Hx.out, hnx, stps_xor]
        have Hst := Lib.hid hst
        generalize stps e (2 ^ i) = m at hml hmc hst Hst
        have hxr := u32_xor_nat x m hx hml
        have hxl : x ^^^ m < 4294967296 := Nat.xor_lt_two_pow (n := 32) hx hml
        clear hst hnx hbit
        repeat' (first | go_values | go_skip | go_guarded | go_step | go_upon)
        go_region
        repeat' (first | go_values | go_skip | go_guarded | go_step | go_upon)
        go_roundw
        case rel => exact ⟨i + 1, x ^^^ m, by go_num, hi2, rfl, hxl, Hst, Lib.hid Hb.out.drew⟩
        case measure => simp [intOf]; omega
      · rw [if_neg hbit, Nat.xor_zero] at hnx
        rw [show c / 2 ^ i % 2 = 0 from by omega] at hand
        have hst : x = stps e (c % 2 ^ (i + 1)) := by rw [Hx.out, hnx]
        have Hst := Lib.hid hst
        have hxr : bits .xor .u32 (x : Int) 0 = (x : Int) := by
          have h := u32_xor_nat x 0 hx (by decide)
          rw [Nat.xor_zero] at h
          exact h
        clear hst hnx hbit
        repeat' (first | go_values | go_skip | go_guarded | go_step | go_upon)
        go_region
        repeat' (first | go_values | go_skip | go_guarded | go_step | go_upon)
        go_roundw
        case rel => exact ⟨i + 1, x, by go_num, hi2, rfl, hx, Hst, Lib.hid Hb.out.drew⟩
        case measure => simp [intOf]; omega
    · obtain rfl : i = 32 := by omega
      have hx' := Hx.out
      rw [Nat.mod_eq_of_lt (show c < 2 ^ 32 from hc), Hr.out] at hx'
      subst hx'
      repeat' (first | go_values | go_skip | go_guarded | go_step | go_upon)
      go_ret
      exact ⟨rfl, Hb.out⟩
end Go.Proofs.Ytpglhnbpdjnmhaa
