/- Walk: the table of a byte's eight steps (sum.table). No conditions. -/
import Derived.Test.YtbomloodllddaaaPk01
import Derived.Laws.Tables
import Derived.Deep.WholeRow
namespace Go.Proofs.Ytbomloodllddaaa
open Go.RowKit
theorem under_tab : Try.prog.underlying 168 = some (.array 256 45) := by kernel_rfl
theorem info_tab : (Try.prog.info? 168).map (fun i => i.size) = some 256 := by kernel_rfl
/-- the table, of which the first k rows are filled -/
def tabTo (k : Nat) : Array Value := ((List.range 256).map fun j => Value.int .u32 ((if j < k then stps 8 j else 0 : Nat) : Int)).toArray
theorem tabTo_size (k : Nat) : (tabTo k).size = 256 := by simp [tabTo]
theorem tabTo_at (k j : Nat) (hj : j < 256) : (tabTo k)[j]? = some (Value.int .u32 ((if j < k then stps 8 j else 0 : Nat) : Int)) := by simp [tabTo, hj]
theorem tabTo_set (k : Nat) (hk : k < 256) : (tabTo k).setIfInBounds k (.int .u32 ((stps 8 k : Nat) : Int)) = tabTo (k + 1) := by
  apply Array.ext_getElem?
  intro j
  rw [Array.getElem?_setIfInBounds]
  by_cases hj : j < 256
  · rw [tabTo_at _ _ hj, tabTo_at _ _ hj]
    by_cases h : k = j
    · subst h; simp [tabTo_size, hk]
    · have : (j < k + 1) = (j < k) := by apply propext; omega
      simp [h, this]
  · have h1 : (tabTo k)[j]? = none := by simp [tabTo_size, Nat.le_of_not_lt hj]
    have h2 : (tabTo (k + 1))[j]? = none := by simp [tabTo_size, Nat.le_of_not_lt hj]
    have h : ¬ k = j := by omega
    rw [h1, h2]; simp [h]
theorem tabTo_one (k : Nat) : (tabTo k).all (·.oneCell') = true := by simp [tabTo, Value.oneCell']
theorem run_zero_tab (w : World) : (zeroValue 168).run Try.prog w = .ok (.agg (tabTo 0)) w := by
  have h : (Try.prog.info? 168).map (fun i => (i.zero, i.size)) = some (some (.agg (tabTo 0)), 256) := by kernel_rfl
  exact (zero_of_info h).1 w

theorem Below.rowS {B g : Nat} {w0 w : World} (hb : Below B w0 w) (hBg : B ≤ g) (cs : Array Value) : Below B w0 (w.setRow g cs) :=
  hb.trans ⟨rfl, rfl, rfl, by simp, fun k hk => setRow_other _ _ _ _ (by omega)⟩
/-- the world in which the table is being made -/
def tabW (w : World) (k : Nat) : World := (w.alloc (.cells (tabTo 0) 168)).alloc (.cells (tabTo k) 168)
theorem tabW_heap (w : World) (k : Nat) : (tabW w k).heap[w.heap.size + 1]? = some (.cells (tabTo k) 168 (0, 0)) := heap_alloc2_new ..
theorem tabW_old (w : World) (k : Nat) : (tabW w k).heap[w.heap.size]? = some (.cells (tabTo 0) 168 (0, 0)) := heap_alloc2_old ..
theorem tabW_set (w : World) (k : Nat) (hk : k < 256) : (tabW w k).setCell ⟨w.heap.size + 1, k, none⟩ (.int .u32 ((stps 8 k : Nat) : Int)) = tabW w (k + 1) := by
  rw [setCell_eq_setRow _ _ _ _ _ _ _ (tabW_heap w k), tabTo_set k hk]
  have := World.setRow_alloc_new (w.alloc (.cells (tabTo 0) 168)) (tabTo k) (tabTo (k + 1)) 168
  rw [World.size_alloc] at this
  exact this
theorem tabW_below (w : World) (k : Nat) : Below w.heap.size w (tabW w k) := ((Below.refl _ _).alloc (Nat.le_refl _) _).alloc (by simp) _
theorem u32_and1 (c : Nat) (h : c < 4294967296) : bits .and .u32 (c : Int) 1 = ((c % 2 : Nat) : Int) := by
  rw [show (1 : Int) = ((1 : Nat) : Int) from rfl, u32_and_nat c 1 h (by decide), Nat.and_one_is_mod]
/-- a bit's step as the program makes it -/
theorem stp_mul (c : Nat) (h : c < 4294967296) : bits .xor .u32 ((c : Int) / 2) (3988292384 * ((c : Int) % 2)) = ((stp c : Nat) : Int) := by
  rcases Nat.mod_two_eq_zero_or_one c with h2 | h2
  · have e : (3988292384 * ((c : Int) % 2)) = ((0 : Nat) : Int) := by omega
    rw [e, show (c : Int) / 2 = ((c / 2 : Nat) : Int) from rfl, u32_xor_nat (c / 2) 0 (by omega) (by decide), Nat.xor_zero]
    unfold stp; rw [if_neg (by omega)]
  · have e : (3988292384 * ((c : Int) % 2)) = ((poly : Nat) : Int) := by unfold poly; omega
    rw [e, show (c : Int) / 2 = ((c / 2 : Nat) : Int) from rfl, u32_xor_nat (c / 2) poly (by omega) (by decide)]
    unfold stp; rw [if_pos h2]

set_option maxRecDepth 100000 in
set_option maxHeartbeats 400000 in
theorem sum_table (w : World) :
    Calls Try.prog 122 #[] w fun e w' => e = .returned (.agg (tabTo 256)) ∧ Below w.heap.size w w' := by
  have hz := run_zero_tab
  have Hw := Lib.hid (tabW_below w 256)
  go_enter Try.func122, Try.ntmps122
  repeat' (first | go_values | go_skip | go_guarded | go_step | go_upon)
  rw [show (w.alloc (.cells (tabTo 0) 168)).alloc (.cells (tabTo 0) 168) = tabW w 0 from rfl]
  go_loopw [4] (fun s4 w' => ∃ k : Nat, s4 = .int .i64 k ∧ k ≤ 256 ∧ w' = tabW w k) (fun s4 _ => 256 - (intOf s4).toNat)
  case atStart => exact ⟨0, rfl, Nat.zero_le _, rfl⟩
  case round =>
    obtain ⟨k, rfl, hk, rfl⟩ := hrel
    by_cases hk2 : k < 256
    · have hkw : IntKind.u32.wrap (k : Int) = k := IntWalk.u32_in _ (by omega)
      repeat' (first | go_values | go_skip | go_guarded | go_step | go_upon)
      go_loop [3, 9] (fun s3 s9 => ∃ j y : Nat, s9 = .int .i64 j ∧ j ≤ 8 ∧ s3 = .int .u32 y ∧ y < 4294967296 ∧ Hid (y = stps j k)) (fun _ s9 => 8 - (intOf s9).toNat)
      case atStart => exact ⟨0, k, rfl, by omega, rfl, by omega, Lib.hid rfl⟩
      case round =>
        obtain ⟨j, y, rfl, hj, rfl, hy, Hy⟩ := hrel
        by_cases hj8 : j < 8
        · have h1 := u32_and1 y hy
          have h2 := stp_mul y hy
          repeat' (first | go_values | go_skip | go_guarded | go_step | go_upon)
          go_round
          case rel => exact ⟨j + 1, stp y, by go_num, by omega, rfl, stp_lt hy, Lib.hid (by rw [stps_end, Hy.out])⟩
          case measure => simp [intOf]; omega
        · obtain rfl : j = 8 := by omega
          have hy' := Hy.out
          subst hy'
          have hs := tabW_set w k hk2
          have hc : (tabW w k).cell? ⟨w.heap.size + 1, k, none⟩ = some (.int .u32 ((0 : Nat) : Int)) := by rw [cell_of_row _ _ _ _ _ _ (tabW_heap w k), tabTo_at _ _ hk2, if_neg (by omega)]
          have hf : (tabW w k).frozen? ⟨w.heap.size + 1, k, none⟩ = false := frozen_of_row _ _ _ _ _ (tabW_heap w k)
          repeat' (first | go_values | go_skip | go_guarded | go_step | go_upon)
          go_roundw
          case rel => exact ⟨k + 1, by go_num, hk2, rfl⟩
          case measure => simp [intOf]; omega
    · obtain rfl : k = 256 := by omega
      repeat' (first | (with_reducible refine wp_load_row _ _ rfl _ rfl _ _ _ _ (tabW_heap w 256) under_tab rfl (by rw [tabTo_size]; exact info_tab) ?_) | (with_reducible refine wp_store_row _ _ _ rfl _ _ rfl rfl _ _ (tabW_old w 256) (by rw [tabTo_size]; exact info_tab) (by rw [tabTo_size, tabTo_size]) (tabTo_one _) ?_) | go_values | go_skip | go_guarded | go_step | go_upon)
      refine bodyPost_ret (v := .agg (tabTo 256)) (results_cell_row rfl _ _ _ _ _ _ _ rfl (setRow_heap _ _ _ _ _ _ (tabW_old w 256)) under_tab rfl (by rw [tabTo_size]; exact info_tab)) rfl ⟨rfl, ?_⟩
      exact Below.rowS Hw.out (Nat.le_refl _) _
end Go.Proofs.Ytbomloodllddaaa
/- Walks: the sum of a text (sum.On, sum.Of). Conditions: the sum is of 32 bits; the text is of at most 10^15 bytes. -/
namespace Go.Proofs.Ytbomloodllddaaa
open Go.RowKit
theorem u32_not (c : Nat) (h : c < 4294967296) : bits .xor .u32 4294967295 (c : Int) = ((inv32 c : Nat) : Int) := by
  rw [show (4294967295 : Int) = ((4294967295 : Nat) : Int) from rfl, u32_xor_nat _ _ (by decide) h, inv32_xor h]
theorem max_u32 : IntKind.u32.max = 4294967295 := by decide
/-- the table lies in block g -/
def TabAt (w : World) (g : Nat) : Prop := w.heap[g]? = some (.cells (tabTo 256) 168 (0, 0))
theorem TabAt.cell {w : World} {g : Nat} (h : TabAt w g) (n : Nat) (hn : n < 256) : w.cell? ⟨g, n, none⟩ = some (.int .u32 ((stps 8 n : Nat) : Int)) := by
  rw [cell_of_row w g n _ _ _ h, tabTo_at _ _ hn, if_pos hn]
theorem TabAt.alloc (w : World) : TabAt ((w.alloc (.cells (tabTo 0) 168)).setRow w.heap.size (tabTo 256)) w.heap.size := by
  rw [World.setRow_alloc_new]; exact heap_alloc_new _ _

set_option maxRecDepth 100000 in
set_option maxHeartbeats 400000 in
theorem sum_On (c : Nat) (hc : U32 c) (s : ByteArray) (hs : s.size ≤ 1000000000000000) (w : World) :
    Calls Try.prog 103 #[.int .u32 c, .string s] w fun e w' => e = .returned (.int .u32 (sumOn c s.data.toList : Nat)) ∧ Below w.heap.size w w' := by
  have hz := run_zero_tab
  have e0 := u32_not c (u32_le hc)
  have em := max_u32
  have es : IntKind.u32.signed = false := rfl
  have hi := inv32_lt c
  obtain ⟨r, hr⟩ : ∃ r, sumOn c s.data.toList = r := ⟨_, rfl⟩
  rw [hr]
  have Hr := Lib.hid hr; clear hr
  go_enter Try.func103, Try.ntmps103
  repeat' (first | go_values | go_skip | go_guarded | go_step | go_upon)
  refine Calls.mono (sum_table _) ?_
  rintro _ w1 ⟨rfl, hb1⟩
  dsimp only
  have Hb1 := Lib.hid hb1
  repeat' (first | (with_reducible refine wp_store_row _ _ _ rfl _ _ rfl rfl _ _ (heap_alloc_new w1 _) (by rw [tabTo_size]; exact info_tab) (by rw [tabTo_size, tabTo_size]) (tabTo_one _) ?_) | go_values | go_skip | go_guarded | go_step | go_upon)
  have ht := TabAt.alloc w1
  have hb2 : Below w.heap.size w ((w1.alloc (.cells (tabTo 0) 168)).setRow w1.heap.size (tabTo 256)) := Below.rowS (Hb1.out.alloc Hb1.out.size _) Hb1.out.size _
  clear hb1 Hb1 hz
  generalize ((w1.alloc (.cells (tabTo 0) 168)).setRow w1.heap.size (tabTo 256)) = W at ht hb2
  generalize w1.heap.size = g at ht
  have Ht := Lib.hid ht
  have Hb := Lib.hid hb2
  clear ht hb2
  go_loop [0, 12] (fun s0 s12 => ∃ k x : Nat, s12 = .int .i64 k ∧ k ≤ s.size ∧ s0 = .int .u32 x ∧ x < 4294967296 ∧ Hid (x = reg (inv32 c) (s.data.toList.take k))) (fun _ s12 => s.size - (intOf s12).toNat)
  case atStart => exact ⟨0, inv32 c, rfl, Nat.zero_le _, rfl, hi, Lib.hid (by rw [List.take_zero, reg_nil])⟩
  case round =>
    obtain ⟨k, x, rfl, hk, rfl, hx, Hx⟩ := hrel
    clear e0 hi
    by_cases hlt : k < s.size
    · have hlt' : (k : Int) < s.size := by omega
      obtain ⟨b, hb⟩ : ∃ b, s[k].toNat = b := ⟨_, rfl⟩
      have hbl : b < 256 := by rw [← hb]; exact s[k].toNat_lt
      have hst := reg_at (inv32 c) s k hlt
      rw [← Hx.out, hb, ← stps_table x b] at hst
      obtain ⟨n, hn⟩ : ∃ n, x % 256 ^^^ b = n := ⟨_, rfl⟩
      rw [hn] at hst
      have hn2 : n < 256 := by rw [← hn]; exact Nat.xor_lt_two_pow (n := 8) (by omega) hbl
      have hx1 : bits .xor .u8 ((x : Int) % 256) (b : Int) = (n : Int) := by rw [← hn]; exact u8_xor_nat (x % 256) b (by omega) hbl
      have hx2 : bits .xor .u32 ((stps 8 n : Nat) : Int) ((x : Int) / 256) = ((stps 8 n ^^^ x / 256 : Nat) : Int) := u32_xor_nat (stps 8 n) (x / 256) (stps_lt 8 (by omega)) (by omega)
      have hy : stps 8 n ^^^ x / 256 < 4294967296 := Nat.xor_lt_two_pow (n := 32) (stps_lt 8 (by omega)) (by omega)
      have hc8 := Ht.out.cell n hn2
      have hbw : IntKind.u8.wrap (x : Int) = (x : Int) % 256 := rfl
      have Hst := Lib.hid hst; clear hst hn
      repeat' (first | go_values | go_skip | go_guarded | go_step | go_upon)

      go_round
      case rel => exact ⟨k + 1, _, by go_num, hlt, rfl, hy, Lib.hid Hst.out.symm⟩
      case measure => simp [intOf]; omega
    · obtain rfl : k = s.size := by omega
      have e2 := u32_not x hx
      repeat' (first | go_values | go_skip | go_guarded | go_step | go_upon)
      go_ret
      exact ⟨by
        have hx' := Hx.out
        rw [List.take_of_length_le (by simp)] at hx'
        rw [← Hr.out]
        exact ret_u32 (by rw [hx']; rfl), Hb.out⟩
set_option maxRecDepth 100000 in
theorem sum_Of (s : ByteArray) (hs : s.size ≤ 1000000000000000) (w : World) :
    Calls Try.prog 67 #[.string s] w fun e w' => e = .returned (.int .u32 (sumOn 0 s.data.toList : Nat)) ∧ Below w.heap.size w w' := by
  go_enter Try.func67, Try.ntmps67
  repeat' (first | go_values | go_skip | go_guarded | go_step | go_upon)
  refine Calls.mono (sum_On 0 (by unfold U32; omega) s hs _) ?_
  rintro _ w1 ⟨rfl, hb1⟩
  dsimp only
  repeat' (first | go_values | go_skip | go_guarded | go_step | go_upon)
  go_ret
  exact ⟨rfl, hb1⟩
end Go.Proofs.Ytbomloodllddaaa
/- Walk: a text with bits turned (fretsawref03.Turned). Conditions: the text is of at most 10^6 bytes, the first bit lies in it. -/
namespace Go.Proofs.Ytbomloodllddaaa
open Go.RowKit
theorem num_set : ∀ (l : List UInt8) (j m : Nat), j < l.length → m < 8 → num (l.set j (u8 (at8 l j ^^^ 2 ^ m))) = num l ^^^ 2 ^ (8 * j + m)
  | [], _, _, h, _ => by simp at h
  | b :: l, 0, m, _, hm => by
    have h2 : (2 : Nat) ^ m < 2 ^ 8 := Nat.pow_lt_pow_right (by omega) hm
    have h3 : b.toNat ^^^ 2 ^ m < 256 := Nat.xor_lt_two_pow (n := 8) b.toNat_lt h2
    have e : (u8 (at8 (b :: l) 0 ^^^ 2 ^ m)).toNat = b.toNat ^^^ 2 ^ m := by rw [u8_toNat]; exact Nat.mod_eq_of_lt h3
    rw [List.set_cons_zero, num, num, e, Nat.mul_zero, Nat.zero_add, Nat.xor_assoc, Nat.xor_comm (2 ^ m), ← Nat.xor_assoc]
  | b :: l, j + 1, m, h, hm => by
    rw [List.set_cons_succ, num, num, show at8 (b :: l) (j + 1) = at8 l j from rfl, num_set l j m (by simpa using h) hm, Nat.xor_assoc]
    congr 1
    apply Nat.eq_of_testBit_eq
    intro i
    rw [show 2 ^ (8 * (j + 1) + m) = 2 ^ 8 * 2 ^ (8 * j + m) from by rw [← Nat.pow_add]; congr 1; omega, Nat.testBit_xor, show (256 : Nat) = 2 ^ 8 from rfl, Nat.testBit_two_pow_mul, Nat.testBit_two_pow_mul, Nat.testBit_two_pow_mul, Nat.testBit_xor]
    by_cases hi : i ≥ 8 <;> simp [hi]
/-- t is s with bits turned, of 32 from the k-th on -/
def IsTurned (s t : List UInt8) (k n : Nat) : Prop := t.length = s.length ∧ ∃ q, q < 2 ^ n ∧ num s ^^^ num t = 2 ^ k * q
theorem IsTurned.refl (s : List UInt8) (k : Nat) : IsTurned s s k 0 := ⟨rfl, 0, by decide, by simp⟩
theorem IsTurned.mono {s t : List UInt8} {k n : Nat} (h : IsTurned s t k n) : IsTurned s t k (n + 1) := by
  obtain ⟨h1, q, h2, h3⟩ := h
  exact ⟨h1, q, by rw [Nat.pow_succ]; omega, h3⟩
theorem IsTurned.next {s t : List UInt8} {k n j m : Nat} (h : IsTurned s t k n) (hj : j < t.length) (hm : m < 8) (he : 8 * j + m = k + n) : IsTurned s (t.set j (u8 (at8 t j ^^^ 2 ^ m))) k (n + 1) := by
  obtain ⟨h1, q, h2, h3⟩ := h
  refine ⟨by rw [List.length_set, h1], q ^^^ 2 ^ n, Nat.xor_lt_two_pow (Nat.lt_trans h2 (by rw [Nat.pow_succ]; have := Nat.two_pow_pos n; omega)) (Nat.pow_lt_pow_right (by omega) (by omega)), ?_⟩
  rw [num_set t j m hj hm, ← Nat.xor_assoc, h3, he, Nat.pow_add]
  apply Nat.eq_of_testBit_eq
  intro i
  rw [Nat.testBit_xor, Nat.testBit_two_pow_mul, Nat.testBit_two_pow_mul, Nat.testBit_two_pow_mul, Nat.testBit_xor]
  by_cases hi : i ≥ k <;> simp [hi]
end Go.Proofs.Ytbomloodllddaaa
