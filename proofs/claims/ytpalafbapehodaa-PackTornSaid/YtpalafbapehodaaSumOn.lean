/- Walks: the sum of a text (sum.On, sum.Of). Conditions: the sum is of 32 bits; the text is of at most 10^15 bytes. -/
import Derived.Test.YtpalafbapehodaaSumTable
namespace Go.Proofs.Ytpalafbapehodaa
open Go.RowKit
theorem u32_not (c : Nat) (h : c < 4294967296) : bits .xor .u32 4294967295 (c : Int) = ((inv32 c : Nat) : Int) := by
  rw [show (4294967295 : Int) = ((4294967295 : Nat) : Int) from rfl, u32_xor_nat _ _ (by decide) h, inv32_xor h]
theorem max_u32 : IntKind.u32.max = 4294967295 := by decide
/-- the table lies in block g -/
def TabAt (w : World) (g : Nat) : Prop := w.heap[g]? = some (.cells (tabTo 256) 69 (0, 0))
theorem TabAt.cell {w : World} {g : Nat} (h : TabAt w g) (n : Nat) (hn : n < 256) : w.cell? ⟨g, n, none⟩ = some (.int .u32 ((stps 8 n : Nat) : Int)) := by
  rw [cell_of_row w g n _ _ _ h, tabTo_at _ _ hn, if_pos hn]
theorem TabAt.alloc (w : World) : TabAt ((w.alloc (.cells (tabTo 0) 69)).setRow w.heap.size (tabTo 256)) w.heap.size := by
  rw [World.setRow_alloc_new]; exact heap_alloc_new _ _

set_option maxRecDepth 100000 in
set_option maxHeartbeats 400000 in
theorem sum_On (c : Nat) (hc : U32 c) (s : ByteArray) (hs : s.size ≤ 1000000000000000) (w : World) :
    Calls Try.prog 36 #[.int .u32 c, .string s] w fun e w' => e = .returned (.int .u32 (sumOn c s.data.toList : Nat)) ∧ Below w.heap.size w w' := by
  have hz := run_zero_tab
  have e0 := u32_not c (u32_le hc)
  have em := max_u32
  have es : IntKind.u32.signed = false := rfl
  have hi := inv32_lt c
  obtain ⟨r, hr⟩ : ∃ r, sumOn c s.data.toList = r := ⟨_, rfl⟩
  rw [hr]
  have Hr := Lib.hid hr; clear hr
  go_enter Try.func36, Try.ntmps36
  repeat' (first | go_values | go_skip | go_guarded | go_step | go_upon)
  refine Calls.mono (sum_table _) ?_
  rintro _ w1 ⟨rfl, hb1⟩
  dsimp only
  have Hb1 := Lib.hid hb1
  repeat' (first | (with_reducible refine wp_store_row _ _ _ rfl _ _ rfl rfl _ _ (heap_alloc_new w1 _) (by rw [tabTo_size]; exact info_tab) (by rw [tabTo_size, tabTo_size]) (tabTo_one _) ?_) | go_values | go_skip | go_guarded | go_step | go_upon)
  have ht := TabAt.alloc w1
  have hb2 : Below w.heap.size w ((w1.alloc (.cells (tabTo 0) 69)).setRow w1.heap.size (tabTo 256)) := Below.row (Hb1.out.alloc Hb1.out.size _) Hb1.out.size _
  clear hb1 Hb1 hz
  generalize ((w1.alloc (.cells (tabTo 0) 69)).setRow w1.heap.size (tabTo 256)) = W at ht hb2
  generalize w1.heap.size = g at ht
  have Ht := Lib.hid ht
  have Hb := Lib.hid hb2
  clear ht hb2
  go_loop [0, 12] (fun s0 s12 => ∃ k x : Nat, s12 = .int .i64 k ∧ k ≤ s.size ∧ s0 = .int .u32 x ∧ x < 4294967296 ∧ Hid (x = reg (inv32 c) (s.data.toList.take k))) (fun _ s12 => s.size - (intOf s12).toNat)
  case atStart => exact ⟨0, inv32 c, rfl, Nat.zero_le _, rfl, hi, Lib.hid (by rw [List.take_zero, reg_nil])⟩
  case round =>
    obtain ⟨k, x, rfl, hk, rfl, hx, Hx⟩ := hrel
    clear e0 hi
    by_cases hlt : k < s.size
    · have hlt' : (k : Int) < s.size := by omega
      obtain ⟨b, hb⟩ : ∃ b, s[k].toNat = b := ⟨_, rfl⟩
      have hbl : b < 256 := by rw [← hb]; exact s[k].toNat_lt
      have hst := reg_at (inv32 c) s k hlt
      rw [← Hx.out, hb, ← stps_table x b] at hst
      obtain ⟨n, hn⟩ : ∃ n, x % 256 ^^^ b = n := ⟨_, rfl⟩
      rw [hn] at hst
      have hn2 : n < 256 := by rw [← hn]; exact Nat.xor_lt_two_pow (n := 8) (by omega) hbl
      have hx1 : bits .xor .u8 ((x : Int) % 256) (b : Int) = (n : Int) := by rw [← hn]; exact u8_xor_nat (x % 256) b (by omega) hbl
      have hx2 : bits .xor .u32 ((stps 8 n : Nat) : Int) ((x : Int) / 256) = ((stps 8 n ^^^ x / 256 : Nat) : Int) := u32_xor_nat (stps 8 n) (x / 256) (stps_lt 8 (by omega)) (by omega)
      have hy : stps 8 n ^^^ x / 256 < 4294967296 := Nat.xor_lt_two_pow (n := 32) (stps_lt 8 (by omega)) (by omega)
      have hc8 := Ht.out.cell n hn2
      have hbw : IntKind.u8.wrap (x : Int) = (x : Int) % 256 := rfl
      have Hst := Lib.hid hst; clear hst hn
      repeat' (first | go_values | go_skip | go_guarded | go_step | go_upon)

      go_round
      case rel => exact ⟨k + 1, _, by go_num, hlt, rfl, hy, Lib.hid Hst.out.symm⟩
      case measure => simp [intOf]; omega
    · obtain rfl : k = s.size := by omega
      have e2 := u32_not x hx
      repeat' (first | go_values | go_skip | go_guarded | go_step | go_upon)
      go_ret
      exact ⟨by
        have hx' := Hx.out
        rw [List.take_of_length_le (by simp)] at hx'
        rw [← Hr.out]
        exact ret_u32 (by rw [hx']; rfl), Hb.out⟩
set_option maxRecDepth 100000 in
theorem sum_Of (s : ByteArray) (hs : s.size ≤ 1000000000000000) (w : World) :
    Calls Try.prog 23 #[.string s] w fun e w' => e = .returned (.int .u32 (sumOn 0 s.data.toList : Nat)) ∧ Below w.heap.size w w' := by
  go_enter Try.func23, Try.ntmps23
  repeat' (first | go_values | go_skip | go_guarded | go_step | go_upon)
  refine Calls.mono (sum_On 0 (by unfold U32; omega) s hs _) ?_
  rintro _ w1 ⟨rfl, hb1⟩
  dsimp only
  repeat' (first | go_values | go_skip | go_guarded | go_step | go_upon)
  go_ret
  exact ⟨rfl, hb1⟩
end Go.Proofs.Ytpalafbapehodaa
