/- Walk: the table of a byte's eight steps (sum.table). No conditions. -/
import Derived.Test.YtpalafbapehodaaSumRefOn
import Derived.Laws.Tables
import Derived.Deep.WholeRow
namespace Go.Proofs.Ytpalafbapehodaa
open Go.RowKit
theorem under_tab : Try.prog.underlying 69 = some (.array 256 34) := by kernel_rfl
theorem info_tab : (Try.prog.info? 69).map (fun i => i.size) = some 256 := by kernel_rfl
/-- the table, of which the first k rows are filled -/
def tabTo (k : Nat) : Array Value := ((List.range 256).map fun j => Value.int .u32 ((if j < k then stps 8 j else 0 : Nat) : Int)).toArray
theorem tabTo_size (k : Nat) : (tabTo k).size = 256 := by simp [tabTo]
theorem tabTo_at (k j : Nat) (hj : j < 256) : (tabTo k)[j]? = some (Value.int .u32 ((if j < k then stps 8 j else 0 : Nat) : Int)) := by simp [tabTo, hj]
theorem tabTo_set (k : Nat) (hk : k < 256) : (tabTo k).setIfInBounds k (.int .u32 ((stps 8 k : Nat) : Int)) = tabTo (k + 1) := by
  apply Array.ext_getElem?
  intro j
  rw [Array.getElem?_setIfInBounds]
  by_cases hj : j < 256
  · rw [tabTo_at _ _ hj, tabTo_at _ _ hj]
    by_cases h : k = j
    · subst h; simp [tabTo_size, hk]
    · have : (j < k + 1) = (j < k) := by apply propext; omega
      simp [h, this]
  · have h1 : (tabTo k)[j]? = none := by simp [tabTo_size, Nat.le_of_not_lt hj]
    have h2 : (tabTo (k + 1))[j]? = none := by simp [tabTo_size, Nat.le_of_not_lt hj]
    have h : ¬ k = j := by omega
    rw [h1, h2]; simp [h]
theorem tabTo_one (k : Nat) : (tabTo k).all (·.oneCell') = true := by simp [tabTo, Value.oneCell']
theorem run_zero_tab (w : World) : (zeroValue 69).run Try.prog w = .ok (.agg (tabTo 0)) w := by
  have h : (Try.prog.info? 69).map (fun i => (i.zero, i.size)) = some (some (.agg (tabTo 0)), 256) := by kernel_rfl
  exact (zero_of_info h).1 w

theorem Below.row {B g : Nat} {w0 w : World} (hb : Below B w0 w) (hBg : B ≤ g) (cs : Array Value) : Below B w0 (w.setRow g cs) :=
  hb.trans ⟨rfl, rfl, rfl, by simp, fun k hk => setRow_other _ _ _ _ (by omega)⟩
/-- the world in which the table is being made -/
def tabW (w : World) (k : Nat) : World := (w.alloc (.cells (tabTo 0) 69)).alloc (.cells (tabTo k) 69)
theorem tabW_heap (w : World) (k : Nat) : (tabW w k).heap[w.heap.size + 1]? = some (.cells (tabTo k) 69 (0, 0)) := heap_alloc2_new ..
theorem tabW_old (w : World) (k : Nat) : (tabW w k).heap[w.heap.size]? = some (.cells (tabTo 0) 69 (0, 0)) := heap_alloc2_old ..
theorem tabW_size (w : World) (k : Nat) : (tabW w k).heap.size = w.heap.size + 2 := by simp [tabW]
theorem tabW_set (w : World) (k : Nat) (hk : k < 256) : (tabW w k).setCell ⟨w.heap.size + 1, k, none⟩ (.int .u32 ((stps 8 k : Nat) : Int)) = tabW w (k + 1) := by
  rw [setCell_eq_setRow _ _ _ _ _ _ _ (tabW_heap w k), tabTo_set k hk]
  have := World.setRow_alloc_new (w.alloc (.cells (tabTo 0) 69)) (tabTo k) (tabTo (k + 1)) 69
  rw [World.size_alloc] at this
  exact this
theorem tabW_below (w : World) (k : Nat) : Below w.heap.size w (tabW w k) := ((Below.refl _ _).alloc (Nat.le_refl _) _).alloc (by simp) _
theorem u32_and1 (c : Nat) (h : c < 4294967296) : bits .and .u32 (c : Int) 1 = ((c % 2 : Nat) : Int) := by
  rw [show (1 : Int) = ((1 : Nat) : Int) from rfl, u32_and_nat c 1 h (by decide), Nat.and_one_is_mod]
/-- a bit's step as the program makes it -/
theorem stp_mul (c : Nat) (h : c < 4294967296) : bits .xor .u32 ((c : Int) / 2) (3988292384 * ((c : Int) % 2)) = ((stp c : Nat) : Int) := by
  rcases Nat.mod_two_eq_zero_or_one c with h2 | h2
  · have e : (3988292384 * ((c : Int) % 2)) = ((0 : Nat) : Int) := by omega
    rw [e, show (c : Int) / 2 = ((c / 2 : Nat) : Int) from rfl, u32_xor_nat (c / 2) 0 (by omega) (by decide), Nat.xor_zero]
    unfold stp; rw [if_neg (by omega)]
  · have e : (3988292384 * ((c : Int) % 2)) = ((poly : Nat) : Int) := by unfold poly; omega
    rw [e, show (c : Int) / 2 = ((c / 2 : Nat) : Int) from rfl, u32_xor_nat (c / 2) poly (by omega) (by decide)]
    unfold stp; rw [if_pos h2]

set_option maxRecDepth 100000 in
set_option maxHeartbeats 400000 in
theorem sum_table (w : World) :
    Calls Try.prog 43 #[] w fun e w' => e = .returned (.agg (tabTo 256)) ∧ Below w.heap.size w w' := by
  have hz := run_zero_tab
  have Hw := Lib.hid (tabW_below w 256)
  go_enter Try.func43, Try.ntmps43
  repeat' (first | go_values | go_skip | go_guarded | go_step | go_upon)
  rw [show (w.alloc (.cells (tabTo 0) 69)).alloc (.cells (tabTo 0) 69) = tabW w 0 from rfl]
  go_loopw [4] (fun s4 w' => ∃ k : Nat, s4 = .int .i64 k ∧ k ≤ 256 ∧ w' = tabW w k) (fun s4 _ => 256 - (intOf s4).toNat)
  case atStart => exact ⟨0, rfl, Nat.zero_le _, rfl⟩
  case round =>
    obtain ⟨k, rfl, hk, rfl⟩ := hrel
    by_cases hk2 : k < 256
    · have hkw : IntKind.u32.wrap (k : Int) = k := IntWalk.u32_in _ (by omega)
      repeat' (first | go_values | go_skip | go_guarded | go_step | go_upon)
      go_loop [3, 9] (fun s3 s9 => ∃ j y : Nat, s9 = .int .i64 j ∧ j ≤ 8 ∧ s3 = .int .u32 y ∧ y < 4294967296 ∧ Hid (y = stps j k)) (fun _ s9 => 8 - (intOf s9).toNat)
      case atStart => exact ⟨0, k, rfl, by omega, rfl, by omega, Lib.hid rfl⟩
      case round =>
        obtain ⟨j, y, rfl, hj, rfl, hy, Hy⟩ := hrel
        by_cases hj8 : j < 8
        · have h1 := u32_and1 y hy
          have h2 := stp_mul y hy
          repeat' (first | go_values | go_skip | go_guarded | go_step | go_upon)
          go_round
          case rel => exact ⟨j + 1, stp y, by go_num, by omega, rfl, stp_lt hy, Lib.hid (by rw [stps_end, Hy.out])⟩
          case measure => simp [intOf]; omega
        · obtain rfl : j = 8 := by omega
          have hy' := Hy.out
          subst hy'
          have hs := tabW_set w k hk2
          have hc : (tabW w k).cell? ⟨w.heap.size + 1, k, none⟩ = some (.int .u32 ((0 : Nat) : Int)) := by rw [cell_of_row _ _ _ _ _ _ (tabW_heap w k), tabTo_at _ _ hk2, if_neg (by omega)]
          have hf : (tabW w k).frozen? ⟨w.heap.size + 1, k, none⟩ = false := frozen_of_row _ _ _ _ _ (tabW_heap w k)
          repeat' (first | go_values | go_skip | go_guarded | go_step | go_upon)
          go_roundw
          case rel => exact ⟨k + 1, by go_num, hk2, rfl⟩
          case measure => simp [intOf]; omega
    · obtain rfl : k = 256 := by omega
      repeat' (first | (with_reducible refine wp_load_row _ _ rfl _ rfl _ _ _ _ (tabW_heap w 256) under_tab rfl (by rw [tabTo_size]; exact info_tab) ?_) | (with_reducible refine wp_store_row _ _ _ rfl _ _ rfl rfl _ _ (tabW_old w 256) (by rw [tabTo_size]; exact info_tab) (by rw [tabTo_size, tabTo_size]) (tabTo_one _) ?_) | go_values | go_skip | go_guarded | go_step | go_upon)
      refine bodyPost_ret (v := .agg (tabTo 256)) (results_cell_row rfl _ _ _ _ _ _ _ rfl (setRow_heap _ _ _ _ _ _ (tabW_old w 256)) under_tab rfl (by rw [tabTo_size]; exact info_tab)) rfl ⟨rfl, ?_⟩
      exact Below.row Hw.out (Nat.le_refl _) _
end Go.Proofs.Ytpalafbapehodaa
