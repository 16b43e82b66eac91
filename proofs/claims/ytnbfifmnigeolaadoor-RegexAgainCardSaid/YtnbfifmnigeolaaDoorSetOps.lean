/- Walks: what is in one or the other, in both, in neither (set.Join, set.Meet, set.Not). No conditions. -/
import Derived.Test.YtnbfifmnigeolaaDoorSetRef
namespace Go.Proofs.YtnbfifmnigeolaaDoor
open Go.RowKit
/-- the first k words are r's, the others p's -/
def mixTo (p r : Nat → Bool) (k : Nat) : Nat → Bool := fun b => if b / 64 < k then r b else p b
theorem mix_zero (p r : Nat → Bool) : mixTo p r 0 = p := by funext b; simp [mixTo]
theorem mix_four (p r : Nat → Bool) (b : Nat) (hb : b < 256) : mixTo p r 4 b = r b := by
  unfold mixTo; rw [if_pos (by omega)]
theorem mix_at (p r : Nat → Bool) (k i : Nat) : W (mixTo p r k) i = if i < k then W r i else W p i := by
  by_cases h : i < k
  · rw [if_pos h]
    exact (W_ext (W_u64 r i) fun j hj => by
      rw [W_bit]
      have e : (64 * i + j) / 64 = i := by omega
      simp [mixTo, e, h, hj]).symm
  · rw [if_neg h]
    exact (W_ext (W_u64 p i) fun j hj => by
      rw [W_bit]
      have e : (64 * i + j) / 64 = i := by omega
      simp [mixTo, e, h, hj]).symm
theorem SetAt.setk {w : World} {g : Nat} {p r : Nat → Bool} {k : Nat} (h : SetAt w g (mixTo p r k)) (hk : k < 4) : SetAt (w.setCell ⟨g, k, none⟩ (.int .u64 (W r k : Nat))) g (mixTo p r (k + 1)) := by
  have e := setCell_eq_setRow w g k _ _ _ (.int .u64 (W r k : Nat)) h
  rw [e]
  unfold SetAt
  rw [setRow_heap _ _ _ _ _ _ h]
  have hc : (sc (mixTo p r k)).setIfInBounds k (.int .u64 (W r k : Nat)) = sc (mixTo p r (k + 1)) := by
    rcases (by omega : k = 0 ∨ k = 1 ∨ k = 2 ∨ k = 3) with rfl | rfl | rfl | rfl <;> simp [sc, mix_at]
  rw [hc]
theorem SetAt.free {w : World} {g : Nat} {p : Nat → Bool} (h : SetAt w g p) (k : Nat) : w.frozen? ⟨g, k, none⟩ = false := frozen_of_row _ _ _ _ _ h
theorem SetAt.cellOther {w : World} {g g' k : Nat} {p : Nat → Bool} {v : Value} (h : SetAt w g p) (hg : g ≠ g') : SetAt (w.setCell ⟨g', k, none⟩ v) g p := by
  unfold SetAt; rw [heap_setCell_other _ _ _ _ (by dsimp only; omega)]; exact h
theorem u64_or_W (p q : Nat → Bool) (k : Nat) : bits .or .u64 ((W p k : Nat) : Int) ((W q k : Nat) : Int) = ((W (fun b => p b || q b) k : Nat) : Int) := by
  rw [u64_or_nat _ _ (W_lt _ _) (W_lt _ _), W_or]
theorem u64_and_W (p q : Nat → Bool) (k : Nat) : bits .and .u64 ((W p k : Nat) : Int) ((W q k : Nat) : Int) = ((W (fun b => p b && q b) k : Nat) : Int) := by
  rw [u64_and_nat _ _ (W_lt _ _) (W_lt _ _), W_and]
set_option maxRecDepth 100000 in
set_option maxHeartbeats 400000 in
theorem set_Join (p q : Nat → Bool) (w : World) :
    Calls Tryd.prog 83 #[vS p, vS q] w fun e w' => e = .returned (vS fun b => p b || q b) ∧ Below w.heap.size w w' := by
  go_enter Tryd.func83, Tryd.ntmps83
  repeat' (first | go_values | go_skip | go_guarded | go_step | go_upon)
  refine gen_world (fun w' => Par2 w w' p q) (params2 w p q) ?_
  rintro ws ⟨hb, h0, h1, h2⟩
  go_loopw [5, 6] (fun _ s6 w' => ∃ k : Nat, s6 = .int .i64 k ∧ k ≤ 4 ∧ Hid (Below w.heap.size w w') ∧ Hid (SetAt w' w.heap.size (mixTo p (fun b => p b || q b) k)) ∧ Hid (SetAt w' (w.heap.size + 1) q) ∧ Hid (SetAt w' (w.heap.size + 1 + 1) fun _ => false)) (fun _ s6 _ => 4 - (intOf s6).toNat)
  case atStart => exact ⟨0, rfl, by omega, Lib.hid hb, Lib.hid (by rw [mix_zero]; exact h0), Lib.hid h1, Lib.hid h2⟩
  case round =>
    obtain ⟨k, rfl, hk, Hb, H0, H1, H2⟩ := hrel
    by_cases hlt : k < 4
    · have q0 : ∀ nq : WB wr, nq.1.cell? ⟨w.heap.size, k, none⟩ = some (.int .u64 (W p k : Nat)) := fun nq => by
        have := (H0.out.keep nq.2).cell k hlt
        rw [mix_at, if_neg (by omega)] at this
        exact this
      have q1 : ∀ nq : WB wr, nq.1.cell? ⟨w.heap.size + 1, k, none⟩ = some (.int .u64 (W q k : Nat)) := fun nq => (H1.out.keep nq.2).cell k hlt
      have e := u64_or_W p q k
      repeat' (first | go_values | go_skip | go_guarded | go_step | go_upon)
      refine wp_region_tail 11 (by kernel_rfl) (by kernel_rfl) wr (Below.refl _ _) ?_
      simp only [List.take_succ_cons, List.take_zero, List.drop_succ_cons, List.drop_zero]
      repeat (go_big_quiet_step ((fail)))
      refine wpQuiet_nil ?_
      rintro _ ⟨nq, rfl⟩
      have hnq := nq.2
      have c0 := q0 nq
      have f0 := (H0.out.keep hnq).free k
      clear q0 q1 e
      have Hn0 := Lib.hid (H0.out.keep hnq)
      have Hn1 := Lib.hid (H1.out.keep hnq)
      have Hn2 := Lib.hid (H2.out.keep hnq)
      have Hbn := Lib.hid (Hb.out.trans (hnq.mono Hb.out.size))
      clear H0 H1 H2 Hb hnq
      repeat' (first | go_values | go_skip | go_guarded | go_step | go_upon)
      go_roundw
      case rel => exact ⟨k + 1, by go_num, hlt, Lib.hid (Hbn.out.setCell (Nat.le_refl _) _), Lib.hid (Hn0.out.setk hlt), Lib.hid (Hn1.out.cellOther (by omega)), Lib.hid (Hn2.out.cellOther (by omega))⟩
      case measure => simp [intOf]; omega
    · obtain rfl : k = 4 := by omega
      repeat' (first | (with_reducible refine load_set1 H0.out _ rfl rfl ?_) | (with_reducible refine store_set1 H2.out _ _ _ rfl rfl rfl ?_) | go_values | go_skip | go_guarded | go_step | go_upon)
      refine bodyPost_ret (v := vS (mixTo p (fun b => p b || q b) 4)) (results_set rfl _ _ _ _ rfl H2.out.set) rfl ⟨?_, ?_⟩
      · exact congrArg Ending.returned (vS_congr fun b hb => mix_four _ _ b hb)
      · exact Below.row Hb.out (by omega) _
theorem u64_not_W (p : Nat → Bool) (k : Nat) : bits .xor .u64 (if IntKind.u64.signed = true then -1 else IntKind.u64.max) ((W p k : Nat) : Int) = ((W (fun b => !p b) k : Nat) : Int) := by
  rw [if_neg (by decide), show IntKind.u64.max = ((18446744073709551615 : Nat) : Int) from by decide, u64_xor_nat _ _ (by decide) (W_lt _ _)]
  congr 1
  refine W_ext (Nat.xor_lt_two_pow (n := 64) (by decide) (W_lt _ _)) fun j hj => ?_
  rw [Nat.testBit_xor, show 18446744073709551615 = 2 ^ 64 - 1 from rfl, Nat.testBit_two_pow_sub_one, W_bit]
  simp [hj]
set_option maxRecDepth 100000 in
set_option maxHeartbeats 400000 in
theorem set_Not (p : Nat → Bool) (w : World) :
    Calls Tryd.prog 45 #[vS p] w fun e w' => e = .returned (vS fun b => !p b) ∧ Below w.heap.size w w' := by
  go_enter Tryd.func45, Tryd.ntmps45
  repeat' (first | go_values | go_skip | go_guarded | go_step | go_upon)
  have hb : Below w.heap.size w ((w.alloc (.cells (sc p) 25)).alloc (.cells #[.int .u64 0, .int .u64 0, .int .u64 0, .int .u64 0] 25)) := ((Below.refl _ _).alloc (Nat.le_refl _) _).alloc (by simp) _
  have h0 : SetAt ((w.alloc (.cells (sc p) 25)).alloc (.cells #[.int .u64 0, .int .u64 0, .int .u64 0, .int .u64 0] 25)) w.heap.size p := SetAt.keep (show SetAt (w.alloc (.cells (sc p) 25)) w.heap.size p from Go.heap_alloc_new _ _) ((Below.refl _ _).alloc (Nat.le_refl _) _)
  have h1 : SetAt ((w.alloc (.cells (sc p) 25)).alloc (.cells #[.int .u64 0, .int .u64 0, .int .u64 0, .int .u64 0] 25)) (w.heap.size + 1) (fun _ => false) := by
    have := SetAt.zero (w.alloc (.cells (sc p) 25))
    rwa [World.size_alloc] at this
  have Hb := Lib.hid hb
  have H0 := Lib.hid h0
  have H1 := Lib.hid h1
  clear hb h0 h1
  go_loopw [3, 4] (fun _ s6 w' => ∃ k : Nat, s6 = .int .i64 k ∧ k ≤ 4 ∧ Hid (Below w.heap.size w w') ∧ Hid (SetAt w' w.heap.size (mixTo p (fun b => !p b) k)) ∧ Hid (SetAt w' (w.heap.size + 1) fun _ => false)) (fun _ s6 _ => 4 - (intOf s6).toNat)
  case atStart => exact ⟨0, rfl, by omega, Hb, Lib.hid (by rw [mix_zero]; exact H0.out), H1⟩
  case round =>
    clear Hb H0 H1
    obtain ⟨k, rfl, hk, Hb, H0, H1⟩ := hrel
    by_cases hlt : k < 4
    · have q0 : ∀ nq : WB wr, nq.1.cell? ⟨w.heap.size, k, none⟩ = some (.int .u64 (W p k : Nat)) := fun nq => by
        have := (H0.out.keep nq.2).cell k hlt
        rw [mix_at, if_neg (by omega)] at this
        exact this
      have c0 := H0.out.cell k hlt
      rw [mix_at, if_neg (by omega)] at c0
      have f0 := H0.out.free k
      have e := u64_not_W p k
      clear q0
      repeat' (first | go_values | go_skip | go_guarded | go_step | go_upon)
      go_roundw
      case rel => exact ⟨k + 1, by go_num, hlt, Lib.hid (Hb.out.setCell (Nat.le_refl _) _), Lib.hid (H0.out.setk hlt), Lib.hid (H1.out.cellOther (by omega))⟩
      case measure => simp [intOf]; omega
    · obtain rfl : k = 4 := by omega
      repeat' (first | (with_reducible refine load_set1 H0.out _ rfl rfl ?_) | (with_reducible refine store_set1 H1.out _ _ _ rfl rfl rfl ?_) | go_values | go_skip | go_guarded | go_step | go_upon)
      refine bodyPost_ret (v := vS (mixTo p (fun b => !p b) 4)) (results_set rfl _ _ _ _ rfl H1.out.set) rfl ⟨?_, ?_⟩
      · exact congrArg Ending.returned (vS_congr fun b hb => mix_four _ _ b hb)
      · exact Below.row Hb.out (by omega) _
end Go.Proofs.YtnbfifmnigeolaaDoor
