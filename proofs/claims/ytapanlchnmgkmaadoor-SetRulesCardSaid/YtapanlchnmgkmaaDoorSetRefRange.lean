/- Walk: the reference's set of the bytes from one to another one. No conditions. -/
import Derived.Test.YtapanlchnmgkmaaDoorSetRange
namespace Go.Proofs.YtapanlchnmgkmaaDoor
open Go.RowKit
/-- those of lo to hi that are below k -/
def rngTo (lo hi k : Nat) : Nat → Bool := fun b => decide (b < k) && rng lo (hi + 1) b
theorem rngTo_zero (lo hi : Nat) : rngTo lo hi 0 = fun _ => false := by funext b; simp [rngTo]
theorem rngTo_in {lo hi k : Nat} (h1 : lo ≤ k) (h2 : k ≤ hi) : rngTo lo hi (k + 1) = wth (rngTo lo hi k) k := by
  funext b; unfold rngTo rng wth; rw [Bool.eq_iff_iff]; simp; omega
theorem rngTo_out {lo hi k : Nat} (h : ¬ (lo ≤ k ∧ k ≤ hi)) : rngTo lo hi (k + 1) = rngTo lo hi k := by
  funext b; unfold rngTo rng; rw [Bool.eq_iff_iff]; simp; omega
theorem rngTo_all (lo hi : Nat) : vS (rngTo lo hi 256) = vS (rng lo (hi + 1)) := vS_congr fun b hb => by unfold rngTo; simp [hb]
set_option maxRecDepth 100000 in
set_option maxHeartbeats 400000 in
theorem ref_Range (lo hi : Nat) (hlo : lo < 256) (hhi : hi < 256) (w : World) :
    Calls Tryd.prog 8 #[.int .u8 lo, .int .u8 hi] w fun e w' => e = .returned (vS (rng lo (hi + 1))) ∧ Below w.heap.size w w' := by
  rw [← rngTo_all]
  go_enter Tryd.func8, Tryd.ntmps8
  repeat' (first | go_values | go_skip | go_guarded | go_step | go_upon)
  go_loopw [6] (fun s6 w' => ∃ k : Nat, s6 = .int .i64 k ∧ k ≤ 256 ∧ Hid (Below w.heap.size w w') ∧ Hid (SetAt w' w.heap.size (fun _ => false)) ∧ Hid (SetAt w' (w.heap.size + 1) (rngTo lo hi k))) (fun s6 _ => 256 - (intOf s6).toNat)
  case atStart => exact ⟨0, rfl, Nat.zero_le _, Lib.hid (((Below.refl _ _).alloc (Nat.le_refl _) _).alloc (by simp) _), Lib.hid (SetAt.zeros w), Lib.hid (by rw [rngTo_zero]; exact SetAt.zeros1 w)⟩
  case round =>
    obtain ⟨k, rfl, hk, Hb, H0, H1⟩ := hrel
    by_cases hlt : k < 256
    · by_cases hin : lo ≤ k ∧ k ≤ hi
      · have hin1 := hin.1
        have hin2 := hin.2
        have Hsn := Lib.hid (rngTo_in hin.1 hin.2)
        clear hin
        generalize rngTo lo hi k = p at H1 Hsn
        have h0 := H1.out.c0
        have h1 := H1.out.c1
        have h2 := H1.out.c2
        have h3 := H1.out.c3
        repeat' (first | go_values | go_skip | go_guarded | go_step | go_upon)
        refine Calls.mono (ref_With p k hlt _) ?_
        rintro _ w2 ⟨rfl, hnq⟩
        dsimp only
        clear h0 h1 h2 h3
        have Hn0 := Lib.hid (H0.out.keep hnq)
        have Hn1 := Lib.hid (H1.out.keep hnq)
        have Hbn := Lib.hid (Hb.out.trans (hnq.mono Hb.out.size))
        clear H0 H1 Hb hnq
        repeat' (first | (with_reducible refine store_set1 Hn1.out (wth p k) _ _ rfl rfl rfl ?_) | go_values | go_skip | go_guarded | go_step | go_upon)
        go_roundw
        case rel => exact ⟨k + 1, by go_num, hlt, Lib.hid (Below.row Hbn.out (by omega) _), Lib.hid (Hn0.out.other (by omega)), Lib.hid (by rw [Hsn.out]; exact Hn1.out.set)⟩
        case measure => simp [intOf]; omega
      · have Hsn := Lib.hid (rngTo_out hin)
        by_cases hin1 : lo ≤ k
        · have hin2 : hi < k := by omega
          clear hin
          repeat' (first | go_values | go_skip | go_guarded | go_step | go_upon)
          go_roundw
          case rel => exact ⟨k + 1, by go_num, hlt, Hb, H0, Lib.hid (by rw [Hsn.out]; exact H1.out)⟩
          case measure => simp [intOf]; omega
        · have hin2 : k < lo := by omega
          clear hin hin1
          repeat' (first | go_values | go_skip | go_guarded | go_step | go_upon)
          go_roundw
          case rel => exact ⟨k + 1, by go_num, hlt, Hb, H0, Lib.hid (by rw [Hsn.out]; exact H1.out)⟩
          case measure => simp [intOf]; omega
    · obtain rfl : k = 256 := by omega
      repeat' (first | (with_reducible refine load_set1 H1.out _ rfl rfl ?_) | (with_reducible refine store_set1 H0.out _ _ _ rfl rfl rfl ?_) | go_values | go_skip | go_guarded | go_step | go_upon)
      refine bodyPost_ret (v := vS (rngTo lo hi 256)) (results_set rfl _ _ _ _ rfl H0.out.set) rfl ⟨rfl, ?_⟩
      exact Below.row Hb.out (Nat.le_refl _) _
end Go.Proofs.YtapanlchnmgkmaaDoor
