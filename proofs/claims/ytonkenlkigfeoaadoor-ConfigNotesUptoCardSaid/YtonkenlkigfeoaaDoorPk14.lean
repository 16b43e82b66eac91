/- Walk: whether a byte is in a set (set.Has). No conditions. -/
import Derived.Test.YtonkenlkigfeoaaDoorPk11
import Derived.Laws.BitsAllLaws
namespace Go.Proofs.YtonkenlkigfeoaaDoor
open Go.RowKit
set_option maxRecDepth 100000 in
theorem and63' : ∀ b : Fin 256, bits .and .u8 ((b.val : Nat) : Int) 63 = ((b.val % 64 : Nat) : Int) := by decide
theorem and63 (b : Nat) (hb : b < 256) : bits .and .u8 (b : Int) 63 = ((b % 64 : Nat) : Int) := and63' ⟨b, hb⟩
open Go.RowKit
theorem SetAt.setw {w : World} {g : Nat} {p : Nat → Bool} (h : SetAt w g p) (b : Nat) (hb : b < 256) (q : Nat) (hq : b / 64 = q) : SetAt (w.setCell ⟨g, q, none⟩ (.int .u64 (W (wth p b) q : Nat))) g (wth p b) := by
 have e := setCell_eq_setRow w g q _ _ _ (.int .u64 (W (wth p b) q : Nat)) h; rw [e]; unfold SetAt; rw [setRow_heap _ _ _ _ _ _ h]; have k := fun i (hi : i ≠ q) => keep_word p b i (by rw [hq]; exact hi)
 have hc : (sc p).setIfInBounds q (.int .u64 (W (wth p b) q : Nat)) = sc (wth p b) := by
   rcases (by omega : q = 0 ∨ q = 1 ∨ q = 2 ∨ q = 3) with rfl | rfl | rfl | rfl
   · simp [sc, k 1 (by decide), k 2 (by decide), k 3 (by decide)]
   · simp [sc, k 0 (by decide), k 2 (by decide), k 3 (by decide)]
   · simp [sc, k 0 (by decide), k 1 (by decide), k 3 (by decide)]
   · simp [sc, k 0 (by decide), k 1 (by decide), k 2 (by decide)]
 rw [hc]
set_option maxRecDepth 100000 in
set_option maxHeartbeats 400000 in
theorem set_Of (s : ByteArray) (hs : s.size ≤ 140737488351232) (w : World) :
   Calls Tryd.prog 81 #[.string s] w fun e w' => e = .returned (vS (ofL s.data.toList)) ∧ Below w.heap.size w w' := by
 go_enter Tryd.func81, Tryd.ntmps81; wkk
 go_loopw [4, 7] (fun _ s7 w' => ∃ k : Nat, s7 = .int .i64 k ∧ k ≤ s.size ∧ Hid (Below w.heap.size w w') ∧ Hid (SetAt w' w.heap.size (fun _ => false)) ∧ Hid (SetAt w' (w.heap.size + 1) (ofL (s.data.toList.take k)))) (fun _ s7 _ => s.size - (intOf s7).toNat)
 case atStart => exact ⟨0, rfl, Nat.zero_le _, Lib.hid (((Below.refl _ _).alloc (Nat.le_refl _) _).alloc (by simp) _), Lib.hid (SetAt.zeros w), Lib.hid (SetAt.zeros1 w)⟩
 case round =>
   obtain ⟨k, rfl, hk, Hb, H0, H1⟩ := hrel
   by_cases hlt : k < s.size
   · have hbl := at8_lt s.data.toList k; have Hsn : Hid (ofL (s.data.toList.take (k + 1)) = wth (ofL (s.data.toList.take k)) (at8 s.data.toList k)) := Lib.hid (by rw [take_next s k hlt, ofL_snoc, at8_get]); generalize ofL (s.data.toList.take k) = p at H1 Hsn; have hbt : s[k].toNat = at8 s.data.toList k := at8_get s k hlt; generalize at8 s.data.toList k = b at hbl Hsn hbt; have hmod : b % 64 < 64 := Nat.mod_lt _ (by omega); have h63 := and63 b hbl; have hpw : IntKind.u64.wrap ((2 : Int) ^ (b % 64)) = 2 ^ (b % 64) := by
       have h1 : (2 : Nat) ^ (b % 64) < 2 ^ 64 := Nat.pow_lt_pow_right (by omega) hmod; have h2 : ((2 : Int) ^ (b % 64)) = ((2 ^ (b % 64) : Nat) : Int) := by simp
       rw [h2, IntKind.wrap_u64]; generalize (2 : Nat) ^ (b % 64) = x at *; omega
     rcases cases64 hbl with h | h | h | h
     all_goals
       have hq := int64_of h; have hor := or_word p b _ h; have Hq := Lib.hid h; clear h; have q0 : ∀ nq : WB wr, nq.1.cell? ⟨w.heap.size + 1, 0, none⟩ = some (.int .u64 (W p 0 : Nat)) := fun nq => (H1.out.keep nq.2).c0
       have q1 : ∀ nq : WB wr, nq.1.cell? ⟨w.heap.size + 1, 1, none⟩ = some (.int .u64 (W p 1 : Nat)) := fun nq => (H1.out.keep nq.2).c1
       have q2 : ∀ nq : WB wr, nq.1.cell? ⟨w.heap.size + 1, 2, none⟩ = some (.int .u64 (W p 2 : Nat)) := fun nq => (H1.out.keep nq.2).c2
       have q3 : ∀ nq : WB wr, nq.1.cell? ⟨w.heap.size + 1, 3, none⟩ = some (.int .u64 (W p 3 : Nat)) := fun nq => (H1.out.keep nq.2).c3
       wkk; refine wp_region_tail 15 (by kernel_rfl) (by kernel_rfl) wr (Below.refl _ _) ?_; simp only [List.take_succ_cons, List.take_zero, List.drop_succ_cons, List.drop_zero]
       repeat (go_big_quiet_step ((fail)))
       refine wpQuiet_nil ?_; rintro _ ⟨nq, rfl⟩; have hnq := nq.2; clear q0 q1 q2 q3; have y0 := (H1.out.keep hnq).c0; have y1 := (H1.out.keep hnq).c1; have y2 := (H1.out.keep hnq).c2; have y3 := (H1.out.keep hnq).c3; have f0 := (H1.out.keep hnq).free 0; have f1 := (H1.out.keep hnq).free 1; have f2 := (H1.out.keep hnq).free 2; have f3 := (H1.out.keep hnq).free 3; have Hn0 := Lib.hid (H0.out.keep hnq); have Hn1 := Lib.hid (H1.out.keep hnq); have Hbn := Lib.hid (Hb.out.trans (hnq.mono Hb.out.size)); clear H0 H1 Hb hnq; wkk
       go_roundw
       case rel => exact ⟨k + 1, by go_num, hlt, Lib.hid (Hbn.out.setCell (by dsimp only; omega) _), Lib.hid (Hn0.out.cellOther (by omega)), Lib.hid (by rw [Hsn.out]; exact Hn1.out.setw b hbl _ Hq.out)⟩
       case measure => simp [intOf]; omega
   · obtain rfl : k = s.size := by omega
     rw [List.take_of_length_le (by simp)] at H1; wkka (first | (with_reducible refine load_set1 H1.out _ rfl rfl ?_) | (with_reducible refine store_set1 H0.out _ _ _ rfl rfl rfl ?_)); refine bodyPost_ret (v := vS (ofL s.data.toList)) (results_set rfl _ _ _ _ rfl H0.out.set) rfl ⟨rfl, ?_⟩; exact Below.row Hb.out (Nat.le_refl _) _
open Go.RowKit
def rng (lo k : Nat) : Nat → Bool := fun b => decide (lo ≤ b) && decide (b < k)
theorem rng_nil (lo : Nat) : rng lo lo = fun _ => false := by funext b; unfold rng; simp
theorem rng_succ {lo k : Nat} (h : lo ≤ k) : rng lo (k + 1) = wth (rng lo k) k := by
 funext b; unfold rng wth; rw [Bool.eq_iff_iff]; simp; omega
set_option maxRecDepth 100000 in
theorem and63i' : ∀ b : Fin 256, bits .and .i64 ((b.val : Nat) : Int) 63 = ((b.val % 64 : Nat) : Int) := by decide
theorem and63i (b : Nat) (hb : b < 256) : bits .and .i64 (b : Int) 63 = ((b % 64 : Nat) : Int) := and63i' ⟨b, hb⟩
set_option maxRecDepth 100000 in
set_option maxHeartbeats 400000 in
theorem set_Range (lo hi : Nat) (hlo : lo < 256) (hhi : hi < 256) (w : World) :
   Calls Tryd.prog 88 #[.int .u8 lo, .int .u8 hi] w fun e w' => e = .returned (vS (rng lo (hi + 1))) ∧ Below w.heap.size w w' := by
 go_enter Tryd.func88, Tryd.ntmps88; wkk
 go_loopw [6] (fun s7 w' => ∃ k : Nat, s7 = .int .i64 k ∧ lo ≤ k ∧ (k ≤ hi + 1 ∨ k = lo) ∧ Hid (Below w.heap.size w w') ∧ Hid (SetAt w' w.heap.size (fun _ => false)) ∧ Hid (SetAt w' (w.heap.size + 1) (rng lo k))) (fun s7 _ => hi + 1 - (intOf s7).toNat)
 case atStart => exact ⟨lo, rfl, Nat.le_refl _, .inr rfl, Lib.hid (((Below.refl _ _).alloc (Nat.le_refl _) _).alloc (by simp) _), Lib.hid (SetAt.zeros w), Lib.hid (by rw [rng_nil]; exact SetAt.zeros1 w)⟩
 case round =>
   obtain ⟨k, rfl, hk, hk2, Hb, H0, H1⟩ := hrel
   by_cases hlt : k ≤ hi
   · have hbl : k < 256 := by omega
     have Hsn : Hid (rng lo (k + 1) = wth (rng lo k) k) := Lib.hid (rng_succ hk); generalize rng lo k = p at H1 Hsn; obtain ⟨b, hb⟩ : ∃ b, b = k := ⟨_, rfl⟩; obtain rfl := hb; have hmod : b % 64 < 64 := Nat.mod_lt _ (by omega); have h63 := and63i b hbl; have hpw : IntKind.u64.wrap ((2 : Int) ^ (b % 64)) = 2 ^ (b % 64) := by
       have h1 : (2 : Nat) ^ (b % 64) < 2 ^ 64 := Nat.pow_lt_pow_right (by omega) hmod; have h2 : ((2 : Int) ^ (b % 64)) = ((2 ^ (b % 64) : Nat) : Int) := by simp
       rw [h2, IntKind.wrap_u64]; generalize (2 : Nat) ^ (b % 64) = x at *; omega
     rcases cases64 hbl with h | h | h | h
     all_goals
       have hq := int64_of h; have hor := or_word p b _ h; have Hq := Lib.hid h; clear h; have q0 : ∀ nq : WB wr, nq.1.cell? ⟨w.heap.size + 1, 0, none⟩ = some (.int .u64 (W p 0 : Nat)) := fun nq => (H1.out.keep nq.2).c0
       have q1 : ∀ nq : WB wr, nq.1.cell? ⟨w.heap.size + 1, 1, none⟩ = some (.int .u64 (W p 1 : Nat)) := fun nq => (H1.out.keep nq.2).c1
       have q2 : ∀ nq : WB wr, nq.1.cell? ⟨w.heap.size + 1, 2, none⟩ = some (.int .u64 (W p 2 : Nat)) := fun nq => (H1.out.keep nq.2).c2
       have q3 : ∀ nq : WB wr, nq.1.cell? ⟨w.heap.size + 1, 3, none⟩ = some (.int .u64 (W p 3 : Nat)) := fun nq => (H1.out.keep nq.2).c3
       wkk; refine wp_region_tail 11 (by kernel_rfl) (by kernel_rfl) wr (Below.refl _ _) ?_; simp only [List.take_succ_cons, List.take_zero, List.drop_succ_cons, List.drop_zero]
       repeat (go_big_quiet_step ((fail)))
       refine wpQuiet_nil ?_; rintro _ ⟨nq, rfl⟩; have hnq := nq.2; clear q0 q1 q2 q3; have y0 := (H1.out.keep hnq).c0; have y1 := (H1.out.keep hnq).c1; have y2 := (H1.out.keep hnq).c2; have y3 := (H1.out.keep hnq).c3; have f0 := (H1.out.keep hnq).free 0; have f1 := (H1.out.keep hnq).free 1; have f2 := (H1.out.keep hnq).free 2; have f3 := (H1.out.keep hnq).free 3; have Hn0 := Lib.hid (H0.out.keep hnq); have Hn1 := Lib.hid (H1.out.keep hnq); have Hbn := Lib.hid (Hb.out.trans (hnq.mono Hb.out.size)); clear H0 H1 Hb hnq; wkk
       go_roundw
       case rel => exact ⟨b + 1, by go_num, by omega, .inl (by omega), Lib.hid (Hbn.out.setCell (by dsimp only; omega) _), Lib.hid (Hn0.out.cellOther (by omega)), Lib.hid (by rw [Hsn.out]; exact Hn1.out.setw b hbl _ Hq.out)⟩
       case measure => simp [intOf]; omega
   · have e : rng lo k = rng lo (hi + 1) := by
       rcases hk2 with h | h
       · rw [show k = hi + 1 by omega]
       · rw [h, rng_nil]; funext b; unfold rng; simp; omega
     rw [e] at H1; clear e; wkka (first | (with_reducible refine load_set1 H1.out _ rfl rfl ?_) | (with_reducible refine store_set1 H0.out _ _ _ rfl rfl rfl ?_)); refine bodyPost_ret (v := vS (rng lo (hi + 1))) (results_set rfl _ _ _ _ rfl H0.out.set) rfl ⟨rfl, ?_⟩; exact Below.row Hb.out (Nat.le_refl _) _
end Go.Proofs.YtonkenlkigfeoaaDoor
