/- Walk: a set's bytes, rising (set.Bytes). No conditions but the table of math/bits.TrailingZeros64. -/
import Derived.Test.YtonkenlkigfeoaaGreatDoorPk16
import Derived.Test.YtonkenlkigfeoaaGreatDoorPk01
import Derived.Test.YtonkenlkigfeoaaGreatDoorPk20
namespace Go.Proofs.YtonkenlkigfeoaaGreatDoor
open Go.RowKit Bits
theorem bytesTo_none (p : Nat → Bool) (a : Nat) : ∀ n, (∀ j, j < n → p (a + j) = false) → bytesTo p (a + n) = bytesTo p a
 | 0, _ => rfl
 | n + 1, h => by
   rw [← Nat.add_assoc, bytesTo_succ, h n (by omega), if_neg (by decide), List.append_nil]; exact bytesTo_none p a n fun j hj => h j (by omega)
/-- the bits of a word from c on -/
def Rest (p : Nat → Bool) (k c y : Nat) : Prop := ∀ j, y.testBit j = (decide (c ≤ j) && (W p k).testBit j)
theorem rest_start (p : Nat → Bool) (k : Nat) : Rest p k 0 (W p k) := fun j => by simp
theorem rest_end {p : Nat → Bool} {k c : Nat} (hc : c ≤ 64) (h : Rest p k c 0) : bytesTo p (64 * (k + 1)) = bytesTo p (64 * k + c) := by
 rw [show 64 * (k + 1) = 64 * k + c + (64 - c) by omega]; refine bytesTo_none p _ _ fun j hj => ?_
 have := h (c + j); rw [W_bit] at this; have hlt : c + j < 64 := by omega
 simp [hlt] at this
 rw [Nat.add_assoc]; exact this
theorem rest_step {p : Nat → Bool} {k c y : Nat} (hy : y < 18446744073709551616) (h0 : y ≠ 0) (h : Rest p k c y) : Lib.ctz 64 y < 64 ∧ c ≤ Lib.ctz 64 y ∧ Rest p k (Lib.ctz 64 y + 1) (y &&& (y - 1)) ∧ bytesTo p (64 * k + (Lib.ctz 64 y + 1)) = bytesTo p (64 * k + c) ++ [64 * k + Lib.ctz 64 y] := by
 obtain ⟨t, ht, hz, h1, hl, hr⟩ := low_bit y hy h0; have hb := Lib.lowest_bit 64 y h0 hy; have e : Lib.ctz 64 y = t := (Nat.pow_right_inj (show 1 < 2 by decide)).1 (by rw [← hb.1, hl]); rw [e]; have hct : c ≤ t := by
   have := h t; rw [h1] at this
   simp at this
   exact this.1
 have hwt : p (64 * k + t) = true := by
   have := h t; rw [h1, W_bit] at this
   simp [ht] at this
   exact this.2
 refine ⟨ht, hct, fun j => ?_, ?_⟩
 · rw [hr, h j]
   by_cases hj : t < j
   · have : c ≤ j := by omega
     have h3 : j ≠ t := by omega
     simp [this, h3]; omega
   · by_cases hjt : j = t
     · subst hjt; have : ¬ j + 1 ≤ j := by omega
       simp [this]
     · have hjz := hz j (by omega); have hjc := h j; rw [hjz] at hjc; rw [← hjc]; have : ¬ t + 1 ≤ j := by omega
       simp [this]
 · rw [← Nat.add_assoc, bytesTo_succ, hwt, if_pos rfl]
   congr 1
   rw [show 64 * k + t = 64 * k + c + (t - c) by omega]; refine bytesTo_none p _ _ fun j hj => ?_
   have h3 := h (c + j); rw [hz (c + j) (by omega), W_bit] at h3; have hlt : c + j < 64 := by omega
   simp [hlt] at h3
   rw [Nat.add_assoc]; exact h3
theorem at_word (p : Nat → Bool) (k : Nat) (hk : k < 4) (w : World) : (Instr.index 24 (.agg (sc p)) (.int .i64 (k : Int))).run Tryz.prog w = .ok (.int .u64 (W p k : Nat)) w :=
 idx_word (sc p) k k rfl hk _ (by rcases (by omega : k = 0 ∨ k = 1 ∨ k = 2 ∨ k = 3) with rfl | rfl | rfl | rfl <;> rfl) w
theorem tab_keep {g : Nat} {tab : List Nat} {w w' : World} (h0 : 0 < tab.length) (h : TabAt g tab w) (hb : Below w.heap.size w w') : TabAt g tab w' := by
 have hg : g < w.heap.size := by
   have h1 := h 0 h0
   rcases Nat.lt_or_ge g w.heap.size with hg | hg
   · exact hg
   · exfalso
     unfold World.cell? at h1; rw [Array.getElem?_eq_none hg] at h1
     simp at h1
 intro j hj; rw [hb.cell hg]; exact h j hj
set_option maxRecDepth 100000 in
set_option maxHeartbeats 1000000 in
theorem set_Bytes (p : Nat → Bool) (w : World) (hT : TabAt 1 Lib.deBruijn64tab w) :
   Calls Tryz.prog 88 #[vS p] w fun e w' => e = .returned (.string ⟨((bytesTo p 256).map u8).toArray⟩) ∧ Below w.heap.size w w' := by
 go_enter Tryz.func88, Tryz.ntmps88; wkk
 go_loopw [3, 4, 5, 8] (fun s3 _ _ s8 w' => ∃ k : Nat, s8 = .int .i64 k ∧ k ≤ 4 ∧ Hid (Below w.heap.size w w') ∧ Hid (SetAt w' w.heap.size p) ∧ Hid (OwnI (w.heap.size + 1) 5 .u8 w' s3 (ints (bytesTo p (64 * k))))) (fun _ _ _ s8 _ => 4 - (intOf s8).toNat)
 case atStart =>
   exact ⟨0, rfl, by omega, Lib.hid ((Below.refl _ _).alloc (Nat.le_refl _) _), Lib.hid (Go.heap_alloc_new _ _), Lib.hid (OwnI.nil _ _ _ _)⟩
 case round =>
   obtain ⟨k, rfl, hk, Hb, H0, H1⟩ := hrel
   by_cases hlt : k < 4
   · have j0 := at_word p k hlt; simp only [sc] at j0; have hd : decide ((k : Int) < 4) = true := by simp; omega
     wkk; clear hd
     go_loopw [3, 5] (fun s3 s5 w' => ∃ c y : Nat, s5 = .int .u64 y ∧ c ≤ 64 ∧ Hid (U64 y) ∧ Hid (Rest p k c y) ∧ Hid (Below w.heap.size w w') ∧ Hid (SetAt w' w.heap.size p) ∧ Hid (OwnI (w.heap.size + 1) 5 .u8 w' s3 (ints (bytesTo p (64 * k + c))))) (fun _ s5 _ => (intOf s5).toNat)
     case atStart => exact ⟨0, W p k, rfl, by omega, Lib.hid (W_u64 p k), Lib.hid (rest_start p k), Hb, H0, H1⟩
     case round =>
       obtain ⟨c, y, rfl, hc, Hy, Hr, Hb2, H02, H2⟩ := hrel
       by_cases hy0 : y = 0
       · subst hy0; wkk
         go_roundw
         case rel => exact ⟨k + 1, by go_num, by omega, Hb2, H02, Lib.hid (by rw [rest_end hc Hr.out]; exact H2.out)⟩
         case measure => simp [intOf]; omega
       · have hst := rest_step Hy.out hy0 Hr.out; have HO := Lib.hid (bits_TrailingZeros64 y Hy.out wr (tab_keep (by decide) hT Hb2.out)); obtain ⟨t, ht⟩ : ∃ t, t = Lib.ctz 64 y := ⟨_, rfl⟩; rw [← ht] at hst HO; have Hst := Lib.hid hst; have ht64 := hst.1; have hy1 : 1 ≤ y := by omega
         have hw1 : IntKind.u64.wrap ((y : Int) - 1) = ((y - 1 : Nat) : Int) := by rw [wu64 (by omega) (by have := Hy.out; unfold U64 at *; omega)]; omega
         have hw2 := u64_and_nat y (y - 1) Hy.out (by have := Hy.out; unfold U64 at *; omega); have hylt : y &&& (y - 1) < y := Nat.lt_of_le_of_lt Nat.and_le_right (by omega); generalize y &&& (y - 1) = y' at hw2 hylt Hst; have hw3 : IntKind.u8.wrap ((k : Int) * 2 ^ 6 + t) = ((64 * k + t : Nat) : Int) := by rw [IntKind.wrap_u8]; omega
         have hln := bytesTo_length p (64 * k + c); clear hst ht hy1; wkk; refine Calls.mono (HO.out) ?_; rintro _ w1 ⟨rfl, rfl⟩; dsimp only; have hown := H2.out; have hsz : w.heap.size + 1 ≤ wr.heap.size := H02.out.lt; have hll : (ints (bytesTo p (64 * k + c))).length ≤ 256 := by simp [ints]; omega
         clear hln; wkka (first | (at_builtin; go_loud (refine app_ints (w.heap.size + 1) 1 [_] Tryz.underlying82 info_b (by decide) rfl _ _ rfl rfl rfl rfl rfl hown hsz (by omega) ?_); intro v3 w3 hown3 hb3 _))
         go_roundw
         case rel => exact ⟨t + 1, y', rfl, by omega, Lib.hid (Nat.lt_trans hylt Hy.out), Lib.hid Hst.out.2.2.1, Lib.hid (Hb2.out.trans (hb3.mono (by omega))), Lib.hid (H02.out.keepB hb3 (Nat.lt_succ_self _)), Lib.hid (by rw [Hst.out.2.2.2, ints_snoc, show ((64 * k + t : Nat) : Int) = (k : Int) * 64 + t by omega]; exact hown3)⟩
         case measure => simp [intOf]; omega
   · obtain rfl : k = 4 := by omega
     have hown := H1.out; wkka (first | (with_reducible refine wp_conv_own Tryz.underlying82 Tryz.underlying5 Tryz.underlying9 rfl _ rfl rfl hown ?_)); go_ret; exact ⟨ret_s (toU8s_ints _), Hb.out⟩
end Go.Proofs.YtonkenlkigfeoaaGreatDoor
