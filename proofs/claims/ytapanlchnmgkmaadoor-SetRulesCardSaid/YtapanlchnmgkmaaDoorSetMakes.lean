/- Walk: the statement SetMakes. Conditions: the text is of at most 2^47 bytes; the table of math/bits.TrailingZeros64 is as it is laid. -/
import Derived.Test.YtapanlchnmgkmaaDoorSetBytes
namespace Go.Proofs.YtapanlchnmgkmaaDoor
open Go.RowKit Bits
theorem cnt_bytes (p : Nat → Bool) : cnt p 256 = (bytesTo p 256).length := by unfold cnt bytesTo; rw [List.countP_eq_length_filter]
theorem size_bytes (p : Nat → Bool) : (⟨((bytesTo p 256).map u8).toArray⟩ : ByteArray).size = (bytesTo p 256).length := by
  show (((bytesTo p 256).map u8).toArray).size = _
  simp
theorem set_Count_len (p : Nat → Bool) (w : World) : Calls Tryd.prog 11 #[vS p] w fun e w' => e = .returned (.int .i64 ((bytesTo p 256).length : Nat)) ∧ Below w.heap.size w w' := by
  rw [← cnt_bytes]; exact set_Count p w
theorem WB.below {w0 : World} (n : WB w0) : Below w0.heap.size w0 n.1 := n.2
set_option maxRecDepth 100000 in
set_option maxHeartbeats 1000000 in
theorem walk_SetMakes (s : ByteArray) (hs : s.size ≤ 140737488351232) (lo hi : Nat) (hlo : lo < 256) (hhi : hi < 256) (p : Nat → Bool) (w : World) (hT : TabAt 0 Lib.deBruijn64tab w) :
    Calls Tryd.prog 3 #[.string s, .int .u8 lo, .int .u8 hi, vS p] w fun e w' => e = .returned (.bool true) ∧ Below w.heap.size w w' := by
  have HT := Lib.hid hT; clear hT
  have Hsz := Lib.hid (size_bytes p)
  have Hct := Lib.hid (cnt_bytes p)
  go_enter Tryd.func3, Tryd.ntmps3
  repeat' (first | go_values | go_skip | go_guarded | go_step | go_upon)
  have Hs0 : Hid (SetAt (w.alloc (.cells (sc p) 25)) w.heap.size p) := Lib.hid (Go.heap_alloc_new _ _)
  have Hb : Hid (Below w.heap.size w (w.alloc (.cells (sc p) 25))) := Lib.hid ((Below.refl _ _).alloc (Nat.le_refl _) _)
  generalize w.alloc (.cells (sc p) 25) = wr at Hs0 Hb
  have HT' := Lib.hid (tab_keep (by decide) HT.out Hb.out)
  have q0 : ∀ nq : WB wr, ∀ k, k < 4 → nq.1.cell? ⟨w.heap.size, k, none⟩ = some (.int .u64 (W p k : Nat)) := fun nq => (Hs0.out.keep nq.2).cell
  refine wp_region_wb (by kernel_rfl) (by kernel_rfl) wr (Below.refl _ _) ?_
  repeat (go_big_quiet_step ((first | (go_at_call 5; with_reducible exact calls_wb (set_Of _ hs _)) | (go_at_call 6; with_reducible exact calls_wb (ref_Of _ hs _)) | (go_at_call 7; with_reducible exact calls_wb (set_Range _ _ hlo hhi _)) | (go_at_call 8; with_reducible exact calls_wb (ref_Range _ _ hlo hhi _)) | (go_at_call 9; exact calls_wb (set_Bytes p _ (tab_keep (by decide) HT'.out (WB.below _)))) | (go_at_call 10; with_reducible exact calls_wb (ref_Bytes _ _)) | (go_at_call 11; with_reducible exact calls_wb (set_Count_len _ _)) | (go_at_call 12; with_reducible exact calls_wb (set_Has _ _ hlo _)) | (go_at_call 13; with_reducible exact calls_wb (ref_Has _ _ hlo _)))))
  refine wpQuiet_nil ?_
  rintro _ ⟨nq, rfl⟩
  have hnq := nq.2
  clear q0
  repeat' (first | go_values | go_skip | go_guarded | go_step | go_upon)
  go_ret
  exact ⟨rfl, Hb.out.trans (hnq.mono Hb.out.size)⟩
theorem law_SetMakes (s : ByteArray) (hs : s.size ≤ 140737488351232) (lo : Nat) (hlo : lo < 256) (hi : Nat) (hhi : hi < 256) (a0 : Nat) (k0 : U64 a0) (a1 : Nat) (k1 : U64 a1) (a2 : Nat) (k2 : U64 a2) (a3 : Nat) (k3 : U64 a3) (w : World) (hT : TabAt 0 Lib.deBruijn64tab w) :
    Calls Tryd.prog 3 #[.string s, .int .u8 lo, .int .u8 hi, .agg #[.int .u64 a0, .int .u64 a1, .int .u64 a2, .int .u64 a3]] w fun e w' => e = .returned (.bool true) ∧ Below w.heap.size w w' := by
  have h := walk_SetMakes s hs lo hi hlo hhi (ofW a0 a1 a2 a3) w hT
  unfold vS at h
  rwa [← W_ofW0 a1 a2 a3 k0, ← W_ofW1 a0 a2 a3 k1, ← W_ofW2 a0 a1 a3 k2, ← W_ofW3 a0 a1 a2 k3] at h
end Go.Proofs.YtapanlchnmgkmaaDoor
