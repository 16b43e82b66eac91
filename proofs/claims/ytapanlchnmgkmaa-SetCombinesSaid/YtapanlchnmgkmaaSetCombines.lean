/- Walk: the statement SetCombines. No conditions. -/
import Derived.Test.YtapanlchnmgkmaaSetOps
namespace Go.Proofs.Ytapanlchnmgkmaa
open Go.RowKit
/-- two sets' parameters, in the call's own variables -/
def Par2b (w w' : World) (p q : Nat → Bool) : Prop := Below w.heap.size w w' ∧ SetAt w' w.heap.size p ∧ SetAt w' (w.heap.size + 1) q
theorem params2b (w : World) (p q : Nat → Bool) : Par2b w ((w.alloc (.cells (sc p) 25)).alloc (.cells (sc q) 25)) p q := by
  have h0 : SetAt (w.alloc (.cells (sc p) 25)) w.heap.size p := Go.heap_alloc_new _ _
  have h1 : SetAt ((w.alloc (.cells (sc p) 25)).alloc (.cells (sc q) 25)) (w.alloc (.cells (sc p) 25)).heap.size q := Go.heap_alloc_new _ _
  rw [World.size_alloc] at h1
  exact ⟨((Below.refl _ _).alloc (Nat.le_refl _) _).alloc (by simp) _, h0.keep ((Below.refl _ _).alloc (Nat.le_refl _) _), h1⟩
set_option maxRecDepth 100000 in
set_option maxHeartbeats 1000000 in
theorem walk_SetCombines (p q : Nat → Bool) (w : World) :
    Calls Try.prog 3 #[vS p, vS q] w fun e w' => e = .returned (.bool true) ∧ Below w.heap.size w w' := by
  go_enter Try.func3, Try.ntmps3
  repeat' (first | go_values | go_skip | go_guarded | go_step | go_upon)
  refine gen_world (fun w' => Par2b w w' p q) (params2b w p q) ?_
  rintro wr ⟨hb, h0, h1⟩
  have Hb := Lib.hid hb; clear hb
  have H0 := Lib.hid h0; clear h0
  have H1 := Lib.hid h1; clear h1
  have q0 : ∀ nq : WB wr, ∀ k, k < 4 → nq.1.cell? ⟨w.heap.size, k, none⟩ = some (.int .u64 (W p k : Nat)) := fun nq => (H0.out.keep nq.2).cell
  have q1 : ∀ nq : WB wr, ∀ k, k < 4 → nq.1.cell? ⟨w.heap.size + 1, k, none⟩ = some (.int .u64 (W q k : Nat)) := fun nq => (H1.out.keep nq.2).cell
  refine wp_region_wb (by kernel_rfl) (by kernel_rfl) wr (Below.refl _ _) ?_
  repeat (go_big_quiet_step ((first | (go_at_call 6; with_reducible exact calls_wb (set_Join _ _ _)) | (go_at_call 7; with_reducible exact calls_wb (ref_Join _ _ _)) | (go_at_call 8; with_reducible exact calls_wb (set_Meet _ _ _)) | (go_at_call 9; with_reducible exact calls_wb (ref_Meet _ _ _)) | (go_at_call 10; with_reducible exact calls_wb (set_Not _ _)) | (go_at_call 11; with_reducible exact calls_wb (ref_Not _ _)))))
  refine wpQuiet_nil ?_
  rintro _ ⟨nq, rfl⟩
  have hnq := nq.2
  clear q0 q1
  repeat' (first | go_values | go_skip | go_guarded | go_step | go_upon)
  go_ret
  exact ⟨rfl, Hb.out.trans (hnq.mono Hb.out.size)⟩
theorem law_SetCombines (a0 : Nat) (k0 : U64 a0) (a1 : Nat) (k1 : U64 a1) (a2 : Nat) (k2 : U64 a2) (a3 : Nat) (k3 : U64 a3) (b0 : Nat) (l0 : U64 b0) (b1 : Nat) (l1 : U64 b1) (b2 : Nat) (l2 : U64 b2) (b3 : Nat) (l3 : U64 b3) (w : World) :
    Calls Try.prog 3 #[.agg #[.int .u64 a0, .int .u64 a1, .int .u64 a2, .int .u64 a3], .agg #[.int .u64 b0, .int .u64 b1, .int .u64 b2, .int .u64 b3]] w fun e w' => e = .returned (.bool true) ∧ Below w.heap.size w w' := by
  have h := walk_SetCombines (ofW a0 a1 a2 a3) (ofW b0 b1 b2 b3) w
  unfold vS at h
  rwa [← W_ofW0 a1 a2 a3 k0, ← W_ofW1 a0 a2 a3 k1, ← W_ofW2 a0 a1 a3 k2, ← W_ofW3 a0 a1 a2 k3, ← W_ofW0 b1 b2 b3 l0, ← W_ofW1 b0 b2 b3 l1, ← W_ofW2 b0 b1 b3 l2, ← W_ofW3 b0 b1 b2 l3] at h
end Go.Proofs.Ytapanlchnmgkmaa
