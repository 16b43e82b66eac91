/- Walk: the statement IsaRights. No conditions. -/
import Derived.Test.YtpelngkhipcneaaIsaRefRight
namespace Go.Proofs.Ytpelngkhipcneaa
open Go.RowKit
set_option maxRecDepth 100000 in
theorem walk_IsaRights (v : Nat → Int) (w : World) :
    Calls Try.prog 3 #[vI v] w fun e w' => e = .returned (.bool true) ∧ Below w.heap.size w w' := by
  go_enter Try.func3, Try.ntmps3
  repeat' (first | go_values | go_skip | go_guarded | go_step | go_upon)
  obtain ⟨wr, hwr⟩ : ∃ wr, wr = w.alloc (.cells (ic v) 23) := ⟨_, rfl⟩
  have H0 : Hid (InsAt wr w.heap.size v) := Lib.hid (by rw [hwr]; exact InsAt.new w v)
  have Hb : Hid (Below w.heap.size w wr) := Lib.hid (by rw [hwr]; exact (Below.refl _ _).alloc (Nat.le_refl _) _)
  rw [← hwr]
  clear hwr
  have q0 : ∀ nq : WB wr, ∀ k, k < 5 → nq.1.cell? ⟨w.heap.size, k, none⟩ = some (.int .i64 (v k)) := fun nq => (H0.out.keep nq.2).cell
  refine wp_region_wb (by kernel_rfl) (by kernel_rfl) wr (Below.refl _ _) ?_
  repeat (go_big_quiet_step ((first | (go_at_call 5; with_reducible exact calls_wb (isa_Right v _)) | (go_at_call 6; with_reducible exact calls_wb (ref_Right v _)))))
  refine wpQuiet_nil ?_
  rintro _ ⟨nq, rfl⟩
  have hnq := nq.2
  clear q0
  repeat' (first | go_values | go_skip | go_guarded | go_step | go_upon)
  go_ret
  exact ⟨rfl, Hb.out.trans (hnq.mono Hb.out.size)⟩
theorem law_IsaRights (a0 : Int) (_ : I64 a0) (a1 : Int) (_ : I64 a1) (a2 : Int) (_ : I64 a2) (a3 : Int) (_ : I64 a3) (a4 : Int) (_ : I64 a4) (w : World) :
    Calls Try.prog 3 #[.agg #[.int .i64 a0, .int .i64 a1, .int .i64 a2, .int .i64 a3, .int .i64 a4]] w fun e w' => e = .returned (.bool true) ∧ Below w.heap.size w w' :=
  walk_IsaRights (fun j => [a0, a1, a2, a3, a4].getD j 0) w
end Go.Proofs.Ytpelngkhipcneaa
