/- Walks: a number is written (wire.Put, the reference's Put). Condition: it is of 64 bits. -/
import Derived.Test.YtpelngkhipcneaaDoorProg
import Derived.Test.YtpelngkhipcneaaDoorWireSpec
namespace Go.Proofs.YtpelngkhipcneaaDoor
open Go.RowKit
theorem info_u8 : (Tryd.prog.info? 5).map (fun i => (i.zero, i.size, i.bytes)) = some (some (.int .u8 0), 1, 1) := by kernel_rfl

set_option maxRecDepth 100000 in
set_option maxHeartbeats 400000 in
theorem wire_Put (n : Nat) (w : World) (hn : U64 n) :
    Calls Tryd.prog 18 #[.int .u64 n] w fun e w' => e = .returned (.string ⟨(vput n).toArray⟩) ∧ Below w.heap.size w w' := by
  have hl0 := vput_len10 hn
  go_enter Tryd.func18, Tryd.ntmps18
  repeat' (first | go_values | go_skip | go_guarded | go_step | go_upon)
  go_loopw [0, 3] (fun s0 s3 wr => ∃ (m : Nat) (l : List Int), s0 = .int .u64 m ∧ l.length + (vput m).length ≤ 10 ∧ toU8s l ++ vput m = vput n ∧ OwnI w.heap.size 5 .u8 wr s3 l ∧ Below w.heap.size w wr) (fun s0 _ _ => (intOf s0).toNat)
  case atStart => exact ⟨n, [], rfl, by simpa using hl0, by simp, OwnI.nil _ _ _ _, Below.refl _ _⟩
  case round =>
    obtain ⟨m, l, rfl, hl, hn', hown, hb⟩ := hrel
    have hsz := hb.size
    have Hn := Lib.hid hn'; clear hn'
    by_cases h128 : m < 128
    · repeat' (first | (at_builtin; go_loud (refine app_ints w.heap.size 1 [_] Tryd.underlying35 info_u8 (by decide) rfl _ _ rfl rfl rfl rfl rfl hown hsz (by omega) ?_); intro v1 w1 hown1 hb1 _; have hcv := conv_own (d := 9) Tryd.underlying35 Tryd.underlying5 Tryd.underlying9 hown1) | go_values | go_skip | go_guarded | go_step | go_upon)
      go_ret
      refine ⟨ret_s ?_, hb.trans (hb1)⟩
      rw [← Hn.out, vput_lt h128, toU8s_append]
      simp [toU8s]
    · repeat' (first | (at_builtin; go_loud (refine app_ints w.heap.size 1 [_] Tryd.underlying35 info_u8 (by decide) rfl _ _ rfl rfl rfl rfl rfl hown hsz (by omega) ?_); intro v1 w1 hown1 hb1 _) | go_values | go_skip | go_guarded | go_step | go_upon)
      go_roundw
      case rel =>
        rw [vput_ge (by omega)] at hl
        refine ⟨m / 128, _, by go_num, ?_, ?_, hown1, hb.trans hb1⟩
        · simp at hl ⊢; omega
        · rw [← Hn.out, vput_ge (n := m) (by omega), toU8s_append]; simp [toU8s, bit_or128]
      case measure => simp [intOf]; omega
end Go.Proofs.YtpelngkhipcneaaDoor
