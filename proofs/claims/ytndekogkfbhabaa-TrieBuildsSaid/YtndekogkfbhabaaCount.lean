/- Walk: how many characters a text has (utf.Count, through utf8.RuneCountInString). Condition: the text is of at most 10^15 bytes. -/
import Derived.Test.YtndekogkfbhabaaBase
import Derived.Test.YtndekogkfbhabaaProg
import Derived.Lib.RuneCount
namespace Go.Proofs.Ytndekogkfbhabaa
open Go.RowKit
set_option maxRecDepth 100000 in
set_option maxHeartbeats 1000000 in
theorem utf8_Count (s : ByteArray) (hs : s.size ≤ 1000000000000000) (w : World) :
    Calls Try.prog 19 #[.string s] w fun e w' => e = .returned (.int .i64 (Lib.runeCount s)) ∧ ∃ pos, w' = w.iter s pos := by
  go_enter Try.func19, Try.ntmps19
  repeat' (first | go_values | go_skip | go_guarded | go_step | go_upon)
  go_loopw [2] (fun n w' => ∃ (pos b acc : Nat), w' = w.iter s pos ∧ n = .int .i64 acc ∧ acc + Lib.runeCountFrom s b pos = Lib.runeCount s ∧ s.size ≤ pos + b ∧ acc ≤ pos) (fun _ w' => s.size - w'.iterPos w.heap.size)
  case atStart => exact ⟨0, s.size, 0, rfl, rfl, by simp [Lib.runeCount], by omega, Nat.le_refl _⟩
  case round =>
    obtain ⟨pos, b, acc, rfl, rfl, hc, hb, ha⟩ := hrel
    have Hc := Lib.hid hc; clear hc
    by_cases hp : pos < s.size
    · have hnx : ∀ ty, (Instr.next (.pointer (some ⟨w.heap.size, 0, none⟩)) true ty).run Try.prog (w.iter s pos) = _ := fun ty => run_next_any w s pos ty hp
      have hwd := Lib.decode_width_pos s pos hp
      repeat' (first | go_values | go_skip | go_guarded | go_step | go_upon)
      go_roundw
      case rel =>
        cases b with
        | zero => omega
        | succ b =>
          refine ⟨pos + (Utf8.decode s pos).2, b, acc + 1, rfl, by go_num, ?_, by omega, by omega⟩
          rw [← Hc.out]
          simp [Lib.runeCountFrom, hp]
          omega
      case measure => simp; omega
    · have hnx : ∀ ty, (Instr.next (.pointer (some ⟨w.heap.size, 0, none⟩)) true ty).run Try.prog (w.iter s pos) = _ := fun ty => run_next_end w s pos ty hp
      repeat' (first | go_values | go_skip | go_guarded | go_step | go_upon)
      go_ret
      have hc := Hc.out
      rw [Lib.runeCountFrom_end s b pos hp, Nat.add_zero] at hc
      exact ⟨by rw [← hc]; rfl, _, rfl⟩
set_option maxRecDepth 100000 in
set_option maxHeartbeats 1000000 in
theorem utf_Count (s : ByteArray) (hs : s.size ≤ 1000000000000000) (w : World) :
    Calls Try.prog 13 #[.string s] w fun e w' => e = .returned (.int .i64 (Lib.runeCount s)) ∧ Below w.heap.size w w' := by
  go_enter Try.func13, Try.ntmps13
  repeat' (first | go_values | go_skip | go_guarded | go_step | go_upon)
  refine Calls.mono (utf8_Count s hs _) ?_
  rintro _ _ ⟨rfl, pos, rfl⟩
  dsimp only
  repeat' (first | go_values | go_skip | go_guarded | go_step | go_upon)
  go_ret
  exact ⟨rfl, (Below.refl _ _).alloc (Nat.le_refl _) _⟩
theorem count_a : Lib.runeCount ⟨#[97]⟩ = 1 := by decide +kernel
end Go.Proofs.Ytndekogkfbhabaa
