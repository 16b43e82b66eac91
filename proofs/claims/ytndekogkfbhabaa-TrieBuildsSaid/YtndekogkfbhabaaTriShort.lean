/- Walk: a text cut to some bytes (short). No conditions but a bound. -/
import Derived.Test.YtndekogkfbhabaaTrieFind
namespace Go.Proofs.Ytndekogkfbhabaa
open Go.RowKit
/-- a text cut to k bytes -/
def shortN (s : ByteArray) (k : Nat) : ByteArray := if k < s.size then s.extract 0 k else s
theorem shortN_le (s : ByteArray) (k : Nat) : (shortN s k).size ≤ k := by
  unfold shortN
  split
  · simp; omega
  · omega
set_option maxRecDepth 100000 in
set_option maxHeartbeats 400000 in
theorem law_short (s : ByteArray) (k : Nat) (hk : k < 100000) (w : World) :
    Calls Try.prog 8 #[.string s, .int .i64 k] w fun e w' => e = .returned (.string (shortN s k)) ∧ w = w' := by
  by_cases h : k < s.size
  · have e : shortN s k = s.extract 0 k := if_pos h
    rw [e]
    have h1 : (k : Int) < s.size := by omega
    go_enter Try.func8, Try.ntmps8
    repeat' (first | go_values | go_skip | go_guarded | go_step | go_upon)
    all_goals go_ret
    all_goals exact ⟨by simp, rfl⟩
  · have e : shortN s k = s := if_neg h
    rw [e]
    have h1 : ¬ (k : Int) < s.size := by omega
    go_enter Try.func8, Try.ntmps8
    repeat' (first | go_values | go_skip | go_guarded | go_step | go_upon)
    all_goals go_ret
    all_goals exact ⟨rfl, rfl⟩
end Go.Proofs.Ytndekogkfbhabaa
