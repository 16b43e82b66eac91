/- Walks: is a range within bounds; the least and the greatest of a table's numbers. Conditions: the table lies in memory and is not empty. -/
import Derived.Test.YtkhggnlanopgkaaVerSpec
import Derived.Test.YtkhggnlanopgkaaPrgSpec
namespace Go.Proofs.Ytkhggnlanopgkaa
open Go.RowKit
def spC (s : Int × Int) : List Value := [.int .i64 s.1, .int .i64 s.2]
abbrev spV (s : Int × Int) : Value := .agg #[.int .i64 s.1, .int .i64 s.2]
theorem spC_len (s : Int × Int) : (spC s).length = 2 := rfl
def inB (s : Int × Int) (lo hi : Int) : Bool := decide (lo ≤ s.1) && decide (s.2 ≤ hi)
set_option maxRecDepth 100000 in
theorem ver_within (s : Int × Int) (lo hi : Int) (w : World) : Calls Try.prog 32 #[spV s, .int .i64 lo, .int .i64 hi] w fun e w' => e = .returned (.bool (inB s lo hi)) ∧ Below w.heap.size w w' := by
  obtain ⟨a, b⟩ := s
  unfold inB
  dsimp only
  by_cases h1 : lo ≤ a
  · by_cases h2 : b ≤ hi
    all_goals
      go_enter Try.func32, Try.ntmps32
      repeat' (first | go_values | go_skip | go_guarded | go_step | go_upon)
      go_ret
      exact ⟨by simp [*], (Below.refl _ _).alloc (Nat.le_refl _) _⟩
  · have h1' : a < lo := by omega
    clear h1
    go_enter Try.func32, Try.ntmps32
    repeat' (first | go_values | go_skip | go_guarded | go_step | go_upon)
    go_ret
    exact ⟨by simp [show ¬ lo ≤ a from by omega], (Below.refl _ _).alloc (Nat.le_refl _) _⟩
set_option maxRecDepth 100000 in
theorem rv_within (s : Int × Int) (lo hi : Int) (w : World) : Calls Try.prog 42 #[spV s, .int .i64 lo, .int .i64 hi] w fun e w' => e = .returned (.bool (inB s lo hi)) ∧ Below w.heap.size w w' := by
  obtain ⟨a, b⟩ := s
  unfold inB
  dsimp only
  by_cases h1 : lo ≤ a
  · by_cases h2 : b ≤ hi
    all_goals
      go_enter Try.func42, Try.ntmps42
      repeat' (first | go_values | go_skip | go_guarded | go_step | go_upon)
      go_ret
      exact ⟨by simp [*], (Below.refl _ _).alloc (Nat.le_refl _) _⟩
  · have h1' : a < lo := by omega
    clear h1
    go_enter Try.func42, Try.ntmps42
    repeat' (first | go_values | go_skip | go_guarded | go_step | go_upon)
    go_ret
    exact ⟨by simp [show ¬ lo ≤ a from by omega], (Below.refl _ _).alloc (Nat.le_refl _) _⟩
end Go.Proofs.Ytkhggnlanopgkaa
