/- Walks: the reference's fields of instructions, by operation. No conditions. -/
import Derived.Test.YtkhggnlanopgkaaIsaRight
namespace Go.Proofs.Ytkhggnlanopgkaa
open Go.RowKit
theorem rlet_lt {x : Nat} (h : IsL x) : rlet x < 128 := by rcases h with rfl | rfl | rfl | rfl | rfl | rfl <;> decide
set_option maxRecDepth 100000 in
set_option maxHeartbeats 1000000 in
theorem ref_Fields (o : Nat) (h1 : 1 ≤ o) (h2 : o ≤ 17) (w : World) : Calls Try.prog 36 #[.int .i64 (o : Int)] w fun e w' => e = .returned (.string (bsT ((letr o).map rlet))) ∧ Below w.heap.size w w' := by
  rcases (by omega : o = 1 ∨ o = 2 ∨ o = 3 ∨ o = 4 ∨ o = 5 ∨ o = 6 ∨ o = 7 ∨ o = 8 ∨ o = 9 ∨ o = 10 ∨ o = 11 ∨ o = 12 ∨ o = 13 ∨ o = 14 ∨ o = 15 ∨ o = 16 ∨ o = 17) with rfl | rfl | rfl | rfl | rfl | rfl | rfl | rfl | rfl | rfl | rfl | rfl | rfl | rfl | rfl | rfl | rfl
  all_goals
    go_enter Try.func36, Try.ntmps36
    repeat' (first | go_values | go_skip | go_guarded | go_step | go_upon)
    go_ret
    exact ⟨rfl, (Below.refl _ _).alloc (Nat.le_refl _) _⟩
end Go.Proofs.Ytkhggnlanopgkaa
