/- Walks: the reference's words and signs of instructions. No conditions. -/
import Derived.Test.YtpelngkhipcneaaDoorIsaRefRight
namespace Go.Proofs.YtpelngkhipcneaaDoor
open Go.RowKit
set_option maxRecDepth 100000 in
set_option maxHeartbeats 1000000 in
theorem ref_Word (o : Nat) (h1 : 1 ≤ o) (h2 : o ≤ 17) (w : World) : Calls Tryd.prog 36 #[.int .i64 (o : Int)] w fun e w' => e = .returned (.string (bsT (wrd o))) ∧ Below w.heap.size w w' := by
  rcases (by omega : o = 1 ∨ o = 2 ∨ o = 3 ∨ o = 4 ∨ o = 5 ∨ o = 6 ∨ o = 7 ∨ o = 8 ∨ o = 9 ∨ o = 10 ∨ o = 11 ∨ o = 12 ∨ o = 13 ∨ o = 14 ∨ o = 15 ∨ o = 16 ∨ o = 17) with rfl | rfl | rfl | rfl | rfl | rfl | rfl | rfl | rfl | rfl | rfl | rfl | rfl | rfl | rfl | rfl | rfl
  all_goals
    go_enter Tryd.func36, Tryd.ntmps36
    repeat' (first | go_values | go_skip | go_guarded | go_step | go_upon)
    go_ret
    exact ⟨rfl, (Below.refl _ _).alloc (Nat.le_refl _) _⟩
set_option maxRecDepth 100000 in
theorem ref_sign (x : Nat) (hx : IsL x) (w : World) : Calls Tryd.prog 37 #[.int .u8 (rlet x : Nat)] w fun e w' => e = .returned (.string (bsT (sgn x))) ∧ w = w' := by
  rcases hx with rfl | rfl | rfl | rfl | rfl | rfl
  all_goals
    go_enter Tryd.func37, Tryd.ntmps37
    repeat' (first | go_values | go_skip | go_guarded | go_step | go_upon)
    go_ret
    exact ⟨rfl, rfl⟩
end Go.Proofs.YtpelngkhipcneaaDoor
