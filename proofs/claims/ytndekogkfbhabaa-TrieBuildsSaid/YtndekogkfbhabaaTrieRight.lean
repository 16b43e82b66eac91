/- Walks: which trie may be (trie.Right, the reference's). No conditions. -/
import Derived.Test.YtndekogkfbhabaaSlices
import Derived.Test.YtndekogkfbhabaaProg
namespace Go.Proofs.Ytndekogkfbhabaa
open Go.RowKit
/-- a trie, by the lengths of its three rows -/
def mayBe (n m k : Nat) : Bool := decide (1 ≤ n) && decide (n ≤ 400000) && m == n && k == n
theorem mayBe_eq {n m k : Nat} : mayBe n m k = true ↔ 1 ≤ n ∧ n ≤ 400000 ∧ m = n ∧ k = n := by simp [mayBe, and_assoc]
set_option maxRecDepth 100000 in
set_option maxHeartbeats 400000 in
theorem trie_Right (a1 : Option Addr) (n1 c1 : Nat) (a2 : Option Addr) (n2 c2 : Nat) (a3 : Option Addr) (n3 c3 : Nat) (w : World) :
    Calls Try.prog 17 #[.agg #[.slice a1 n1 c1, .slice a2 n2 c2, .slice a3 n3 c3]] w fun e w' => e = .returned (.bool (mayBe n1 n2 n3)) ∧ Below w.heap.size w w' := by
  go_enter Try.func17, Try.ntmps17
  repeat' (first | go_values | go_skip | go_guarded | go_step | go_upon)
  all_goals go_ret
  all_goals refine ⟨ret_b ?_, (Below.refl _ _).alloc (Nat.le_refl _) _⟩
  all_goals (unfold mayBe; rw [Bool.eq_iff_iff]; simp; try omega)
set_option maxRecDepth 100000 in
set_option maxHeartbeats 400000 in
theorem ref_Right (a1 : Option Addr) (n1 c1 : Nat) (a2 : Option Addr) (n2 c2 : Nat) (a3 : Option Addr) (n3 c3 : Nat) (w : World) :
    Calls Try.prog 11 #[.agg #[.slice a1 n1 c1, .slice a2 n2 c2, .slice a3 n3 c3]] w fun e w' => e = .returned (.bool (mayBe n1 n2 n3)) ∧ Below w.heap.size w w' := by
  go_enter Try.func11, Try.ntmps11
  repeat' (first | go_values | go_skip | go_guarded | go_step | go_upon)
  all_goals go_ret
  all_goals refine ⟨ret_b ?_, (Below.refl _ _).alloc (Nat.le_refl _) _⟩
  all_goals (unfold mayBe; rw [Bool.eq_iff_iff]; simp; try omega)
end Go.Proofs.Ytndekogkfbhabaa
