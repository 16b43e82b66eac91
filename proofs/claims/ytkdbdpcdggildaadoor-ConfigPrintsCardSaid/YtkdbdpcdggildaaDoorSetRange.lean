/- Walk: the set of the bytes from one to another one (set.Range). No conditions. -/
import Derived.Test.YtkdbdpcdggildaaDoorSetOf
namespace Go.Proofs.YtkdbdpcdggildaaDoor
open Go.RowKit
def rng (lo k : Nat) : Nat → Bool := fun b => decide (lo ≤ b) && decide (b < k)
theorem rng_nil (lo : Nat) : rng lo lo = fun _ => false := by funext b; unfold rng; simp
theorem rng_succ {lo k : Nat} (h : lo ≤ k) : rng lo (k + 1) = wth (rng lo k) k := by
  funext b; unfold rng wth; rw [Bool.eq_iff_iff]; simp; omega
set_option maxRecDepth 100000 in
theorem and63i' : ∀ b : Fin 256, bits .and .i64 ((b.val : Nat) : Int) 63 = ((b.val % 64 : Nat) : Int) := by decide
theorem and63i (b : Nat) (hb : b < 256) : bits .and .i64 (b : Int) 63 = ((b % 64 : Nat) : Int) := and63i' ⟨b, hb⟩
end Go.Proofs.YtkdbdpcdggildaaDoor
