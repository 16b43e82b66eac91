/- Walk: the reference's set of the bytes from one to another one. No conditions. -/
import Derived.Test.YtnbfifmnigeolaaDoorSetRange
namespace Go.Proofs.YtnbfifmnigeolaaDoor
open Go.RowKit
/-- those of lo to hi that are below k -/
def rngTo (lo hi k : Nat) : Nat → Bool := fun b => decide (b < k) && rng lo (hi + 1) b
theorem rngTo_zero (lo hi : Nat) : rngTo lo hi 0 = fun _ => false := by funext b; simp [rngTo]
theorem rngTo_in {lo hi k : Nat} (h1 : lo ≤ k) (h2 : k ≤ hi) : rngTo lo hi (k + 1) = wth (rngTo lo hi k) k := by
  funext b; unfold rngTo rng wth; rw [Bool.eq_iff_iff]; simp; omega
theorem rngTo_out {lo hi k : Nat} (h : ¬ (lo ≤ k ∧ k ≤ hi)) : rngTo lo hi (k + 1) = rngTo lo hi k := by
  funext b; unfold rngTo rng; rw [Bool.eq_iff_iff]; simp; omega
theorem rngTo_all (lo hi : Nat) : vS (rngTo lo hi 256) = vS (rng lo (hi + 1)) := vS_congr fun b hb => by unfold rngTo; simp [hb]
end Go.Proofs.YtnbfifmnigeolaaDoor
