/- Walk: whether a byte is in a set (set.Has). No conditions. -/
import Derived.Test.YtnbfifmnigeolaaDoorSetOps
import Derived.Laws.BitsAllLaws
namespace Go.Proofs.YtnbfifmnigeolaaDoor
open Go.RowKit
set_option maxRecDepth 100000 in
theorem and63' : ∀ b : Fin 256, bits .and .u8 ((b.val : Nat) : Int) 63 = ((b.val % 64 : Nat) : Int) := by decide
theorem and63 (b : Nat) (hb : b < 256) : bits .and .u8 (b : Int) 63 = ((b % 64 : Nat) : Int) := and63' ⟨b, hb⟩
theorem ask1 (p : Nat → Bool) (b q : Nat) (h : b / 64 = q) : (bits .and .u64 (((W p q : Nat) : Int) / 2 ^ (b % 64)) 1 == 1) = p b := by
  have e := W_ask p b q (b % 64) h.symm rfl
  have h' : ((W p q : Nat) : Int) / 2 ^ (b % 64) = ((W p q / 2 ^ (b % 64) : Nat) : Int) := by simp
  have hlt : W p q / 2 ^ (b % 64) < 18446744073709551616 := Nat.lt_of_le_of_lt (Nat.div_le_self _ _) (W_lt p q)
  have h1 := u64_and_nat (W p q / 2 ^ (b % 64)) 1 hlt (by decide)
  rw [show ((1 : Nat) : Int) = 1 from rfl] at h1
  rw [h', h1, Nat.and_one_is_mod, e]
  cases p b <;> rfl
end Go.Proofs.YtnbfifmnigeolaaDoor
