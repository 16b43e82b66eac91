/- Walk: how many bytes a set has (set.Count). No conditions. -/
import Derived.Test.YtnbfifmnigeolaaDoorSetOnes
namespace Go.Proofs.YtnbfifmnigeolaaDoor
open Go.RowKit Bits
theorem idx_word (cs : Array Value) (k : Nat) (i : Int) (hi : i = k) (hk : k < 4) (v : Value) (hv : cs[k]? = some v) (w : World) : (Instr.index 23 (.agg cs) (.int .i64 i)).run Tryd.prog w = .ok v w := by
  subst hi
  have hn : (0 : Int) ≤ k ∧ (k : Int) < (4 : Nat) := by omega
  simp [Instr.index, run_underlying Tryd.underlying23, asIntOf, hn, go_sem, Tryd.sizeOf22, part, Tryd.isAgg22, hv]
  intro h4; omega
theorem cnt_word (p : Nat → Bool) (k : Nat) : cnt (W p k).testBit 64 = cnt (fun j => p (64 * k + j)) 64 := cnt_congr fun j hj => by rw [W_bit]; simp [hj]
theorem cnt_le (f : Nat → Bool) (n : Nat) : cnt f n ≤ n := by unfold cnt; have := List.countP_le_length (p := f) (l := List.range n); rw [List.length_range] at this; exact this
end Go.Proofs.YtnbfifmnigeolaaDoor
