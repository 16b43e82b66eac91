/- Walk: the ones of a word (math/bits.OnesCount64). Condition: the word is of 64 bits. -/
import Derived.Test.YtonkenlkigfeoaaGreatDoorPk00
import Derived.Test.YtonkenlkigfeoaaGreatDoorPk13
import Derived.Laws.BitsAllLaws
import Derived.Laws.Bits128
namespace Go.Proofs.YtonkenlkigfeoaaGreatDoor
open Go.RowKit Bits
open Go.RowKit Bits
theorem idx_word (cs : Array Value) (k : Nat) (i : Int) (hi : i = k) (hk : k < 4) (v : Value) (hv : cs[k]? = some v) (w : World) : (Instr.index 24 (.agg cs) (.int .i64 i)).run Tryz.prog w = .ok v w := by
 subst hi; have hn : (0 : Int) ≤ k ∧ (k : Int) < (4 : Nat) := by omega
 simp [Instr.index, run_underlying Tryz.underlying24, asIntOf, hn, go_sem, Tryz.sizeOf23, part, Tryz.isAgg23, hv]
 intro h4; omega
end Go.Proofs.YtonkenlkigfeoaaGreatDoor
