/- Walks: whether merges may be (fretsawref13.Texts, merge.Texts): the error. Condition: a row of merges. -/
import Derived.Test.YtonkenlkigfeoaaDoorPk08
import Derived.Test.YtonkenlkigfeoaaDoorPk17
import Derived.Test.YtonkenlkigfeoaaDoorPk04
import Derived.Deep.LoopGhost
namespace Go.Proofs.YtonkenlkigfeoaaDoor
open Go.RowKit
section
variable {k : Nat} {m : Int × Int} {ts : List (List UInt8)}
theorem txStep_idx (h : ¬ ((0 ≤ m.1 ∧ m.1 < 256 + k) ∧ (0 ≤ m.2 ∧ m.2 < 256 + k))) : txStep k m ts = none := by
 unfold txStep; rw [if_neg (fun h' => h ⟨h'.1, h'.2.1⟩)]
theorem txStep_long (h : 64 < (ts.getD m.1.toNat [] ++ ts.getD m.2.toNat []).length) : txStep k m ts = none := by
 unfold txStep; rw [if_neg (fun h' => by have := h'.2.2.1; omega)]
theorem txStep_dup (h : (ts.getD m.1.toNat [] ++ ts.getD m.2.toNat []) ∈ ts.drop 256) : txStep k m ts = none := by
 unfold txStep; rw [if_neg (fun h' => h'.2.2.2 h)]
theorem txStep_ok (h : (0 ≤ m.1 ∧ m.1 < 256 + k) ∧ (0 ≤ m.2 ∧ m.2 < 256 + k)) (h2 : (ts.getD m.1.toNat [] ++ ts.getD m.2.toNat []).length ≤ 64) (h3 : (ts.getD m.1.toNat [] ++ ts.getD m.2.toNat []) ∉ ts.drop 256) :
   txStep k m ts = some (ts ++ [ts.getD m.1.toNat [] ++ ts.getD m.2.toNat []]) := by
 unfold txStep; rw [if_pos ⟨h.1, h.2, h2, h3⟩]
end
end Go.Proofs.YtonkenlkigfeoaaDoor
