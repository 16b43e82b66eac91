/- Regions that draw their order, whose calls make memory but turn nothing that was there: one walk, in the order of the text. No conditions. -/
import Derived.Test.YtkpdcejnanhgoaaPk00
import Derived.Deep.QuietTactic
import Derived.BigQuiet
namespace Go.Proofs.Ytkpdcejnanhgoaa
open Go.RowKit
/-- the worlds in which all that was in w0 is as it was -/
def WB (w0 : World) : Type := { w' : World // Below w0.heap.size w0 w' }
instance (w0 : World) : Nonempty (WB w0) := ⟨⟨w0, Below.refl _ _⟩⟩
theorem WB.cell {w0 : World} (n : WB w0) {a : Addr} (h : a.block < w0.heap.size) : n.1.cell? a = w0.cell? a := n.2.cell h
theorem calls_wb {P : Program} {f : FuncId} {args : Array Value} {w0 : World} {n : WB w0} {v : Value} (h : Calls P f args n.1 fun e w' => e = .returned v ∧ Below n.1.heap.size n.1 w') :
    Calls P f args n.1 fun e w'' => e = .returned v ∧ ∃ m : WB w0, w'' = m.1 :=
  h.mono fun _ w' ⟨he, hb⟩ => ⟨he, ⟨w', n.2.trans (hb.mono n.2.size)⟩, rfl⟩
theorem calls_wb_same {P : Program} {f : FuncId} {args : Array Value} {w0 : World} {n : WB w0} {v : Value} (h : Calls P f args n.1 fun e w' => e = .returned v ∧ n.1 = w') :
    Calls P f args n.1 fun e w'' => e = .returned v ∧ ∃ m : WB w0, w'' = m.1 :=
  h.mono fun _ _ ⟨he, hb⟩ => ⟨he, n, hb.symm⟩
theorem wp_region_wb {P : Program} {id : Nat} {Q : Exit → Act → World → Prop} {a : Act} {w : World} {l : List Oper} (hm : P.follows .mixedOrders = true) (hB : Region.lexB .any l.toArray = true) (w0 : World) (hw : Below w0.heap.size w0 w)
    (h : wpQuiet P l.toArray (fun w' => ∃ n : WB w0, w' = n.1) (fun a' => ∀ w', (∃ n : WB w0, w' = n.1) → Q .normal a' w') l a) : (Code.region id l.toArray true).wp P Q a w :=
  wp_region_quiet (C := fun w' => ∃ n : WB w0, w' = n.1) hm hB ⟨⟨w.drew, hw.drew⟩, rfl⟩ (by simpa using h)
end Go.Proofs.Ytkpdcejnanhgoaa
/- Slices of numbers that are read; rows of one's own carried on. No conditions. -/
namespace Go.Proofs.Ytkpdcejnanhgoaa
open Go.RowKit
/-- a slice of numbers, all below block B: what it reads as -/
def RdI (B : Nat) (k : IntKind) (w : World) (v : Value) (l : List Int) : Prop :=
  ∃ a cap, v = .slice a l.length cap ∧ l.length ≤ cap ∧ (l = [] ∨ ∃ b off, a = some ⟨b, off, none⟩ ∧ b < B ∧ ∀ i, i < l.length → w.cell? ⟨b, off + i, none⟩ = some (.int k (l.getD i 0)))
theorem RdI.below {B B' : Nat} {k : IntKind} {w w' : World} {v : Value} {l : List Int} (h : RdI B k w v l) (hb : Below B' w w') (hB : B ≤ B') : RdI B k w' v l := by
  obtain ⟨a, cap, rfl, hc, h⟩ := h
  refine ⟨a, cap, rfl, hc, ?_⟩
  rcases h with h | ⟨b, off, rfl, hbB, h⟩
  · exact .inl h
  · exact .inr ⟨b, off, rfl, hbB, fun i hi => by rw [hb.cell (show b < B' by omega)]; exact h i hi⟩
theorem RdI.mono {B B' : Nat} {k : IntKind} {w : World} {v : Value} {l : List Int} (h : RdI B k w v l) (hB : B ≤ B') : RdI B' k w v l := by
  obtain ⟨a, cap, rfl, hc, h⟩ := h
  refine ⟨a, cap, rfl, hc, ?_⟩
  rcases h with h | ⟨b, off, rfl, hbB, h⟩
  · exact .inl h
  · exact .inr ⟨b, off, rfl, by omega, h⟩
theorem RdI.wb {w0 : World} (n : WB w0) {k : IntKind} {v : Value} {l : List Int} (h : RdI w0.heap.size k w0 v l) : RdI n.1.heap.size k n.1 v l := (h.below n.2 (Nat.le_refl _)).mono n.2.size
theorem OwnI.rd {B : Nat} {e : TypeId} {k : IntKind} {w : World} {v : Value} {l : List Int} (h : OwnI B e k w v l) : RdI w.heap.size k w v l := by
  rcases h.2 with ⟨rfl, h0⟩ | ⟨g, cap, cur, fz, rfl, hb, hg, hf, hnc, hcm, hcs, htake⟩
  · have : l = [] := List.eq_nil_of_length_eq_zero h0
    subst this
    exact ⟨none, 0, rfl, Nat.zero_le _, .inl rfl⟩
  · refine ⟨_, cap, rfl, hnc, .inr ⟨g, 0, rfl, (Array.getElem?_eq_some_iff.1 hg).1, fun i hi => ?_⟩⟩
    rw [Nat.zero_add, OwnC.cell h i (by omega)]
    simp [List.getD, hi]
/-- what is owned stays so while only later blocks turn -/
theorem OwnI.keep {B B' : Nat} {e : TypeId} {k : IntKind} {w w' : World} {v : Value} {l : List Int} (h : OwnI B e k w v l) (hb : Below B' w w') (hB : w.heap.size ≤ B') : OwnI B e k w' v l := OwnC.keep h hb hB
theorem OwnI.base {B B' : Nat} {e : TypeId} {k : IntKind} {w : World} {v : Value} {l : List Int} (h : OwnI B e k w v l) (hB : B' ≤ B) : OwnI B' e k w v l := OwnC.base h hB
theorem OwnI.form {B : Nat} {e : TypeId} {k : IntKind} {w : World} {v : Value} {l : List Int} (h : OwnI B e k w v l) : ∃ a cap, v = .slice a l.length cap := by
  rcases h.2 with ⟨rfl, h0⟩ | ⟨g, cap, cur, fz, rfl, _⟩
  · exact ⟨none, 0, by rw [h0]⟩
  · exact ⟨_, cap, rfl⟩
theorem OwnI.max {B : Nat} {e : TypeId} {k : IntKind} {w : World} {v : Value} {l : List Int} (h : OwnI B e k w v l) : l.length ≤ maxLen := by
  rcases h.2 with ⟨rfl, h0⟩ | ⟨g, cap, cur, fz, rfl, _, _, _, hn, hc, _⟩
  · rw [h0]; exact Nat.zero_le _
  · exact Nat.le_trans hn hc
end Go.Proofs.Ytkpdcejnanhgoaa
