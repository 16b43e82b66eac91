/- Slices of numbers that are read; rows of one's own carried on. No conditions. -/
import Derived.Test.YtndekogkfbhabaaRegion
namespace Go.Proofs.Ytndekogkfbhabaa
open Go.RowKit
/-- a slice of numbers, all below block B: what it reads as -/
def RdI (B : Nat) (k : IntKind) (w : World) (v : Value) (l : List Int) : Prop :=
  ∃ a cap, v = .slice a l.length cap ∧ l.length ≤ cap ∧ (l = [] ∨ ∃ b off, a = some ⟨b, off, none⟩ ∧ b < B ∧ ∀ i, i < l.length → w.cell? ⟨b, off + i, none⟩ = some (.int k (l.getD i 0)))
theorem RdI.below {B B' : Nat} {k : IntKind} {w w' : World} {v : Value} {l : List Int} (h : RdI B k w v l) (hb : Below B' w w') (hB : B ≤ B') : RdI B k w' v l := by
  obtain ⟨a, cap, rfl, hc, h⟩ := h
  refine ⟨a, cap, rfl, hc, ?_⟩
  rcases h with h | ⟨b, off, rfl, hbB, h⟩
  · exact .inl h
  · exact .inr ⟨b, off, rfl, hbB, fun i hi => by rw [hb.cell (show b < B' by omega)]; exact h i hi⟩
theorem RdI.mono {B B' : Nat} {k : IntKind} {w : World} {v : Value} {l : List Int} (h : RdI B k w v l) (hB : B ≤ B') : RdI B' k w v l := by
  obtain ⟨a, cap, rfl, hc, h⟩ := h
  refine ⟨a, cap, rfl, hc, ?_⟩
  rcases h with h | ⟨b, off, rfl, hbB, h⟩
  · exact .inl h
  · exact .inr ⟨b, off, rfl, by omega, h⟩
theorem RdI.wb {w0 : World} (n : WB w0) {k : IntKind} {v : Value} {l : List Int} (h : RdI w0.heap.size k w0 v l) : RdI n.1.heap.size k n.1 v l := (h.below n.2 (Nat.le_refl _)).mono n.2.size
theorem RdI.of_row {k : IntKind} {w : World} {a : Option Addr} {len cap : Nat} {zs : List Int} (h : IsRow k w a len cap zs) : RdI w.heap.size k w (.slice a len cap) (zs.take len) := by
  rcases h with ⟨rfl, rfl, rfl, rfl⟩ | ⟨x, rfl, hl, hm, hz, hc, _⟩
  · exact ⟨none, 0, rfl, Nat.le_refl _, .inl rfl⟩
  · have hlen : (zs.take len).length = len := by simp; omega
    refine ⟨some x, cap, by rw [hlen], by omega, ?_⟩
    by_cases h0 : len = 0
    · left; subst h0; simp
    · right
      obtain ⟨b, off, spot⟩ := x
      have hc0 := hc 0 (by omega)
      have hspot : spot = none := by simpa [Addr.add] using World.cell?_spot hc0
      subst hspot
      refine ⟨b, off, rfl, World.block_lt_of_cell? w _ (by simpa [Addr.add] using hc0), fun i hi => ?_⟩
      have := hc i (by omega)
      rw [Addr.add_lit] at this
      rw [this]
      simp [List.getD, show i < len by omega]
theorem OwnI.rd {B : Nat} {e : TypeId} {k : IntKind} {w : World} {v : Value} {l : List Int} (h : OwnI B e k w v l) : RdI w.heap.size k w v l := by
  rcases h.2 with ⟨rfl, h0⟩ | ⟨g, cap, cur, fz, rfl, hb, hg, hf, hnc, hcm, hcs, htake⟩
  · have : l = [] := List.eq_nil_of_length_eq_zero h0
    subst this
    exact ⟨none, 0, rfl, Nat.zero_le _, .inl rfl⟩
  · refine ⟨_, cap, rfl, hnc, .inr ⟨g, 0, rfl, (Array.getElem?_eq_some_iff.1 hg).1, fun i hi => ?_⟩⟩
    rw [Nat.zero_add, OwnC.cell h i (by omega)]
    simp [List.getD, hi]
/-- what is owned stays so while only later blocks turn -/
theorem OwnI.keep {B B' : Nat} {e : TypeId} {k : IntKind} {w w' : World} {v : Value} {l : List Int} (h : OwnI B e k w v l) (hb : Below B' w w') (hB : w.heap.size ≤ B') : OwnI B e k w' v l := OwnC.keep h hb hB
theorem OwnI.base {B B' : Nat} {e : TypeId} {k : IntKind} {w : World} {v : Value} {l : List Int} (h : OwnI B e k w v l) (hB : B' ≤ B) : OwnI B' e k w v l := OwnC.base h hB
theorem OwnI.form {B : Nat} {e : TypeId} {k : IntKind} {w : World} {v : Value} {l : List Int} (h : OwnI B e k w v l) : ∃ a cap, v = .slice a l.length cap := by
  rcases h.2 with ⟨rfl, h0⟩ | ⟨g, cap, cur, fz, rfl, _⟩
  · exact ⟨none, 0, by rw [h0]⟩
  · exact ⟨_, cap, rfl⟩
theorem OwnI.max {B : Nat} {e : TypeId} {k : IntKind} {w : World} {v : Value} {l : List Int} (h : OwnI B e k w v l) : l.length ≤ maxLen := by
  rcases h.2 with ⟨rfl, h0⟩ | ⟨g, cap, cur, fz, rfl, _, _, _, hn, hc, _⟩
  · rw [h0]; exact Nat.zero_le _
  · exact Nat.le_trans hn hc
end Go.Proofs.Ytndekogkfbhabaa
