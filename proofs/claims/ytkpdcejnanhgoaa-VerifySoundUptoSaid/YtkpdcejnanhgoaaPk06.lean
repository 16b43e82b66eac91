/- Plain laws: instructions as bytes and as lines (P21.1, P21.3). No conditions; no program. -/
import Derived.Test.YtkpdcejnanhgoaaPk04
import Derived.Lib.ItoaLen
namespace Go.Proofs.Ytkpdcejnanhgoaa
open Go.RowKit
theorem okI_op {v : Nat → Int} (h : okI v = true) : 1 ≤ v 0 ∧ v 0 ≤ 17 := by
  unfold okI at h; simp at h; exact h.1
theorem okI_in {v : Nat → Int} (h : okI v = true) {x : Nat} (hx : x ∈ letr (v 0).toNat) : 0 ≤ v (pos x) ∧ v (pos x) ≤ (mst x : Int) := by
  unfold okI at h
  simp only [Bool.and_eq_true] at h
  have := List.all_eq_true.1 h.2.1 x hx
  unfold inb at this; simpa using this
theorem Row5p.cells {w : World} {b off : Nat} {l : List (Nat → Int)} (h : ∀ (i : Nat) (x : Nat → Int) (j : Nat), l[i]? = some x → j < 5 → w.cell? ⟨b, off + (i * 5 + j), none⟩ = (icL x)[j]?) (k : Nat) (hk : k < l.length) :
    w.cell? ⟨b, off + k * 5, none⟩ = some (.int .i64 (l.getD k (fun _ => 0) 0)) ∧ w.cell? ⟨b, off + k * 5 + 1, none⟩ = some (.int .i64 (l.getD k (fun _ => 0) 1)) ∧ w.cell? ⟨b, off + k * 5 + 2, none⟩ = some (.int .i64 (l.getD k (fun _ => 0) 2)) ∧
      w.cell? ⟨b, off + k * 5 + 3, none⟩ = some (.int .i64 (l.getD k (fun _ => 0) 3)) ∧ w.cell? ⟨b, off + k * 5 + 4, none⟩ = some (.int .i64 (l.getD k (fun _ => 0) 4)) := by
  have hx : l[k]? = some (l.getD k (fun _ => 0)) := by rw [List.getD_eq_getElem?_getD, List.getElem?_eq_getElem hk]; rfl
  refine ⟨h k _ 0 hx (by decide), h k _ 1 hx (by decide), h k _ 2 hx (by decide), h k _ 3 hx (by decide), h k _ 4 hx (by decide)⟩
end Go.Proofs.Ytkpdcejnanhgoaa
