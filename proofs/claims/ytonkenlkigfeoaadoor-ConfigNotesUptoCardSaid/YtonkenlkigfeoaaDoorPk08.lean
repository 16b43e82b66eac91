/- Walk: the texts of merges, by the reference (fretsawref13.Texts): it ends, with some texts or none. Condition: a row of merges. -/
import Derived.Test.YtonkenlkigfeoaaDoorPk06
import Derived.Test.YtonkenlkigfeoaaDoorPk03
import Derived.Test.YtonkenlkigfeoaaDoorPk04
import Derived.Deep.Cut
namespace Go.Proofs.YtonkenlkigfeoaaDoor
open Go.RowKit
/-- a merge's cells -/
def mgC (m : Int × Int) : List Value := [.int .i64 m.1, .int .i64 m.2]
theorem mgC_len (m : Int × Int) : (mgC m).length = 2 := rfl
theorem strC_len (l : List UInt8) : (strC l).length = 1 := rfl
theorem info_str13 : (Tryd.prog.info? 9).map (fun i => (i.zero, i.size, i.bytes)) = some (some (.string ⟨#[]⟩), 1, 16) := by kernel_rfl
/-- two cells of a merge -/
theorem mg_cells {w : World} {b off : Nat} {l : List (Int × Int)} (h : ∀ (i : Nat) (x : Int × Int) (j : Nat), l[i]? = some x → j < 2 → w.cell? ⟨b, off + (i * 2 + j), none⟩ = (mgC x)[j]?) (k : Nat) (hk : k < l.length) :
   w.cell? ⟨b, off + k * 2, none⟩ = some (.int .i64 (l.getD k (0, 0)).1) ∧ w.cell? ⟨b, off + k * 2 + 1, none⟩ = some (.int .i64 (l.getD k (0, 0)).2) := by
 have hx : l[k]? = some (l.getD k (0, 0)) := by rw [List.getD_eq_getElem?_getD, List.getElem?_eq_getElem hk]; rfl
 exact ⟨h k _ 0 hx (by decide), h k _ 1 hx (by decide)⟩
/-- a text of the call's own row -/
theorem own_str {B : Nat} {w : World} {g n cap : Nat} {ts : List (List UInt8)} (h : OwnR strC 1 B 9 w (.slice (some ⟨g, 0, none⟩) n cap) ts) (i : Nat) (hi : i < ts.length) : w.cell? ⟨g, i, none⟩ = some (.string ⟨(ts.getD i []).toArray⟩) := by
 have hx : ts[i]? = some (ts.getD i []) := by rw [List.getD_eq_getElem?_getD, List.getElem?_eq_getElem hi]; rfl
 have := h.cellAt strC_len i _ 0 hx (by decide)
 simpa [strC] using this
theorem getD_all {α : Type} {p : α → Prop} {l : List α} {d : α} (h : ∀ x ∈ l, p x) {k : Nat} (hk : k < l.length) : p (l.getD k d) := by
 rw [List.getD_eq_getElem?_getD, List.getElem?_eq_getElem hk]; exact h _ (List.getElem_mem hk)
theorem ba_cat13 (a b : List UInt8) : (⟨a.toArray⟩ : ByteArray) ++ ⟨b.toArray⟩ = ⟨(a ++ b).toArray⟩ := by
 apply ByteArray.ext; rw [ByteArray.data_append]
 simp
theorem genC13 {P : Program} {md : Region.Mode} {ops : Array Oper} {C : World → Prop} {Q : Exit → Act → World → Prop} {fuel : Nat} {listed : Array Bool} {a : Act} {w : World} (F : World → Prop) (hF : F w) (h : ∀ w', F w' → wpAnyC P md ops C Q fuel listed a w') : wpAnyC P md ops C Q fuel listed a w := h w hF
theorem short_snoc {ts : List (List UInt8)} (h : ∀ t ∈ ts, t.length ≤ 64) {x : List UInt8} (hx : x.length ≤ 64) : ∀ t ∈ ts ++ [x], t.length ≤ 64 := fun t ht => by
 rcases List.mem_append.1 ht with ht | ht
 · exact h t ht
 · simp at ht; rw [ht]; exact hx
end Go.Proofs.YtonkenlkigfeoaaDoor
