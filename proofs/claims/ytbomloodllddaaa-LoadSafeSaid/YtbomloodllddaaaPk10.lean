/- Plain laws: instructions as bytes and as lines (P21.1, P21.3). No conditions; no program. -/
import Derived.Test.YtbomloodllddaaaPk08
import Derived.Lib.ItoaLen
namespace Go.Proofs.Ytbomloodllddaaa
open Go.RowKit
theorem okI_op {v : Nat → Int} (h : okI v = true) : 1 ≤ v 0 ∧ v 0 ≤ 17 := by
  unfold okI at h; simp at h; exact h.1
theorem okI_in {v : Nat → Int} (h : okI v = true) {x : Nat} (hx : x ∈ letr (v 0).toNat) : 0 ≤ v (pos x) ∧ v (pos x) ≤ (mst x : Int) := by
  unfold okI at h
  simp only [Bool.and_eq_true] at h
  have := List.all_eq_true.1 h.2.1 x hx
  unfold inb at this; simpa using this
/-- may all instructions be? -/
def allI (l : List (Nat → Int)) : Int := if 4096 < l.length then 2 else if l.all okI then 0 else 210
theorem allI_long {l : List (Nat → Int)} (h : 4096 < l.length) : allI l = 2 := by unfold allI; rw [if_pos h]
theorem allI_bad {l : List (Nat → Int)} (h : ¬ 4096 < l.length) {k : Nat} (hk : k < l.length) (hb : okI (l.getD k (fun _ => 0)) = false) : allI l = 210 := by
  unfold allI
  have e : l.all okI = false := by
    rw [List.all_eq_false]
    refine ⟨l.getD k (fun _ => 0), ?_, by rw [hb]; decide⟩
    rw [List.getD_eq_getElem?_getD, List.getElem?_eq_getElem hk]; exact List.getElem_mem hk
  rw [if_neg h, e]; rfl
theorem allI_good {l : List (Nat → Int)} (h : ¬ 4096 < l.length) (ha : l.all okI = true) : allI l = 0 := by unfold allI; rw [if_neg h, ha]; rfl
theorem allI_zero {l : List (Nat → Int)} (h : allI l = 0) : l.length ≤ 4096 ∧ l.all okI = true := by
  unfold allI at h
  split at h
  · cases h
  · split at h
    · rename_i h1 h2; exact ⟨by omega, h2⟩
    · cases h
/-- an instruction's bytes -/
def insB (v : Nat → Int) : List UInt8 := vput (v 0).toNat ++ (letr (v 0).toNat).flatMap fun x => vput (v (pos x)).toNat
/-- what is written behind k instructions -/
def putTo (l : List (Nat → Int)) (k : Nat) : List UInt8 := vput l.length ++ (l.take k).flatMap insB
theorem take_getI {α : Type} (l : List α) (d : α) (k : Nat) (h : k < l.length) : l.take (k + 1) = l.take k ++ [l.getD k d] := by
  rw [List.take_succ_eq_append_getElem h, List.getD_eq_getElem?_getD, List.getElem?_eq_getElem h]; rfl
theorem putTo_zero (l : List (Nat → Int)) : putTo l 0 = vput l.length := by simp [putTo]
theorem putTo_succ (l : List (Nat → Int)) (k : Nat) (h : k < l.length) : putTo l (k + 1) = putTo l k ++ insB (l.getD k (fun _ => 0)) := by
  unfold putTo; rw [take_getI l (fun _ => 0) k h, List.flatMap_append, List.append_assoc]; simp
theorem Row5p.cells {w : World} {b off : Nat} {l : List (Nat → Int)} (h : ∀ (i : Nat) (x : Nat → Int) (j : Nat), l[i]? = some x → j < 5 → w.cell? ⟨b, off + (i * 5 + j), none⟩ = (icL x)[j]?) (k : Nat) (hk : k < l.length) :
    w.cell? ⟨b, off + k * 5, none⟩ = some (.int .i64 (l.getD k (fun _ => 0) 0)) ∧ w.cell? ⟨b, off + k * 5 + 1, none⟩ = some (.int .i64 (l.getD k (fun _ => 0) 1)) ∧ w.cell? ⟨b, off + k * 5 + 2, none⟩ = some (.int .i64 (l.getD k (fun _ => 0) 2)) ∧
      w.cell? ⟨b, off + k * 5 + 3, none⟩ = some (.int .i64 (l.getD k (fun _ => 0) 3)) ∧ w.cell? ⟨b, off + k * 5 + 4, none⟩ = some (.int .i64 (l.getD k (fun _ => 0) 4)) := by
  have hx : l[k]? = some (l.getD k (fun _ => 0)) := by rw [List.getD_eq_getElem?_getD, List.getElem?_eq_getElem hk]; rfl
  refine ⟨h k _ 0 hx (by decide), h k _ 1 hx (by decide), h k _ 2 hx (by decide), h k _ 3 hx (by decide), h k _ 4 hx (by decide)⟩
theorem flatMap_len {α : Type} (f : α → List UInt8) (B : Nat) : ∀ l : List α, (∀ x ∈ l, (f x).length ≤ B) → (l.flatMap f).length ≤ B * l.length
  | [], _ => by simp
  | x :: l, h => by
    rw [List.flatMap_cons, List.length_append, List.length_cons, Nat.mul_succ]
    have h1 := h x (by simp)
    have h2 := flatMap_len f B l fun y hy => h y (by simp [hy])
    omega
theorem fld_u64 {v : Nat → Int} (h : okI v = true) {x : Nat} (hx : x ∈ letr (v 0).toNat) : (v (pos x)).toNat ≤ 1073741824 := by
  have := okI_in h hx
  have h2 := mst_le x
  omega
theorem insB_len {v : Nat → Int} (h : okI v = true) : (insB v).length ≤ 40 := by
  have h0 := okI_op h
  have h1 := vput_len10 (u64_small (n := (v 0).toNat) (by omega))
  have h2 := flatMap_len (fun x => vput (v (pos x)).toNat) 10 (letr (v 0).toNat) fun x hx => vput_len10 (u64_small (by have := fld_u64 h hx; omega))
  have h3 := letr_len (v 0).toNat
  unfold insB
  rw [List.length_append]
  omega
theorem all_at {l : List (Nat → Int)} (ha : l.all okI = true) {k : Nat} (hk : k < l.length) : okI (l.getD k (fun _ => 0)) = true := by
  apply List.all_eq_true.1 ha
  rw [List.getD_eq_getElem?_getD, List.getElem?_eq_getElem hk]; exact List.getElem_mem hk
theorem putTo_len {l : List (Nat → Int)} (ha : l.all okI = true) (hl : l.length ≤ 4096) (k : Nat) : (putTo l k).length ≤ 10 + 40 * 4096 := by
  have h1 := vput_len10 (u64_small (n := l.length) (by omega))
  have h2 := flatMap_len insB 40 (l.take k) fun x hx => insB_len (List.all_eq_true.1 ha x (List.mem_of_mem_take hx))
  have h3 : (l.take k).length ≤ 4096 := by rw [List.length_take]; omega
  unfold putTo
  rw [List.length_append]
  omega
end Go.Proofs.Ytbomloodllddaaa
