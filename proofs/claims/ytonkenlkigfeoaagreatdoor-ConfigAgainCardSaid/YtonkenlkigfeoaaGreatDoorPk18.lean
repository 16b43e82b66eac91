/- Walks: how a byte is written (the reference's letter, Sign, written). Conditions: a byte. -/
import Derived.Test.YtonkenlkigfeoaaGreatDoorPk12
import Derived.Test.YtonkenlkigfeoaaGreatDoorPk05
import Derived.Deep.LoopGhost
import Derived.Deep.CutBlock
import Derived.Lib.SlBytesConst
namespace Go.Proofs.YtonkenlkigfeoaaGreatDoor
open Go.RowKit
theorem sgL_get (k : Nat) (hk : k < 14) : sgL[k]? = some (sgL.getD k 0) := by
 rw [List.getD_eq_getElem?_getD, List.getElem?_eq_getElem (by exact hk)]; rfl
theorem sgL_lt (k : Nat) : sgL.getD k 0 < 256 := by
 by_cases hk : k < 14
 · rcases (by omega : k = 0 ∨ k = 1 ∨ k = 2 ∨ k = 3 ∨ k = 4 ∨ k = 5 ∨ k = 6 ∨ k = 7 ∨ k = 8 ∨ k = 9 ∨ k = 10 ∨ k = 11 ∨ k = 12 ∨ k = 13) with rfl | rfl | rfl | rfl | rfl | rfl | rfl | rfl | rfl | rfl | rfl | rfl | rfl | rfl <;> decide
 · rw [List.getD_eq_getElem?_getD, List.getElem?_eq_none (by show 14 ≤ k; omega)]; decide
theorem ba_lits (a b : List UInt8) : (⟨a.toArray⟩ : ByteArray) ++ ⟨b.toArray⟩ = ⟨(a ++ b).toArray⟩ := by
 apply ByteArray.ext; rw [ByteArray.data_append]
 simp
open Go.RowKit
theorem genC06 {P : Program} {md : Region.Mode} {ops : Array Oper} {C : World → Prop} {Q : Exit → Act → World → Prop} {fuel : Nat} {listed : Array Bool} {a : Act} {w : World} (F : World → Prop) (hF : F w) (h : ∀ w', F w' → wpAnyC P md ops C Q fuel listed a w') : wpAnyC P md ops C Q fuel listed a w := h w hF
theorem str_at (L : List Nat) (hL : ∀ x ∈ L, x < 256) (i : Nat) (hi : i < L.length) (w : World) : (Instr.index 9 (.string ⟨(L.map u8).toArray⟩) (.int .i64 (i : Int))).run Tryz.prog w = .ok (.int .u8 ((L.getD i 0 : Nat) : Int)) w := by
 have hx : L.getD i 0 = L[i] := by rw [List.getD_eq_getElem?_getD, List.getElem?_eq_getElem hi]; rfl
 have hlt := hL _ (List.getElem_mem hi); have hs : (⟨(L.map u8).toArray⟩ : ByteArray).size = L.length := by simp [ByteArray.size]
 have hin : i < (⟨(L.map u8).toArray⟩ : ByteArray).size := by rw [hs]; exact hi
 have hg : ((⟨(L.map u8).toArray⟩ : ByteArray)[i]'hin).toNat = L[i] := by
   have e : (⟨(L.map u8).toArray⟩ : ByteArray)[i]'hin = (L.map u8).toArray[i]'(by simpa using hi) := rfl; rw [e, List.getElem_toArray, List.getElem_map, u8_toNat_lt hlt]
 have hi' : 0 ≤ (i : Int) ∧ (i : Int) < ((⟨(L.map u8).toArray⟩ : ByteArray).size : Int) := by rw [hs]; omega
 rw [run_index_string w _ _ _ _ Tryz.underlying9, dif_pos hi', hx, ← hg]; rfl
end Go.Proofs.YtonkenlkigfeoaaGreatDoor
