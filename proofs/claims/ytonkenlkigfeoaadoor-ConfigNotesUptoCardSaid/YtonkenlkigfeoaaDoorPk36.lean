/- Plain laws: a text cut at its line ends; lines woven with others that say nothing (P17.1). No conditions; no program. -/
import Derived.Test.YtonkenlkigfeoaaDoorPk35
import Derived.Lib.SplitLaws
import Derived.Lib.CountLaws
import Derived.Lib.IndexBytes
import Derived.Lib.IndexLaws
namespace Go.Proofs.YtonkenlkigfeoaaDoor
open Go.RowKit Go.Lib
theorem txt1_app (a b : List (List UInt8)) : txt1 (a ++ b) = txt1 a ++ txt1 b := by unfold txt1; rw [List.flatMap_append]
theorem txt1_one (l : List UInt8) : txt1 [l] = 10 :: l := by unfold txt1; simp
theorem txt1_cons (l : List UInt8) (ls : List (List UInt8)) : txt1 (l :: ls) = 10 :: (l ++ txt1 ls) := by unfold txt1; simp
/-- where a text has its first line end -/
theorem lf_at (s : ByteArray) : (indexB s ⟨#[10]⟩ = -1 ∧ noLf s.data.toList) ∨ ∃ i : Nat, indexB s ⟨#[10]⟩ = i ∧ s.data.toList = s.data.toList.take i ++ 10 :: s.data.toList.drop (i + 1) ∧ noLf (s.data.toList.take i) := by
 have h1 := one s ⟨#[10]⟩ rfl; have h2 : indexB s ⟨#[10]⟩ = indexByte s.data.toList 10 := h1; have hge : -1 ≤ indexB s ⟨#[10]⟩ := index_ge _ _
 by_cases hm : indexB s ⟨#[10]⟩ = -1
 · refine .inl ⟨hm, fun x hx hx2 => ?_⟩; obtain ⟨k, hk, hk2⟩ := List.mem_iff_getElem.1 hx; rw [h2] at hm; exact indexByte_none hm k (by rw [List.getElem?_eq_getElem hk, hk2, hx2])
 · obtain ⟨i, hi⟩ : ∃ i : Nat, indexB s ⟨#[10]⟩ = i := ⟨(indexB s ⟨#[10]⟩).toNat, by omega⟩; refine .inr ⟨i, hi, ?_, ?_⟩
   · rw [h2] at hi; obtain ⟨ha, _⟩ := indexByte_some hi; obtain ⟨hlt, hv⟩ := List.getElem?_eq_some_iff.1 ha
     conv => lhs; rw [← List.take_append_drop i s.data.toList, List.drop_eq_getElem_cons hlt, hv]
   · intro x hx hx2; rw [h2] at hi; obtain ⟨_, hb⟩ := indexByte_some hi; obtain ⟨k, hk, hk2⟩ := List.mem_iff_getElem.1 hx; rw [List.length_take] at hk; rw [List.getElem_take] at hk2; exact hb k (by omega) (by rw [List.getElem?_eq_getElem (by omega), hk2, hx2])
/-- the lines of a text -/
theorem split_lines : ∀ (k : Nat) (s : ByteArray), countB s ⟨#[10]⟩ = k → ∃ l0 ls, splitB ⟨#[10]⟩ 0 k s = l0 :: ls ∧ s.data.toList = l0.data.toList ++ txt1 (ls.map (·.data.toList)) ∧ noLf l0.data.toList ∧ ∀ m ∈ ls, noLf m.data.toList
 | 0, s, hk => by
   rcases lf_at s with ⟨_, h⟩ | ⟨i, hi, _, _⟩
   · exact ⟨s, [], rfl, by unfold txt1; simp, h, fun m hm => by simp at hm⟩
   · rw [countB_hit s _ i (by show 1 ≤ 1; omega) hi] at hk; omega
 | k + 1, s, hk => by
   rcases lf_at s with ⟨h, _⟩ | ⟨i, hi, hs, hn⟩
   · rw [countB_miss s _ h] at hk; omega
   · have hc := countB_hit s ⟨#[10]⟩ i (by show 1 ≤ 1; omega) hi; obtain ⟨l0, ls, h1, h2, h3, h4⟩ := split_lines k (s.extract (i + (⟨#[10]⟩ : ByteArray).size) s.size) (by omega); refine ⟨s.extract 0 (i + 0), l0 :: ls, by rw [splitB_hit _ 0 k s i hi, h1], ?_, by rw [extract_from_zero]; exact hn, fun m hm => ?_⟩
     · rw [extract_from_zero, List.map_cons, txt1_cons, ← h2, extract_to_end]; exact hs
     · rcases List.mem_cons.1 hm with rfl | hm
       · exact h3
       · exact h4 m hm
theorem Laid.app {a a' b b' : List (List UInt8)} (h : Laid a a') (h' : Laid b b') : Laid (a ++ b) (a' ++ b') := by
 induction h with
 | nil => exact h'
 | cons l hm h ih =>
   rw [List.append_assoc, List.cons_append, List.cons_append]; exact .cons l hm ih
/-- what is laid ahead of a line, by its number -/
def exB : Nat → ByteArray
 | 0 => ⟨#[]⟩
 | 1 => ⟨#[10]⟩
 | 2 => ⟨#[35, 32, 112, 97, 115, 115, 32, 34, 10]⟩
 | _ => ⟨#[35, 10, 10]⟩
def exL : Nat → List (List UInt8)
 | 0 => []
 | 1 => [[]]
 | 2 => [[35, 32, 112, 97, 115, 115, 32, 34]]
 | _ => [[35], []]
theorem exL_mute (n : Nat) : ∀ m ∈ exL n, Mute m ∧ noLf m := by
 intro m hm; unfold exL at hm
 split at hm
 · simp at hm
 · rw [List.mem_singleton] at hm; subst hm; exact ⟨.inl rfl, fun x hx => by simp at hx⟩
 · rw [List.mem_singleton] at hm; subst hm; exact ⟨.inr ⟨_, rfl⟩, by unfold noLf; decide⟩
 · simp only [List.mem_cons, List.not_mem_nil, or_false] at hm
   rcases hm with rfl | rfl
   · exact ⟨.inr ⟨_, rfl⟩, by unfold noLf; decide⟩
   · exact ⟨.inl rfl, fun x hx => by simp at hx⟩
theorem exL_txt (n : Nat) (l : List UInt8) : txt1 (exL n ++ [l]) = 10 :: ((exB n).data.toList ++ l) := by
 rw [txt1_app, txt1_one]; unfold exL exB
 split <;> rfl
theorem exB_le (n : Nat) : (exB n).data.toList.length ≤ 9 := by
 unfold exB
 split <;> decide
/-- the text that is made of the first line and of so many more -/
def Woven (l0 : List UInt8) (ls : List (List UInt8)) (j : Nat) (t : List UInt8) : Prop :=
 ∃ ls', Laid (ls.take j) ls' ∧ t = l0 ++ txt1 ls' ∧ t.length ≤ (l0 ++ txt1 (ls.take j)).length + 9 * j
theorem Woven.zero (l0 : List UInt8) (ls : List (List UInt8)) : Woven l0 ls 0 l0 :=
 ⟨[], .nil, by unfold txt1; simp, by unfold txt1; simp⟩
theorem Woven.step {l0 : List UInt8} {ls : List (List UInt8)} {j : Nat} {t l : List UInt8} (h : Woven l0 ls j t) (hl : ls[j]? = some l) (n : Nat) : Woven l0 ls (j + 1) (t ++ 10 :: ((exB n).data.toList ++ l)) := by
 obtain ⟨ls', h1, h2, h3⟩ := h; have ht : ls.take (j + 1) = ls.take j ++ [l] := by rw [List.take_add_one, hl]; rfl
 refine ⟨ls' ++ (exL n ++ [l]), ?_, ?_, ?_⟩
 · rw [ht]; exact h1.app (.cons l (exL_mute n) .nil)
 · rw [txt1_app, exL_txt, ← List.append_assoc, ← h2]
 · have h4 := exB_le n; rw [ht, txt1_app, txt1_one]; simp only [List.length_append, List.length_cons] at h3 ⊢; omega
/-- what is read of a text and of the woven one -/
theorem woven_read {l0 : List UInt8} {ls : List (List UInt8)} {t s : List UInt8} (hs : s = l0 ++ txt1 ls) (h : Woven l0 ls ls.length t) (h0 : noLf l0) (hl : ∀ m ∈ ls, noLf m) :
   (linesR s (s.length + 2) 0 stZ).np = (linesR t (t.length + 2) 0 stZ).np ∧ (s.length = 0 ↔ t.length = 0) ∧ t.length ≤ s.length + 9 * ls.length := by
 obtain ⟨ls', h1, h2, h3⟩ := h; rw [List.take_length] at h1 h3; subst hs; subst h2; exact ⟨(laid_lines h0 hl h1).1, (laid_lines h0 hl h1).2, h3⟩
end Go.Proofs.YtonkenlkigfeoaaDoor
