/- Plain laws: a tree's depth, its count, its shape. No conditions; no program. -/
import Derived.Test.YtnbfifmnigeolaaDoorReSpec
namespace Go.Proofs.YtnbfifmnigeolaaDoor
def Re.kids : Re → List Re | .mk _ _ _ _ l => l
def Re.kind : Re → Int | .mk k _ _ _ _ => k
def mxl : List Nat → Nat
  | [] => 0
  | x :: l => max x (mxl l)
theorem mxl_lt {n : Nat} : ∀ {l : List Nat}, n < mxl l ↔ ∃ x ∈ l, n < x
  | [] => by simp [mxl]
  | x :: l => by
    simp only [mxl, List.mem_cons, exists_eq_or_imp, ← mxl_lt (n := n) (l := l)]
    omega
theorem mxl_append : ∀ {l m : List Nat}, mxl (l ++ m) = max (mxl l) (mxl m)
  | [], m => by simp [mxl]
  | x :: l, m => by simp only [List.cons_append, mxl, mxl_append (l := l) (m := m)]; omega
/-- how deep (at most so many levels lie in memory) -/
def dep : Nat → Re → Nat
  | 0, _ => 0
  | h + 1, t => 1 + mxl (t.kids.map (dep h))
/-- how many nodes -/
def cnt : Nat → Re → Nat
  | 0, _ => 0
  | h + 1, t => 1 + (t.kids.map (cnt h)).sum
/-- a set's words are nought -/
def noS (s : Nat × Nat × Nat × Nat) : Bool := ((s.1 : Nat) : Int) == 0 && (((s.2.1 : Nat) : Int) == 0 && (((s.2.2.1 : Nat) : Int) == 0 && ((s.2.2.2 : Nat) : Int) == 0))
/-- may a node be? -/
def okP : Re → Prop
  | .mk k s mn mx kids =>
    (k = 1 ∧ mn = 0 ∧ mx = 0 ∧ (kids.length : Int) = 0) ∨
    ((k = 2 ∨ k = 3) ∧ noS s = true ∧ mn = 0 ∧ mx = 0 ∧ (2 ≤ (kids.length : Int) ∨ (k = 2 ∧ (kids.length : Int) = 0)) ∧ ∀ t ∈ kids, t.kind ≠ k) ∨
    (k = 4 ∧ noS s = true ∧ (kids.length : Int) = 1 ∧ 0 ≤ mn ∧ mn ≤ 20 ∧ (mx = -1 ∨ (mn ≤ mx ∧ mx ≤ 20 ∧ ¬ (mn = 1 ∧ mx = 1))))
noncomputable def okN (t : Re) : Bool := @decide (okP t) (Classical.propDecidable _)
theorem okN_iff {t : Re} : okN t = true ↔ okP t := by unfold okN; exact @decide_eq_true_iff _ (Classical.propDecidable _)
/-- may a tree be? -/
noncomputable def shp : Nat → Re → Bool
  | 0, _ => false
  | h + 1, t => okN t && t.kids.all (shp h)
theorem range_any {α : Type} (l : List α) (f : α → Bool) (p : Nat → Bool) (h : ∀ (i : Nat) a, l[i]? = some a → p i = f a) : (List.range l.length).any p = l.any f := by
  rw [Bool.eq_iff_iff, List.any_eq_true, List.any_eq_true]
  constructor
  · rintro ⟨i, hi, hp⟩
    have hl := List.getElem?_eq_getElem (l := l) (i := i) (by simpa using hi)
    exact ⟨_, List.mem_of_getElem? hl, by rw [← h i _ hl]; exact hp⟩
  · rintro ⟨a, ha, hf⟩
    obtain ⟨i, hi⟩ := List.getElem?_of_mem ha
    exact ⟨i, List.mem_range.2 (List.getElem?_eq_some_iff.1 hi).1, by rw [h i a hi]; exact hf⟩
theorem dep_pos {h : Nat} {t : Re} : 0 < dep (h + 1) t := by rw [dep]; omega
theorem dep_lt {h m : Nat} {t : Re} : decide (m + 1 < dep (h + 1) t) = t.kids.any fun k => decide (m < dep h k) := by
  rw [Bool.eq_iff_iff, decide_eq_true_iff, List.any_eq_true, dep]
  have : m + 1 < 1 + mxl (t.kids.map (dep h)) ↔ m < mxl (t.kids.map (dep h)) := by omega
  rw [this, mxl_lt]
  constructor
  · rintro ⟨x, hx, h⟩
    obtain ⟨a, ha, rfl⟩ := List.mem_map.1 hx
    exact ⟨a, ha, by simpa using h⟩
  · rintro ⟨a, ha, h⟩
    exact ⟨_, List.mem_map.2 ⟨a, ha, rfl⟩, by simpa using h⟩
/-- what the first so many kids count -/
def cntTo (h : Nat) (l : List Re) (k : Nat) : Nat := ((l.take k).map (cnt h)).sum
theorem cntTo_zero {h : Nat} {l : List Re} : cntTo h l 0 = 0 := rfl
theorem cntTo_succ {h k : Nat} {l : List Re} {t : Re} (ht : l[k]? = some t) : cntTo h l (k + 1) = cntTo h l k + cnt h t := by
  have hk := (List.getElem?_eq_some_iff.1 ht).1
  unfold cntTo
  rw [List.take_add_one, ht]
  simp
theorem cntTo_le {h : Nat} {l : List Re} (k : Nat) : cntTo h l k ≤ (l.map (cnt h)).sum := by
  have : (l.map (cnt h)).sum = cntTo h l k + ((l.drop k).map (cnt h)).sum := by
    unfold cntTo
    rw [← List.sum_append, ← List.map_append, List.take_append_drop]
  omega
theorem cntTo_all {h : Nat} {l : List Re} : cntTo h l l.length = (l.map (cnt h)).sum := by
  unfold cntTo; rw [List.take_length]
/-- how deep the first so many kids are -/
def depTo (h : Nat) (l : List Re) (k : Nat) : Nat := mxl ((l.take k).map (dep h))
theorem depTo_zero {h : Nat} {l : List Re} : depTo h l 0 = 0 := rfl
theorem depTo_succ {h k : Nat} {l : List Re} {t : Re} (ht : l[k]? = some t) : depTo h l (k + 1) = max (depTo h l k) (dep h t) := by
  unfold depTo
  rw [List.take_add_one, ht, List.map_append, mxl_append]
  simp [mxl]
theorem depTo_le {h : Nat} {l : List Re} (k : Nat) : depTo h l k ≤ mxl (l.map (dep h)) := by
  have : mxl (l.map (dep h)) = max (depTo h l k) (mxl ((l.drop k).map (dep h))) := by
    unfold depTo
    rw [← mxl_append, ← List.map_append, List.take_append_drop]
  omega
theorem depTo_all {h : Nat} {l : List Re} : depTo h l l.length = mxl (l.map (dep h)) := by
  unfold depTo; rw [List.take_length]
end Go.Proofs.YtnbfifmnigeolaaDoor
