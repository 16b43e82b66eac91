/- Plain laws: classes by first appearance; arrays of 256 small numbers. No conditions; no program. -/
import Derived.Test.YtapanlchnmgkmaaMapOwn
import Derived.Test.YtapanlchnmgkmaaSetRef
import Derived.Test.YtapanlchnmgkmaaProg
namespace Go.Proofs.Ytapanlchnmgkmaa
open Go.RowKit
section
variable {α : Type} [DecidableEq α]
theorem findIn_none {a : α} : ∀ {l : List α} {i : Nat}, findIn a i l = none ↔ a ∉ l
  | [], i => by simp [findIn]
  | b :: l, i => by
    by_cases h : a = b
    · simp [findIn, h]
    · simp only [findIn, if_neg h, findIn_none, List.mem_cons]; simp [h]
theorem findIn_bound {a : α} : ∀ {l : List α} {i j : Nat}, findIn a i l = some j → i ≤ j ∧ j < i + l.length
  | [], i, j, h => by simp [findIn] at h
  | b :: l, i, j, h => by
    by_cases hab : a = b
    · simp [findIn, hab] at h; subst h; simp
    · simp only [findIn, if_neg hab] at h
      have := findIn_bound h
      simp only [List.length_cons]; omega
theorem findIn_append {a : α} : ∀ {l : List α} {i j : Nat} (m : List α), findIn a i l = some j → findIn a i (l ++ m) = some j
  | [], i, j, m, h => by simp [findIn] at h
  | b :: l, i, j, m, h => by
    by_cases hab : a = b
    · simp [findIn, hab] at h ⊢; exact h
    · simp only [findIn, if_neg hab] at h
      simp only [List.cons_append, findIn, if_neg hab]; exact findIn_append m h
theorem findIn_new {a : α} : ∀ {l : List α} {i : Nat}, a ∉ l → findIn a i (l ++ [a]) = some (i + l.length)
  | [], i, _ => by simp [findIn]
  | b :: l, i, h => by
    have hab : ¬ a = b := fun e => h (by simp [e])
    have hl : a ∉ l := fun e => h (by simp [e])
    simp only [List.cons_append, findIn, if_neg hab, findIn_new hl, List.length_cons]; congr 1; omega
/-- a key more, if it is a new one -/
def addK (l : List α) (a : α) : List α := if a ∈ l then l else l ++ [a]
/-- the keys of the first n, in the order of their first appearance -/
def keysTo (f : Nat → α) : Nat → List α
  | 0 => []
  | n + 1 => addK (keysTo f n) (f n)
theorem keysTo_len (f : Nat → α) : ∀ n, (keysTo f n).length ≤ n
  | 0 => Nat.le_refl _
  | n + 1 => by
    have := keysTo_len f n
    unfold keysTo addK
    split
    · omega
    · rw [List.length_append]; simp; omega
theorem keysTo_pre (f : Nat → α) (n : Nat) : ∀ m, ∃ r, keysTo f (n + m) = keysTo f n ++ r
  | 0 => ⟨[], by simp⟩
  | m + 1 => by
    obtain ⟨r, hr⟩ := keysTo_pre f n m
    show ∃ r, addK (keysTo f (n + m)) (f (n + m)) = _
    unfold addK
    split
    · exact ⟨r, hr⟩
    · exact ⟨r ++ [f (n + m)], by rw [hr, List.append_assoc]⟩
theorem keysTo_mem (f : Nat → α) (b : Nat) : ∀ n, b < n → f b ∈ keysTo f n
  | 0, h => absurd h (Nat.not_lt_zero _)
  | n + 1, h => by
    show f b ∈ addK (keysTo f n) (f n)
    by_cases hb : b < n
    · have := keysTo_mem f b n hb
      unfold addK
      split
      · exact this
      · exact List.mem_append_left _ this
    · obtain rfl : b = n := by omega
      unfold addK
      split
      · assumption
      · simp
/-- the class of b -/
def cls (f : Nat → α) (b : Nat) : Nat := (findIn (f b) 0 (keysTo f 256)).getD 0
def clsN (f : Nat → α) : Nat := (keysTo f 256).length
theorem cls_at (f : Nat → α) {b n : Nat} (hb : b < n) (hn : n ≤ 256) : findIn (f b) 0 (keysTo f n) = some (cls f b) := by
  cases h : findIn (f b) 0 (keysTo f n) with
  | none => exact absurd (keysTo_mem f b n hb) (findIn_none.1 h)
  | some j =>
    obtain ⟨r, hr⟩ := keysTo_pre f n (256 - n)
    rw [show n + (256 - n) = 256 by omega] at hr
    unfold cls
    rw [hr, findIn_append r h]; rfl
theorem cls_lt (f : Nat → α) {b : Nat} (hb : b < 256) : cls f b < clsN f := by
  have := findIn_bound (cls_at f hb (Nat.le_refl _))
  unfold clsN; omega
theorem clsN_le (f : Nat → α) : clsN f ≤ 256 := keysTo_len f 256
theorem cls_u8 (f : Nat → α) {b : Nat} (hb : b < 256) : cls f b < 256 := Nat.lt_of_lt_of_le (cls_lt f hb) (clsN_le f)
/-- where a key was there already -/
theorem cls_old (f : Nat → α) {k j : Nat} (hk : k < 256) (h : findIn (f k) 0 (keysTo f k) = some j) : cls f k = j ∧ keysTo f (k + 1) = keysTo f k := by
  have hm : f k ∈ keysTo f k := by
    rcases Classical.em (f k ∈ keysTo f k) with h' | h'
    · exact h'
    · rw [findIn_none.2 h'] at h; cases h
  have e : keysTo f (k + 1) = keysTo f k := by show addK _ _ = _; unfold addK; rw [if_pos hm]
  have := cls_at f (Nat.lt_succ_self k) (show k + 1 ≤ 256 by omega)
  rw [e, h] at this
  exact ⟨(Option.some.inj this).symm, e⟩
theorem cls_new (f : Nat → α) {k : Nat} (hk : k < 256) (h : findIn (f k) 0 (keysTo f k) = none) : cls f k = (keysTo f k).length ∧ keysTo f (k + 1) = keysTo f k ++ [f k] := by
  have hm := findIn_none.1 h
  have e : keysTo f (k + 1) = keysTo f k ++ [f k] := by show addK _ _ = _; unfold addK; rw [if_neg hm]
  have := cls_at f (Nat.lt_succ_self k) (show k + 1 ≤ 256 by omega)
  rw [e, findIn_new hm] at this
  exact ⟨by have := Option.some.inj this; omega, e⟩
end
/-- an array of 256 small numbers -/
def tabC (c : Nat → Nat) : Array Value := ((List.range 256).map fun b => Value.int .u8 ((c b : Nat) : Int)).toArray
theorem tabC_size (c : Nat → Nat) : (tabC c).size = 256 := by simp [tabC]
theorem tabC_at (c : Nat → Nat) {b : Nat} (hb : b < 256) : (tabC c)[b]? = some (Value.int .u8 ((c b : Nat) : Int)) := by simp [tabC, hb]
theorem tabC_one (c : Nat → Nat) : (tabC c).all (·.oneCell') = true := by simp [tabC, Value.oneCell']
theorem tabC_congr {c d : Nat → Nat} (h : ∀ b, b < 256 → c b = d b) : tabC c = tabC d := by
  unfold tabC; congr 1
  exact List.map_congr_left fun b hb => by rw [h b (List.mem_range.1 hb)]
theorem tabC_set (c d : Nat → Nat) {k : Nat} (hk : k < 256) {x : Nat} (h : ∀ b, b < 256 → d b = if b = k then x else c b) : (tabC c).setIfInBounds k (.int .u8 (x : Int)) = tabC d := by
  apply Array.ext_getElem?
  intro j
  rw [Array.getElem?_setIfInBounds]
  by_cases hj : j < 256
  · rw [tabC_at _ hj, tabC_at _ hj, h j hj]
    by_cases hkj : k = j
    · subst hkj; simp [tabC_size, hk]
    · have : ¬ j = k := fun e => hkj e.symm
      simp [hkj, this]
  · have h1 : (tabC c)[j]? = none := by simp [tabC_size, Nat.le_of_not_lt hj]
    have h2 : (tabC d)[j]? = none := by simp [tabC_size, Nat.le_of_not_lt hj]
    have h3 : ¬ k = j := by omega
    rw [h1, h2]; simp [h3]
end Go.Proofs.Ytapanlchnmgkmaa
