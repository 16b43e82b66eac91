/- Plain laws: a word's place in a list, in its first words, in a list where none comes twice (P16.2, P16.3). No conditions; no program. -/
import Derived.Test.YtndekogkfbhabaaTriAt
namespace Go.Proofs.Ytndekogkfbhabaa
theorem atW_cases (words : List (List UInt8)) (x : List UInt8) : (atW words x = -1 ∧ ∀ (j : Nat) y, words[j]? = some y → y ≠ x) ∨ ∃ k : Nat, atW words x = k ∧ words[k]? = some x ∧ ∀ j y, j < k → words[j]? = some y → y ≠ x := by
  cases e : words.idxOf? x with
  | none =>
    left
    refine ⟨by unfold atW; rw [e], fun j y hj he => ?_⟩
    unfold List.idxOf? at e
    have := List.findIdx?_eq_none_iff.1 e y (List.mem_of_getElem? hj)
    subst he
    simp at this
  | some k =>
    right
    unfold List.idxOf? at e
    obtain ⟨h1, h2, h3⟩ := List.findIdx?_eq_some_iff_getElem.1 e
    refine ⟨k, by unfold atW List.idxOf?; rw [e], by rw [List.getElem?_eq_getElem h1]; simpa using h2, fun j y hj hy he => ?_⟩
    obtain ⟨h4, h5⟩ := List.getElem?_eq_some_iff.1 hy
    have := h3 j hj
    rw [h5, he] at this
    simp at this
/-- in the first words alone a place is alike, or there is none and it lies behind them -/
theorem atW_take (words : List (List UInt8)) (n : Nat) (x : List UInt8) : atW words x = atW (words.take n) x ∨ (atW (words.take n) x = -1 ∧ (n : Int) ≤ atW words x) := by
  rcases atW_cases words x with ⟨h1, h2⟩ | ⟨k, h1, h2, h3⟩
  · left
    rw [h1]
    refine (atW_no fun j y hy => ?_).symm
    by_cases hj : j < n
    · rw [List.getElem?_take_of_lt hj] at hy
      exact h2 j y hy
    · rw [List.getElem?_eq_none (by rw [List.length_take]; omega)] at hy; cases hy
  · by_cases hk : k < n
    · left
      rw [h1]
      refine (atW_at (k := k) (by rw [List.getElem?_take_of_lt hk]; exact h2) fun j y hj hy => ?_).symm
      rw [List.getElem?_take_of_lt (by omega)] at hy
      exact h3 j y hj hy
    · right
      refine ⟨atW_no fun j y hy => ?_, by omega⟩
      by_cases hj : j < n
      · rw [List.getElem?_take_of_lt hj] at hy
        exact h3 j y (by omega) hy
      · rw [List.getElem?_eq_none (by rw [List.length_take]; omega)] at hy; cases hy
/-- none comes twice just where each word's place is its own -/
theorem nodup_at (words : List (List UInt8)) : words.Nodup ↔ ∀ (i : Nat) x, words[i]? = some x → atW words x = i := by
  constructor
  · intro h i x hi
    refine atW_at hi fun j y hj hy he => ?_
    subst he
    have := (List.getElem?_inj (i := j) (j := i) (by exact (List.getElem?_eq_some_iff.1 hy).1) h).1 (by rw [hy, hi])
    omega
  · intro h
    refine List.pairwise_iff_getElem.2 fun i j hi hj hij e => ?_
    have h1 := h j _ (List.getElem?_eq_getElem hj)
    have h2 := h i _ (List.getElem?_eq_getElem hi)
    rw [e] at h2
    omega
end Go.Proofs.Ytndekogkfbhabaa
