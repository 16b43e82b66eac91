/- The longest word at a place of a text, in a trie that was built of few words. Conditions: few words, none too long. -/
import Derived.Test.YtndekogkfbhabaaTriNum
import Derived.Test.YtndekogkfbhabaaTrieLongest
namespace Go.Proofs.Ytndekogkfbhabaa
open Go.RowKit
/-- the longest of the first j beginnings of a text that is among the words, and where it ends -/
def lngA (words : List (List UInt8)) (m : Nat) (t : List UInt8) : Nat → Int × Int
  | 0 => (-1, -1)
  | j + 1 => if atW words (t.take j) < 0 then lngA words m t j else (atW words (t.take j), ((m + j : Nat) : Int))
theorem trie_long {words : List (List UInt8)} {w : World} {x : Value} (h : TrieV w x (laidM words)) (hw : words.length ≤ 120) (hl : ¬ longB words) (s : ByteArray) (hs : s.size ≤ 1000000) (m : Nat) (hm : m ≤ s.size) :
    Calls Try.prog 12 #[x, .string s, .int .i64 m] w fun e w' => e = .returned (.tuple #[.int .i64 (lngA words m (s.data.toList.drop m) (s.size - m + 1)).1, .int .i64 (lngA words m (s.data.toList.drop m) (s.size - m + 1)).2]) ∧ Below w.heap.size w w' := by
  obtain ⟨b1, c1, b2, c2, b3, c3, rfl, h1, h2, h3⟩ := h
  have h4 := laid_len hw hl
  have := trie_Longest (c1 := c1) (c2 := c2) (c3 := c3) _ _ _ h4.1 h4.2 s hs m hm w h1 h2 h3
  have e : ∀ j, lng (laidM words).B (laidM words).C (laidM words).W (laidM words).c.length m (s.data.toList.drop m) j = lngA words m (s.data.toList.drop m) j := by
    intro j
    induction j with
    | zero => rfl
    | succ j ih =>
      have h5 := few_num hw (small_of hl) ((s.data.toList.drop m).take j)
      rw [lng, lngA, ih]
      unfold laidM
      rw [h5]
  rw [e] at this
  exact this
/-- the document's At, at any text -/
theorem ref_AtB {words : List (List UInt8)} {w : World} {v : Value} (h : RowOf strC 1 w v words) (s : ByteArray) : Calls Try.prog 10 #[v, .string s] w fun e w' => e = .returned (.int .i64 (atW words s.data.toList)) ∧ Below w.heap.size w w' := ref_At words v s.data.toList w h
theorem ref_may {words : List (List UInt8)} {w : World} {p1 p2 p3 : Option Addr} {n1 k1 n2 k2 n3 k3 : Nat} (hw : words.length ≤ 120) (hl : ¬ longB words) (h1 : n1 = (laidM words).c.length) (h2 : n2 = n1) (h3 : n3 = n1) :
    Calls Try.prog 11 #[.agg #[.slice p1 n1 k1, .slice p2 n2 k2, .slice p3 n3 k3]] w fun e w' => e = .returned (.bool true) ∧ Below w.heap.size w w' := by
  have h4 := laid_len hw hl
  rw [← h1] at h4
  clear h1
  have h5 : mayBe n1 n2 n3 = true := mayBe_eq.2 ⟨h4.1, h4.2, h2, h3⟩
  have h6 := ref_Right p1 n1 k1 p2 n2 k2 p3 n3 k3 w
  rw [h5] at h6
  exact h6
end Go.Proofs.Ytndekogkfbhabaa
