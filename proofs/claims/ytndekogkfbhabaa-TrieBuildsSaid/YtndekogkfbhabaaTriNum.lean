/- What is found in a trie that was built of few words. Conditions: few words, none too long. -/
import Derived.Test.YtndekogkfbhabaaTriBuild
import Derived.Test.YtndekogkfbhabaaTriShort
import Derived.Test.YtndekogkfbhabaaTriAlive
namespace Go.Proofs.Ytndekogkfbhabaa
open Go.RowKit
theorem small_of {words : List (List UInt8)} (h : ¬ longB words) : ∀ x ∈ words, x.length ≤ 64 := fun x hx => by
  have h1 : ¬ words.any (fun x => decide (64 < x.length)) = true := fun h' => h (.inr h')
  have := List.any_eq_false.1 (Bool.eq_false_iff.2 h1) x hx
  simp at this
  omega
/-- how long the rows are -/
theorem laid_len {words : List (List UInt8)} (hw : words.length ≤ 120) (hl : ¬ longB words) : 1 ≤ (laidM words).c.length ∧ (laidM words).c.length ≤ 400000 := by
  have hsm := small_of hl
  obtain ⟨_, _, e3, e4, _⟩ := lay_num 64 (numbered words) (by
    rintro ⟨x, i⟩ hx
    exact hsm x (List.fst_mem_of_mem_zipIdx hx))
  exact ⟨e3, Nat.le_trans e4 (few_len hw hsm)⟩
theorem trie_num {words : List (List UInt8)} {w : World} {x : Value} (h : TrieV w x (laidM words)) (hw : words.length ≤ 120) (hl : ¬ longB words) (s : ByteArray) (hs : s.size ≤ 1000000) :
    Calls Try.prog 9 #[x, .string s] w fun e w' => e = .returned (.int .i64 (atW words s.data.toList)) ∧ Below w.heap.size w w' := by
  obtain ⟨b1, c1, b2, c2, b3, c3, rfl, h1, h2, h3⟩ := h
  have h4 := laid_len hw hl
  have := trie_Find (c1 := c1) (c2 := c2) (c3 := c3) _ _ _ h4.1 h4.2 s hs w h1 h2 h3
  have e := few_num hw (small_of hl) s.data.toList
  unfold laidM at this
  rw [e] at this
  exact this
/-- what Build tells, in one form -/
theorem build_form {words : List (List UInt8)} {w w' : World} {e : Ending} (h : BuildP words w e w') : ∃ p1 n1 k1 p2 n2 k2 p3 n3 k3 E, e = .returned (.tuple #[.agg #[.slice p1 n1 k1, .slice p2 n2 k2, .slice p3 n3 k3], .int .i64 E]) ∧ Below w.heap.size w w' ∧
    (E = 0 ↔ ¬ longB words ∧ words.Nodup) ∧ (E ≠ 0 → n1 = 0) ∧ (E = 0 → TrieV w' (.agg #[.slice p1 n1 k1, .slice p2 n2 k2, .slice p3 n3 k3]) (laidM words) ∧ n1 = (laidM words).c.length ∧ n2 = n1 ∧ n3 = n1) ∧ (longB words → E = 2) ∧ (¬ longB words → ¬ words.Nodup → E = 151) := by
  obtain ⟨hb, ⟨h1, rfl⟩ | ⟨h1, h2, rfl⟩ | ⟨h1, h2, x, rfl, b1, c1, b2, c2, b3, c3, rfl, r1, r2, r3⟩⟩ := h
  · exact ⟨none, 0, 0, none, 0, 0, none, 0, 0, 2, rfl, hb, ⟨fun h => (by cases h), fun h => absurd h1 h.1⟩, fun _ => rfl, fun h => (by cases h), fun _ => rfl, fun h => absurd h1 h⟩
  · exact ⟨none, 0, 0, none, 0, 0, none, 0, 0, 151, rfl, hb, ⟨fun h => (by cases h), fun h => absurd h.2 h2⟩, fun _ => rfl, fun h => (by cases h), fun h => absurd h h1, fun _ _ => rfl⟩
  · exact ⟨_, _, c1, _, _, c2, _, _, c3, 0, rfl, hb, ⟨fun _ => ⟨h1, h2⟩, fun _ => rfl⟩, fun h => absurd rfl h, fun _ => ⟨⟨b1, c1, b2, c2, b3, c3, rfl, r1, r2, r3⟩, rfl, rfl, rfl⟩, fun h => absurd h h1, fun _ h => absurd h2 h⟩
/-- a row's first elements -/
theorem row_takeA {w : World} {a : Option Addr} {n cap : Nat} {l : List (List UInt8)} (h : RowOf strC 1 w (.slice a n cap) l) (k : Nat) (hk : k ≤ n) : RowOf strC 1 w (.slice a k cap) (l.take k) := by
  have h' := h
  obtain ⟨a', c', e, h1, h2, h3, h4⟩ := h
  simp only [Value.slice.injEq] at e
  obtain ⟨rfl, e2, rfl⟩ := e
  by_cases h0 : k = 0
  · subst h0
    exact ⟨_, _, by rw [List.take_zero]; rfl, by simp, h2, by rw [List.take_zero]; rfl, .inl (by simp)⟩
  · rcases h4 with h4 | ⟨b, off, rfl, _, _⟩
    · omega
    · exact row_take h' k hk
theorem few_take {l : List (List UInt8)} {m : Nat} (h : ¬ longB l) : ¬ longB (l.take m) := by
  rintro (h1 | h1)
  · refine h (.inl ?_)
    rw [List.length_take] at h1
    omega
  · refine h (.inr ?_)
    obtain ⟨x, hx, hx2⟩ := List.any_eq_true.1 h1
    exact List.any_eq_true.2 ⟨x, List.mem_of_mem_take hx, hx2⟩
end Go.Proofs.Ytndekogkfbhabaa
