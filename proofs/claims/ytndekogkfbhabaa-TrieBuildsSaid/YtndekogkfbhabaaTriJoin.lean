/- Plain laws: what trie.Find tells of rows that were laid is what the maker's plain law tells. No conditions; no program. -/
import Derived.Test.YtndekogkfbhabaaTriRoot
import Derived.Test.YtndekogkfbhabaaTrieFind
namespace Go.Proofs.Ytndekogkfbhabaa
theorem step_join {M : TM} (hn : M.c.length ≤ 400000) (hb : ∀ x, -255 ≤ M.B x ∧ M.B x ≤ M.c.length) (x : Nat) (b : UInt8) : stepS M.B M.C M.c.length x b.toNat = stepD M x b := by
  unfold stepS stepD
  have h := hb x
  by_cases h1 : 0 < M.B x + b.toNat + 1 ∧ M.C (M.B x + b.toNat + 1).toNat = x
  · have h2 : (M.B x + b.toNat + 1).toNat < M.c.length := C_in (by rw [h1.2]; omega)
    rw [if_pos h1, if_pos ⟨by omega, by omega, h1.1, by omega, h1.2⟩]
  · rw [if_neg h1, if_neg fun q => h1 ⟨q.2.2.1, q.2.2.2.2⟩]
theorem go_join {M : TM} (hn : M.c.length ≤ 400000) (hb : ∀ x, -255 ≤ M.B x ∧ M.B x ≤ M.c.length) (l : List UInt8) : goF M.B M.C M.c.length l = walkD M l := by
  unfold goF walkD
  congr 1
  funext o b
  congr 1
  funext x
  exact step_join hn hb x b
/-- the number of a text -/
theorem num_join {M : TM} (hn : M.c.length ≤ 400000) (hb : ∀ x, -255 ≤ M.B x ∧ M.B x ≤ M.c.length) (l : List UInt8) : numF M.B M.C M.W M.c.length l = numD M l := by
  unfold numF numD
  rw [go_join hn hb]
  cases walkD M l <;> rfl
/-- few words take few places -/
theorem few_len {words : List (List UInt8)} (h1 : words.length ≤ 120) (h2 : ∀ l ∈ words, l.length ≤ 64) : 1 + costW (numbered words) ≤ 400000 := by
  have h3 : ∀ (ws : List Wd), (∀ x ∈ ws, x.1.length ≤ 64) → lets ws ≤ 64 * ws.length := by
    intro ws
    induction ws with
    | nil => intro _; exact Nat.le_refl _
    | cons x ws ih =>
      intro h
      have e1 := ih fun y hy => h y (by simp [hy])
      have e2 := h x (by simp)
      unfold lets at e1 ⊢
      rw [List.map_cons, List.sum_cons, List.length_cons]
      omega
  have h4 := h3 (numbered words) (by
    rintro ⟨x, n⟩ hx
    exact h2 x (List.fst_mem_of_mem_zipIdx hx))
  have h5 : (numbered words).length = words.length := by unfold numbered; exact List.length_zipIdx
  unfold costW
  omega
/-- what is found in a trie of few words -/
theorem few_num {words : List (List UInt8)} (h1 : words.length ≤ 120) (h2 : ∀ l ∈ words, l.length ≤ 64) (l : List UInt8) :
    numF (layF 65 (numbered words) 0 tm0).B (layF 65 (numbered words) 0 tm0).C (layF 65 (numbered words) 0 tm0).W (layF 65 (numbered words) 0 tm0).c.length l = atW words l := by
  obtain ⟨_, _, _, e4, e5, _⟩ := lay_num 64 (numbered words) (by
    rintro ⟨x, n⟩ hx
    exact h2 x (List.fst_mem_of_mem_zipIdx hx))
  have h3 := few_len h1 h2
  rw [num_join (by omega) e5]
  exact num_at 64 words h2 l
end Go.Proofs.Ytndekogkfbhabaa
