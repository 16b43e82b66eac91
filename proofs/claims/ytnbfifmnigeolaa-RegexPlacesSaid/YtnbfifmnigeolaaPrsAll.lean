/- All parts' contracts, whatever the fuel. Conditions: a text of at most 512 bytes. -/
import Derived.Test.YtnbfifmnigeolaaPrsCat
import Derived.Test.YtnbfifmnigeolaaPrsItem
import Derived.Test.YtnbfifmnigeolaaPrsAtom
namespace Go.Proofs.Ytnbfifmnigeolaa
open Go.RowKit Go.Lib
theorem CT.zero (g : Nat) (S : ByteArray) (fn : Nat) (k : Tk) : CT g S fn k 0 := fun _ _ _ _ _ _ hn => absurd (by rw [prs]) hn
theorem ps_all (g : Nat) (S : ByteArray) (hS : S.size ≤ 512) : ∀ n f, f ≤ n → CT g S 8 .alt f ∧ CT g S 12 (.cat []) f ∧ CT g S 18 .item f ∧ CT g S 20 .atom f
  | 0, f, hf => by
    rw [Nat.le_zero.1 hf]
    exact ⟨CT.zero _ _ _ _, CT.zero _ _ _ _, CT.zero _ _ _ _, CT.zero _ _ _ _⟩
  | n + 1, f, hf => by
    have ih := ps_all g S hS n
    cases f with
    | zero => exact ⟨CT.zero _ _ _ _, CT.zero _ _ _ _, CT.zero _ _ _ _, CT.zero _ _ _ _⟩
    | succ f =>
      have h1 := ih f (by omega)
      exact ⟨ps_alt g S f hS fun f' hf' => (ih f' (by omega)).2.1, ps_cat g S (f + 1) hS fun f' hf' => (ih f' (by omega)).2.2.1, ps_item g S f hS h1.2.2.2, ps_atom g S f hS h1.1⟩
end Go.Proofs.Ytnbfifmnigeolaa
