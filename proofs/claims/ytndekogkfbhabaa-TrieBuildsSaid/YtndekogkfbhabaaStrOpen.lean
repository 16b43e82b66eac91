/- Rows of texts that came in, opened. No conditions. -/
import Derived.Test.YtndekogkfbhabaaStrC
namespace Go.Proofs.Ytndekogkfbhabaa
open Go.RowKit Go.Deep
theorem flat_pstrS : flat Try.prog 20 9 = some [.str] := by kernel_rfl
theorem list1S {α : Type} {l : List α} (h : l.length = 1) : ∃ a, l = [a] := by
  match l, h with
  | [a], _ => exact ⟨a, rfl⟩
section
variable {H : Type} {enc : TypeId × Value → H} {w : World} {spare : Nat → Bool} {held : Bool}
theorem slice_rowsS {α : Type} {f : α → List Value} {G : α → Prop} {t e : TypeId} {n0 : Nat} {ks : List FK} (ht : Try.prog.underlying t = some (.slice e)) (hk : flat Try.prog n0 e = some ks) (hc : Try.prog.cellsOf e = ks.length) (hsz : 0 < ks.length)
    (hp : ∀ cs, AllOk enc Try.prog w 0 spare held ks cs → ∃ y, cs = f y ∧ G y) {fuel : Nat} {c : Value} {x : DataW H × List MemPlace}
    (h : DataW.trod enc Try.prog w 0 spare held fuel t [c] = some x) (hw : Light Try.prog t x.1) : ∃ ys : List α, RowOf f ks.length w c ys ∧ ∀ y ∈ ys, G y := by
  obtain ⟨n, xs, h1, _, h3⟩ := slice_open ht hk hc hsz h hw
  have hl : xs.length = n * ks.length := by obtain ⟨_, _, _, _, _, h, _⟩ := h1; exact h
  obtain ⟨ys, e1, e2, e3⟩ := chunks (f := f) (G := G) n xs hl fun i hi => hp _ (h3 i hi)
  subst e1 e2
  exact ⟨ys, h1, e3⟩
theorem strs_rowS {fuel : Nat} {c : Value} {x : DataW H × List MemPlace} (h : DataW.trod enc Try.prog w 0 spare held fuel 22 [c] = some x) (hw : Light Try.prog 22 x.1) : ∃ l : List (List UInt8), RowOf strC 1 w c l := by
  obtain ⟨ys, h1, _⟩ := slice_rowsS (f := strC) (G := fun _ => True) Try.underlying22 flat_pstrS (by kernel_rfl) (by decide) (fun cs ho => by
    obtain ⟨b0, rfl⟩ := list1S ho.1
    obtain ⟨z0, rfl, _⟩ := ho.2 0 _ _ rfl rfl
    exact ⟨z0.data.toList, rfl, trivial⟩) h hw
  exact ⟨ys, h1⟩
end
end Go.Proofs.Ytndekogkfbhabaa
