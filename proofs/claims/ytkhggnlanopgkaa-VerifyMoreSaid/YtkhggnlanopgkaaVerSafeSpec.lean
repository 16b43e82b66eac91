/- Plain: which instructions do ranges show not to fault (P23.2). No conditions. -/
import Derived.Test.YtkhggnlanopgkaaVerMin
namespace Go.Proofs.Ytkhggnlanopgkaa
open Go.RowKit
def tabD (p : Prg) (x : Nat → Int) : Int × List Int := p.tabs.getD (x 4).toNat (0, [])
def safeI (p : Prg) (x : Nat → Int) (r : Rg) : Bool :=
  if x 0 = 8 then inB (rget r (x 1).toNat) 0 (((tabD p x).2.length : Int) / (tabD p x).1 - 1) && inB (rget r (x 2).toNat) 0 ((tabD p x).1 - 1)
  else if x 0 = 12 then inB (rget r (x 1).toNat) 0 255
  else if x 0 = 13 then inB (rget r (x 1).toNat) 0 (2 * (p.texts.length : Int) - 1) && inB (rget r (x 2).toNat) 0 255
  else if x 0 = 15 then inB (rget r (x 1).toNat) 0 (p.signs - 1)
  else true
/-- what an instruction of a whole program is like -/
structure SOk (p : Prg) (x : Nat → Int) : Prop where
  a : 0 ≤ x 1 ∧ x 1 ≤ 7
  b : x 0 = 8 ∨ x 0 = 13 → 0 ≤ x 2 ∧ x 2 ≤ 7
  t : x 0 = 8 → 0 ≤ x 4 ∧ x 4 < (p.tabs.length : Int) ∧ 1 ≤ (tabD p x).1 ∧ (tabD p x).1 ≤ 256 ∧ (tabD p x).2.length ≤ 400000
  n : p.texts.length ≤ 4096
  s : 0 ≤ p.signs ∧ p.signs ≤ 65536
/-- a span's two cells -/
theorem sp_cells {w : World} {b off : Nat} {r : Rg} (h : ∀ (i : Nat) (x : Int × Int) (j : Nat), r[i]? = some x → j < 2 → w.cell? ⟨b, off + (i * 2 + j), none⟩ = (spC x)[j]?) (k : Nat) (hk : k < r.length) :
    w.cell? ⟨b, off + k * 2, none⟩ = some (.int .i64 (rget r k).1) ∧ w.cell? ⟨b, off + k * 2 + 1, none⟩ = some (.int .i64 (rget r k).2) := by
  have hx : r[k]? = some (rget r k) := by unfold rget; rw [List.getD_eq_getElem?_getD, List.getElem?_eq_getElem hk]; rfl
  exact ⟨h k _ 0 hx (by decide), h k _ 1 hx (by decide)⟩
theorem safe_8 {p : Prg} {x : Nat → Int} {r : Rg} (h : x 0 = 8) : safeI p x r = (inB (rget r (x 1).toNat) 0 (((tabD p x).2.length : Int) / (tabD p x).1 - 1) && inB (rget r (x 2).toNat) 0 ((tabD p x).1 - 1)) := by unfold safeI; rw [if_pos h]
theorem safe_12 {p : Prg} {x : Nat → Int} {r : Rg} (h : x 0 = 12) : safeI p x r = inB (rget r (x 1).toNat) 0 255 := by unfold safeI; rw [if_neg (by omega), if_pos h]
theorem safe_13 {p : Prg} {x : Nat → Int} {r : Rg} (h : x 0 = 13) : safeI p x r = (inB (rget r (x 1).toNat) 0 (2 * (p.texts.length : Int) - 1) && inB (rget r (x 2).toNat) 0 255) := by unfold safeI; rw [if_neg (by omega), if_neg (by omega), if_pos h]
theorem safe_15 {p : Prg} {x : Nat → Int} {r : Rg} (h : x 0 = 15) : safeI p x r = inB (rget r (x 1).toNat) 0 (p.signs - 1) := by unfold safeI; rw [if_neg (by omega), if_neg (by omega), if_neg (by omega), if_pos h]
theorem safe_no {p : Prg} {x : Nat → Int} {r : Rg} (h1 : x 0 ≠ 8) (h2 : x 0 ≠ 12) (h3 : x 0 ≠ 13) (h4 : x 0 ≠ 15) : safeI p x r = true := by unfold safeI; rw [if_neg h1, if_neg h2, if_neg h3, if_neg h4]
end Go.Proofs.Ytkhggnlanopgkaa
