/- Expressions' trees as they lie in memory (api.Re). No conditions. -/
import Derived.Test.YtnbfifmnigeolaaDoorOpen
import Derived.Test.YtnbfifmnigeolaaDoorTail
import Derived.Test.YtnbfifmnigeolaaDoorProg
namespace Go.Proofs.YtnbfifmnigeolaaDoor
open Go.RowKit
inductive Re where
  | mk (kind : Int) (s : Nat × Nat × Nat × Nat) (mn mx : Int) (kids : List Re)
/-- a node as it lies in memory -/
structure RN where
  k : Int
  s : Nat × Nat × Nat × Nat
  mn : Int
  mx : Int
  v : Value
/-- a node's cells -/
def reC (r : RN) : List Value :=
  [.int .i64 r.k, .int .u64 (r.s.1 : Nat), .int .u64 (r.s.2.1 : Nat), .int .u64 (r.s.2.2.1 : Nat), .int .u64 (r.s.2.2.2 : Nat), .int .i64 r.mn, .int .i64 r.mx, r.v]
theorem reC_length (r : RN) : (reC r).length = 8 := rfl
/-- cells that hold a tree of at most so many levels -/
def ReAt (w : World) : Nat → RN → Re → Prop
  | 0, _, _ => False
  | h + 1, r, .mk k s mn mx kids => (r.k = k ∧ r.s = s ∧ r.mn = mn ∧ r.mx = mx) ∧ (I64 k ∧ I64 mn ∧ I64 mx) ∧ kids.length ≤ 140737488351232 ∧
      ∃ rs : List RN, RowOf reC 8 w r.v rs ∧ rs.length = kids.length ∧ ∀ (i : Nat) (r' : RN) (t : Re), rs[i]? = some r' → kids[i]? = some t → ReAt w h r' t
theorem ReAt.keep {w w' : World} (hb : Below w.heap.size w w') : ∀ {h : Nat} {r : RN} {t : Re}, ReAt w h r t → ReAt w' h r t
  | 0, _, _, h => h.elim
  | h + 1, r, .mk k s mn mx kids, hr => by
    obtain ⟨h1, h2, h3, rs, h4, h5, h6⟩ := hr
    exact ⟨h1, h2, h3, rs, h4.keep hb, h5, fun i r' t hi ht => (h6 i r' t hi ht).keep hb⟩
theorem ReAt.up {w : World} : ∀ {h : Nat} {r : RN} {t : Re}, ReAt w h r t → ReAt w (h + 1) r t
  | 0, _, _, h => h.elim
  | h + 1, r, .mk k s mn mx kids, hr => by
    obtain ⟨h1, h2, h3, rs, h4, h5, h6⟩ := hr
    exact ⟨h1, h2, h3, rs, h4, h5, fun i r' t hi ht => (h6 i r' t hi ht).up⟩
theorem choose_list {α : Type} {Q : Nat → α → Prop} : ∀ n, (∀ i, i < n → ∃ a, Q i a) → ∃ l : List α, l.length = n ∧ ∀ (i : Nat) (a : α), l[i]? = some a → Q i a
  | 0, _ => ⟨[], rfl, fun i a h => by simp at h⟩
  | n + 1, h => by
    obtain ⟨l, hl, hq⟩ := choose_list n fun i hi => h i (by omega)
    obtain ⟨a, ha⟩ := h n (by omega)
    refine ⟨l ++ [a], by simp [hl], fun i x hx => ?_⟩
    rcases Nat.lt_or_ge i l.length with hi | hi
    · rw [List.getElem?_append_left hi] at hx; exact hq i x hx
    · rw [List.getElem?_append_right hi] at hx
      have : i - l.length = 0 := by
        rcases Nat.eq_zero_or_pos (i - l.length) with h0 | h0
        · exact h0
        · rw [List.getElem?_eq_none (by simp; omega)] at hx; cases hx
      rw [this] at hx
      simp at hx; subst hx
      rw [show i = n by omega]; exact ha
section
variable {H : Type} {enc : TypeId × Value → H} {P : Program} {w : World} {spare : Nat → Bool} {held : Bool}
/-- a slice opened: the cells of each element, and how each is read, one level down -/
theorem slice_cells {t e : TypeId} {sz : Nat} (ht : P.underlying t = some (.slice e)) (hc : P.cellsOf e = sz) (hsz : 0 < sz) {fuel : Nat} {cs : List Value} {x : DataW H × List MemPlace}
    (h : DataW.trod enc P w 0 spare held fuel t cs = some x) (hw : Light P t x.1) :
    ∃ (m n : Nat) (a : Option Addr) (cap : Nat) (L : List (List Value)), fuel = m + 1 ∧ cs = [.slice a n cap] ∧ n ≤ cap ∧ cap ≤ maxLen ∧ n * P.bytesOf e ≤ 140737488351232 ∧ L.length = n ∧
      (n = 0 ∨ ∃ b off, a = some ⟨b, off, none⟩ ∧ b < w.heap.size ∧ ∀ (i : Nat) c, L[i]? = some c → c.length = sz ∧ ∀ j, j < sz → w.cell? ⟨b, off + (i * sz + j), none⟩ = c[j]?) ∧
      ∀ (i : Nat) c, L[i]? = some c → ∃ y, DataW.trod enc P w 0 spare held m e c = some y ∧ Light P e y.1 := by
  subst hc
  rcases DataW.trod_slice ht h with ⟨rfl, _⟩ | ⟨a, len, cap, elems, rest, n, rfl, hcs, rfl, hb, hl, hm, hlen, hel, _, _⟩
  · cases fuel with
    | zero => simp [DataW.trod] at h
    | succ m => exact ⟨m, 0, none, 0, [], rfl, rfl, Nat.le_refl _, Nat.zero_le _, by simp, rfl, .inl rfl, fun i c hi => by simp at hi⟩
  · have hby : len * P.bytesOf e ≤ 140737488351232 := Nat.le_trans (Nat.mul_le_mul_right _ (by simp [hlen])) (hw.row ht)
    by_cases h0 : len = 0
    · subst h0
      exact ⟨n, 0, some a, cap, [], rfl, hcs, Nat.zero_le _, hm, by simp, rfl, .inl rfl, fun i c hi => by simp at hi⟩
    have each : ∀ i, i < len → ∃ c : List Value, c.length = P.cellsOf e ∧ (∀ j, j < P.cellsOf e → w.cell? (a.add (i * P.cellsOf e + j)) = c[j]?) ∧ ∃ y, DataW.trod enc P w 0 spare held n e c = some y ∧ Light P e y.1 := fun i hi => by
      have hx := List.getElem?_eq_getElem (l := elems) (i := i) (by omega)
      have h1 := hel i hi
      rw [hx] at h1
      obtain ⟨c, hc, ht'⟩ := Option.bind_eq_some_iff.1 h1
      obtain ⟨_, hcl, hat⟩ := World.cells?_some hc
      refine ⟨c, hcl, fun j hj => by rw [← Go.Deep.add_add, hat j hj], _, ht', ?_⟩
      exact hw.elem ht (List.mem_map.2 ⟨_, List.mem_of_getElem? hx, rfl⟩)
    have hspot : a.spot = none := by
      obtain ⟨c, h1, h2, _⟩ := each 0 (by omega)
      have h3 := h2 0 hsz
      rw [List.getElem?_eq_getElem (by omega)] at h3
      simpa [Addr.add] using World.cell?_spot h3
    obtain ⟨b, off, spot⟩ := a
    dsimp only at hspot
    subst hspot
    have hblk : b < w.heap.size := by
      obtain ⟨c, h1, h2, _⟩ := each 0 (by omega)
      have h3 := h2 0 hsz
      rw [List.getElem?_eq_getElem (by omega)] at h3
      simpa [Addr.add] using World.block_lt_of_cell? w _ h3
    obtain ⟨L, hL, hq⟩ := choose_list len each
    refine ⟨n, len, _, cap, L, rfl, hcs, hl, hm, hby, hL, .inr ⟨b, off, rfl, hblk, fun i c hi => ?_⟩, fun i c hi => (hq i c hi).2.2⟩
    obtain ⟨h1, h2, _⟩ := hq i c hi
    exact ⟨h1, fun j hj => by rw [← h2 j hj, Addr.add_lit]⟩
end
theorem flat_len {α β : Type} {f : α → List β} {sz : Nat} (hf : ∀ x, (f x).length = sz) : ∀ l : List α, (l.flatMap f).length = l.length * sz
  | [] => by simp
  | x :: l => by rw [List.flatMap_cons, List.length_append, hf, flat_len hf l, List.length_cons, Nat.succ_mul]; omega
end Go.Proofs.YtnbfifmnigeolaaDoor
