/- Rows of structs that a call itself has made: append, reading. No conditions beyond sizes. -/
import Derived.Test.YtndekogkfbhabaaOpen
namespace Go.Proofs.Ytndekogkfbhabaa
open Go.RowKit
/-- blocks of another type than e do not turn -/
def KeepB (e : TypeId) (w w' : World) : Prop := ∀ (k : Nat) cs t fz, w.heap[k]? = some (.cells cs t fz) → t ≠ e → w'.heap[k]? = some (.cells cs t fz)
theorem KeepB.refl (e : TypeId) (w : World) : KeepB e w w := fun _ _ _ _ h _ => h
theorem KeepB.trans {e : TypeId} {w w' w'' : World} (h : KeepB e w w') (h' : KeepB e w' w'') : KeepB e w w'' := fun k cs t fz hk ht => h' k cs t fz (h k cs t fz hk ht) ht
theorem KeepB.of_below {e : TypeId} {w w' : World} (h : Below w.heap.size w w') : KeepB e w w' := fun k cs t fz hk _ => by
  rw [h.block k (Array.getElem?_eq_some_iff.1 hk).1]; exact hk
/-- a row of the call's own, each element's cells by 'f' -/
def OwnR {α : Type} (f : α → List Value) (sz B : Nat) (e : TypeId) (w : World) (v : Value) (l : List α) : Prop := OwnC B e sz w v l.length (l.flatMap f)
section
variable {α : Type} {f : α → List Value} {sz B : Nat} {e : TypeId} {w : World} {v : Value} {l : List α}
theorem OwnR.nil : OwnR f sz B e w (.slice none 0 0) ([] : List α) := OwnC.nil
theorem OwnR.keep {B' : Nat} {w' : World} (h : OwnR f sz B e w v l) (hb : Below B' w w') (hB : w.heap.size ≤ B') : OwnR f sz B e w' v l := OwnC.keep h hb hB
theorem OwnR.below {g : Nat} (h : OwnR f sz B e w v l) (hg : v.ownBlock = some g) : B ≤ g ∧ g < w.heap.size := OwnC.lt h g hg
theorem OwnR.form (h : OwnR f sz B e w v l) : ∃ a cap, v = .slice a l.length cap ∧ l.length ≤ cap ∧ cap ≤ maxLen := by
  rcases h.2 with ⟨rfl, h0⟩ | ⟨g, cap, cur, fz, rfl, _, _, _, hn, hm, _⟩
  · exact ⟨none, 0, by rw [h0], by omega, Nat.zero_le _⟩
  · exact ⟨_, cap, rfl, hn, hm⟩
/-- as a slice that is read -/
theorem OwnR.row (h : OwnR f sz B e w v l) : RowOf f sz w v l := by
  rcases h.2 with ⟨rfl, h0⟩ | ⟨g, cap, cur, fz, rfl, hB, hg, hf, hn, hm, hcs, ht⟩
  · exact ⟨none, 0, by rw [h0], by omega, Nat.zero_le _, h.1, .inl h0⟩
  · refine ⟨_, cap, rfl, hn, hm, h.1, .inr ⟨g, 0, rfl, (Array.getElem?_eq_some_iff.1 hg).1, fun i hi => ?_⟩⟩
    rw [Nat.zero_add]
    exact OwnC.cell h i hi
/-- the row's block stands while only another block turns -/
theorem OwnR.other {w' : World} (h : OwnR f sz B e w v l) (hb : ∀ k, v.ownBlock = some k → w'.heap[k]? = w.heap[k]?) : OwnR f sz B e w' v l := OwnC.block h hb
theorem OwnR.typed (h : OwnR f sz B e w v l) {k : Nat} (hk : v.ownBlock = some k) : ∃ cs fz, w.heap[k]? = some (.cells cs e fz) := by
  rcases h.2 with ⟨rfl, _⟩ | ⟨g, cap, cur, fz, rfl, _, hg, _⟩
  · simp [Value.ownBlock] at hk
  · simp only [Value.ownBlock, Option.some.injEq] at hk
    subst hk; exact ⟨_, _, hg⟩
/-- 'append(l, x)': the block of x was just laid -/
theorem app_one {P : Program} {ops : Array Oper} {rest : List Oper} {o : Oper} {a : Act} {Q : Exit → Act → World → Prop} {t : TypeId} {z : Value} {cs : Array Value} (bytes : Nat) (h : Nat) (hh : h = w.heap.size) (x : α) (hf : ∀ y, (f y).length = sz) (ho : ∀ u ∈ f x, u.oneCell' = true)
    (h1 : P.underlying t = some (.slice e)) (h2 : (P.info? e).map (fun i => (i.zero, i.size, i.bytes)) = some (some z, sz, bytes)) (hzs : z.cells.size = sz)
    (hg : o.guard = none) (s x' : Operand) (hop : o.op = Op.call { callee := Callee.builtin Builtin.append, args := #[s, x'], argTypes := #[t, t] })
    (hs : a.eval s = v) (hx : a.eval x' = .slice (some ⟨h, 0, none⟩) 1 1) (hcs : cs = (f x).toArray)
    (hown : OwnR f sz B e w v l) (hB : B ≤ w.heap.size) (hbig : (l.length + 1) * bytes ≤ 140737488355328) (hlen : l.length + 1 ≤ maxLen)
    (hK : ∀ v' w', OwnR f sz B e w' v' (l ++ [x]) → Below B w w' → KeepB e w w' → w.heap.size ≤ w'.heap.size → wpList P ops Q rest (a.put o.dst v') w') :
    wpList P ops Q (o :: rest) a (w.alloc (.cells cs e)) := by
  subst hcs hh
  refine wp_append B sz bytes h1 (.inl h1) h2 hzs hg s x' hop hs 1 (f x) (by rw [hx]; exact lenOf_slice) ?_ (by rw [hf, Nat.one_mul]) ho (OwnC.alloc hown _) (by simp; omega) hbig hlen ?_
  · rw [hx]
    exact firstCells_at (by rw [hf, Nat.one_mul]) (fun j u hj => by
      rw [Addr.add_lit, Nat.zero_add, cell_of_row _ w.heap.size j _ e (0, 0) (Go.heap_alloc_new w _)]
      simpa using hj)
  · intro v' w1 hown' hgrow
    have hsz := hgrow.size
    simp at hsz
    refine hK v' w1 ?_ ?_ ?_ (by omega)
    · unfold OwnR; simpa [List.flatMap_append] using hown'
    · exact ((Below.refl _ _).alloc hB _).grown hgrow (by simp; omega) (fun k hk => (OwnC.lt hown k hk).1)
    · intro k cs t' fz hk ht
      have hkl := (Array.getElem?_eq_some_iff.1 hk).1
      rw [hgrow.block k (by simp; omega) (fun e' => ?_), Go.heap_alloc_old w _ hkl]
      · exact hk
      · obtain ⟨cs', fz', h'⟩ := hown.typed (k := k) e'.symm
        rw [hk] at h'
        simp at h'
        exact ht h'.2.1
end
/-- only block g turns, and new blocks are laid -/
structure Else (g : Nat) (w w' : World) : Prop where
  os : w'.os = w.os
  tape : w'.tape = w.tape
  output : w'.output = w.output
  size : w.heap.size ≤ w'.heap.size
  block : ∀ k, k < w.heap.size → k ≠ g → w'.heap[k]? = w.heap[k]?
theorem Else.below {g B : Nat} {w w' : World} (h : Else g w w') (hB : B ≤ g) (hg : g < w.heap.size) : Below B w w' := ⟨h.os, h.tape, h.output, h.size, fun k hk => h.block k (by omega) (by omega)⟩
theorem Else.refl (g : Nat) (w : World) : Else g w w := ⟨rfl, rfl, rfl, Nat.le_refl _, fun _ _ _ => rfl⟩
theorem Else.of_below {g : Nat} {w w' : World} (h : Below w.heap.size w w') : Else g w w' := ⟨h.os, h.tape, h.output, h.size, fun k hk _ => h.block k hk⟩
theorem Else.trans {g : Nat} {w w' w'' : World} (h : Else g w w') (h' : Else g w' w'') : Else g w w'' :=
  ⟨h'.os.trans h.os, h'.tape.trans h.tape, h'.output.trans h.output, Nat.le_trans h.size h'.size, fun k hk hne => (h'.block k (Nat.lt_of_lt_of_le hk h.size) hne).trans (h.block k hk hne)⟩
theorem Else.setCell {g : Nat} {w w' : World} (h : Else g w w') (o : Nat) (u : Value) : Else g w (w'.setCell ⟨g, o, none⟩ u) :=
  ⟨h.os, h.tape, h.output, by have := h.size; simpa [World.setCell] using this, fun k hk hne => by rw [show (w'.setCell ⟨g, o, none⟩ u).heap[k]? = w'.heap[k]? from Below.heap_setCell _ _ _ _ (by dsimp only; omega)]; exact h.block k hk hne⟩
theorem Else.row {g : Nat} {w w' : World} (h : Else g w w') {k : Nat} {o : Obj} (hk : w.heap[k]? = some o) (hne : k ≠ g) : w'.heap[k]? = some o := by
  rw [h.block k (Array.getElem?_eq_some_iff.1 hk).1 hne]; exact hk
section
variable {α : Type} {f : α → List Value} {sz B : Nat} {e : TypeId} {w : World} {v : Value} {l : List α}
theorem OwnR.els {w' : World} {g : Nat} {cs : Array Value} {t : TypeId} {fz : Nat × Nat} (h : OwnR f sz B e w v l) (he : Else g w w') (hg : w.heap[g]? = some (.cells cs t fz)) (ht : t ≠ e) : OwnR f sz B e w' v l :=
  h.other fun k hk => by
    obtain ⟨cs', fz', h'⟩ := h.typed hk
    refine he.block k (h.below hk).2 fun e' => ?_
    subst e'
    rw [hg] at h'
    simp at h'
    exact ht h'.2.1
theorem OwnR.setOther {g o : Nat} {u : Value} (h : OwnR f sz B e w v l) (hg : ∀ k, v.ownBlock = some k → k ≠ g) : OwnR f sz B e (w.setCell ⟨g, o, none⟩ u) v l :=
  h.other fun k hk => Below.heap_setCell _ _ _ _ (by have := hg k hk; dsimp only; omega)
/-- a cell of an element -/
theorem OwnR.cellAt {g cap n : Nat} (hf : ∀ x, (f x).length = sz) (h : OwnR f sz B e w (.slice (some ⟨g, 0, none⟩) n cap) l) (i : Nat) (x : α) (j : Nat) (hx : l[i]? = some x) (hj : j < sz) : w.cell? ⟨g, i * sz + j, none⟩ = (f x)[j]? := by
  have hi : i < l.length := (List.getElem?_eq_some_iff.1 hx).1
  have : (i + 1) * sz ≤ l.length * sz := Nat.mul_le_mul_right _ hi
  rw [Nat.succ_mul] at this
  obtain ⟨a, cap', hv, _⟩ := h.form
  simp only [Value.slice.injEq] at hv
  obtain ⟨rfl, rfl, rfl⟩ := hv
  rw [OwnC.cell h _ (by omega), flatMap_at hf l i x j hx hj]
theorem OwnR.somewhere (h : OwnR f sz B e w v l) (h0 : 0 < l.length) : ∃ g cap, v = .slice (some ⟨g, 0, none⟩) l.length cap := by
  rcases h.2 with ⟨_, h'⟩ | ⟨g, cap, cur, fz, rfl, _⟩
  · omega
  · exact ⟨g, cap, rfl⟩
end
end Go.Proofs.Ytndekogkfbhabaa
