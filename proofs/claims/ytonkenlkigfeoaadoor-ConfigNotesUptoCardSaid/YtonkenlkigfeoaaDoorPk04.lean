/- What came in, opened to cells: values of flat types, slices of them. No conditions; no program. -/
import Derived.Test.YtonkenlkigfeoaaDoorPk01
import Derived.OpenShut
import Derived.Deep.Slices
namespace Go.Proofs.YtonkenlkigfeoaaDoor
open Go.RowKit Go.Deep
/-- what one cell of a flat value is -/
inductive FK where
 | int (k : IntKind)
 | str
 | bool
 | sl (t : TypeId)
 deriving DecidableEq
section
variable {H : Type} {enc : TypeId × Value → H} {P : Program} {w : World} {base : Nat} {spare : Nat → Bool} {held : Bool}
/-- no part of a datum takes more than the reach -/
def Light (P : Program) (t : TypeId) (d : DataW H) : Prop := ∀ n ∈ d.weights P t, n ≤ 140737488351232
theorem weights_mem_all {e : TypeId} : ∀ {ds : List (DataW H)} {d : DataW H}, d ∈ ds → ∀ n ∈ d.weights P e, n ∈ DataW.weightsAll P e ds
 | [], _, h, _, _ => by simp at h
 | x :: r, d, h, n, hn => by
   rw [DataW.weightsAll]
   rcases List.mem_cons.1 h with rfl | h
   · exact List.mem_append_left _ hn
   · exact List.mem_append_right _ (weights_mem_all h n hn)
theorem Light.item {t e : TypeId} {m : Nat} {xs : List (DataW H)} (hu : P.underlying t = some (.array m e)) (h : Light P t (.agg xs)) {d : DataW H} (hd : d ∈ xs) : Light P e d := fun n hn => by
 apply h; rw [DataW.weights, hu]; exact weights_mem_all hd n hn
theorem Light.row {t e : TypeId} {xs ys : List (DataW H)} (hu : P.underlying t = some (.slice e)) (h : Light P t (.slice xs ys)) : (xs.length + ys.length) * P.bytesOf e ≤ 140737488351232 := by
 apply h; rw [DataW.weights, hu]; exact List.mem_cons_self
theorem Light.str {t : TypeId} {l : List UInt8} (h : Light P t (.lit (.string l) : DataW H)) : l.length ≤ 140737488351232 := by
 apply h; rw [DataW.weights]
 simp
/-- what is known of such a cell -/
def FKok (enc : TypeId × Value → H) (P : Program) (w : World) (base : Nat) (spare : Nat → Bool) (held : Bool) : FK → Value → Prop
 | .int k, c => ∃ n, c = .int k n ∧ (Lit.int k n).wf = true
 | .str, c => ∃ s : ByteArray, c = .string s ∧ s.size ≤ 140737488351232
 | .bool, c => ∃ b, c = .bool b
 | .sl t, c => ∃ m y, DataW.trod enc P w base spare held m t [c] = some y ∧ Light P t y.1
def AllOk (enc : TypeId × Value → H) (P : Program) (w : World) (base : Nat) (spare : Nat → Bool) (held : Bool) (ks : List FK) (cs : List Value) : Prop :=
 cs.length = ks.length ∧ ∀ (i : Nat) k c, ks[i]? = some k → cs[i]? = some c → FKok enc P w base spare held k c
theorem AllOk.one {k : FK} {c : Value} (h : FKok enc P w base spare held k c) : AllOk enc P w base spare held [k] [c] :=
 ⟨rfl, fun i k' c' hk hc => by
   cases i with
   | zero => simp at hk hc; subst hk; subst hc; exact h
   | succ i => simp at hk⟩
end
/-- a slice that is read: n elements of sz cells each, the cells xs, all below block B -/
def RdC (B sz : Nat) (w : World) (v : Value) (n : Nat) (xs : List Value) : Prop :=
 ∃ a cap, v = .slice a n cap ∧ n ≤ cap ∧ cap ≤ maxLen ∧ xs.length = n * sz ∧ (n = 0 ∨ ∃ b off, a = some ⟨b, off, none⟩ ∧ b < B ∧ ∀ i, i < n * sz → w.cell? ⟨b, off + i, none⟩ = xs[i]?)
theorem RdC.below {B B' sz : Nat} {w w' : World} {v : Value} {n : Nat} {xs : List Value} (h : RdC B sz w v n xs) (hb : Below B' w w') (hB : B ≤ B') : RdC B sz w' v n xs := by
 obtain ⟨a, cap, rfl, hc, hm, hl, h⟩ := h; refine ⟨a, cap, rfl, hc, hm, hl, ?_⟩
 rcases h with h | ⟨b, off, rfl, hbB, h⟩
 · exact .inl h
 · exact .inr ⟨b, off, rfl, hbB, fun i hi => by rw [hb.cell (show b < B' by omega)]; exact h i hi⟩
theorem RdC.mono {B B' sz : Nat} {w : World} {v : Value} {n : Nat} {xs : List Value} (h : RdC B sz w v n xs) (hB : B ≤ B') : RdC B' sz w v n xs := by
 obtain ⟨a, cap, rfl, hc, hm, hl, h⟩ := h; refine ⟨a, cap, rfl, hc, hm, hl, ?_⟩
 rcases h with h | ⟨b, off, rfl, hbB, h⟩
 · exact .inl h
 · exact .inr ⟨b, off, rfl, by omega, h⟩
theorem RdC.keep {sz : Nat} {w w' : World} {v : Value} {n : Nat} {xs : List Value} (h : RdC w.heap.size sz w v n xs) (hb : Below w.heap.size w w') : RdC w'.heap.size sz w' v n xs := (h.below hb (Nat.le_refl _)).mono hb.size
/-- a slice that is read as a list, each element's cells by 'f' -/
def RowOf {α : Type} (f : α → List Value) (sz : Nat) (w : World) (v : Value) (l : List α) : Prop := RdC w.heap.size sz w v l.length (l.flatMap f)
theorem flatMap_at {α : Type} {f : α → List Value} {sz : Nat} (hf : ∀ x, (f x).length = sz) : ∀ (l : List α) (i : Nat) (x : α) (j : Nat), l[i]? = some x → j < sz → (l.flatMap f)[i * sz + j]? = (f x)[j]?
 | [], i, x, j, h, _ => by simp at h
 | y :: l, 0, x, j, h, hj => by
   simp at h; subst h
   rw [List.flatMap_cons, Nat.zero_mul, Nat.zero_add, List.getElem?_append_left (by rw [hf]; exact hj)]
 | y :: l, i + 1, x, j, h, hj => by
   rw [List.flatMap_cons, List.getElem?_append_right (by rw [hf, Nat.succ_mul]; omega), hf, Nat.succ_mul, show i * sz + sz + j - sz = i * sz + j from by omega]; exact flatMap_at hf l i x j (by simpa using h) hj
theorem RowOf.keep {α : Type} {f : α → List Value} {sz : Nat} {w w' : World} {v : Value} {l : List α} (h : RowOf f sz w v l) (hb : Below w.heap.size w w') : RowOf f sz w' v l := RdC.keep h hb
/-- its form, and its cells -/
theorem RowOf.open {α : Type} {f : α → List Value} {sz : Nat} {w : World} {v : Value} {l : List α} (hf : ∀ x, (f x).length = sz) (h : RowOf f sz w v l) :
   ∃ a cap, v = .slice a l.length cap ∧ l.length ≤ cap ∧ cap ≤ maxLen ∧ (l.length = 0 ∨ ∃ b off, a = some ⟨b, off, none⟩ ∧ b < w.heap.size ∧ ∀ (i : Nat) (x : α) (j : Nat), l[i]? = some x → j < sz → w.cell? ⟨b, off + (i * sz + j), none⟩ = (f x)[j]?) := by
 obtain ⟨a, cap, rfl, h1, h2, h3, h4⟩ := h; refine ⟨a, cap, rfl, h1, h2, ?_⟩
 rcases h4 with h4 | ⟨b, off, rfl, hb, hc⟩
 · exact .inl h4
 · refine .inr ⟨b, off, rfl, hb, fun i x j hx hj => ?_⟩; have hi : i < l.length := (List.getElem?_eq_some_iff.1 hx).1; have : (i + 1) * sz ≤ l.length * sz := Nat.mul_le_mul_right _ hi; rw [Nat.succ_mul] at this; rw [hc _ (by omega), flatMap_at hf l i x j hx hj]
section
variable {H : Type} {enc : TypeId × Value → H} {P : Program} {w : World} {spare : Nat → Bool} {held : Bool}
end
open Go.RowKit
/-- blocks of another type than e do not turn -/
def KeepB (e : TypeId) (w w' : World) : Prop := ∀ (k : Nat) cs t fz, w.heap[k]? = some (.cells cs t fz) → t ≠ e → w'.heap[k]? = some (.cells cs t fz)
theorem KeepB.refl (e : TypeId) (w : World) : KeepB e w w := fun _ _ _ _ h _ => h
theorem KeepB.trans {e : TypeId} {w w' w'' : World} (h : KeepB e w w') (h' : KeepB e w' w'') : KeepB e w w'' := fun k cs t fz hk ht => h' k cs t fz (h k cs t fz hk ht) ht
theorem KeepB.of_below {e : TypeId} {w w' : World} (h : Below w.heap.size w w') : KeepB e w w' := fun k cs t fz hk _ => by
 rw [h.block k (Array.getElem?_eq_some_iff.1 hk).1]; exact hk
/-- a row of the call's own, each element's cells by 'f' -/
def OwnR {α : Type} (f : α → List Value) (sz B : Nat) (e : TypeId) (w : World) (v : Value) (l : List α) : Prop := OwnC B e sz w v l.length (l.flatMap f)
section
variable {α : Type} {f : α → List Value} {sz B : Nat} {e : TypeId} {w : World} {v : Value} {l : List α}
theorem OwnR.nil : OwnR f sz B e w (.slice none 0 0) ([] : List α) := OwnC.nil
theorem OwnR.keep {B' : Nat} {w' : World} (h : OwnR f sz B e w v l) (hb : Below B' w w') (hB : w.heap.size ≤ B') : OwnR f sz B e w' v l := OwnC.keep h hb hB
theorem OwnR.below {g : Nat} (h : OwnR f sz B e w v l) (hg : v.ownBlock = some g) : B ≤ g ∧ g < w.heap.size := OwnC.lt h g hg
theorem OwnR.form (h : OwnR f sz B e w v l) : ∃ a cap, v = .slice a l.length cap ∧ l.length ≤ cap ∧ cap ≤ maxLen := by
 rcases h.2 with ⟨rfl, h0⟩ | ⟨g, cap, cur, fz, rfl, _, _, _, hn, hm, _⟩
 · exact ⟨none, 0, by rw [h0], by omega, Nat.zero_le _⟩
 · exact ⟨_, cap, rfl, hn, hm⟩
/-- as a slice that is read -/
theorem OwnR.row (h : OwnR f sz B e w v l) : RowOf f sz w v l := by
 rcases h.2 with ⟨rfl, h0⟩ | ⟨g, cap, cur, fz, rfl, hB, hg, hf, hn, hm, hcs, ht⟩
 · exact ⟨none, 0, by rw [h0], by omega, Nat.zero_le _, h.1, .inl h0⟩
 · refine ⟨_, cap, rfl, hn, hm, h.1, .inr ⟨g, 0, rfl, (Array.getElem?_eq_some_iff.1 hg).1, fun i hi => ?_⟩⟩; rw [Nat.zero_add]; exact OwnC.cell h i hi
/-- the row's block stands while only another block turns -/
theorem OwnR.other {w' : World} (h : OwnR f sz B e w v l) (hb : ∀ k, v.ownBlock = some k → w'.heap[k]? = w.heap[k]?) : OwnR f sz B e w' v l := OwnC.block h hb
theorem OwnR.typed (h : OwnR f sz B e w v l) {k : Nat} (hk : v.ownBlock = some k) : ∃ cs fz, w.heap[k]? = some (.cells cs e fz) := by
 rcases h.2 with ⟨rfl, _⟩ | ⟨g, cap, cur, fz, rfl, _, hg, _⟩
 · simp [Value.ownBlock] at hk
 · simp only [Value.ownBlock, Option.some.injEq] at hk; subst hk; exact ⟨_, _, hg⟩
end
/-- only block g turns, and new blocks are laid -/
structure Else (g : Nat) (w w' : World) : Prop where
 os : w'.os = w.os
 tape : w'.tape = w.tape
 output : w'.output = w.output
 size : w.heap.size ≤ w'.heap.size
 block : ∀ k, k < w.heap.size → k ≠ g → w'.heap[k]? = w.heap[k]?
theorem Else.below {g B : Nat} {w w' : World} (h : Else g w w') (hB : B ≤ g) (hg : g < w.heap.size) : Below B w w' := ⟨h.os, h.tape, h.output, h.size, fun k hk => h.block k (by omega) (by omega)⟩
theorem Else.refl (g : Nat) (w : World) : Else g w w := ⟨rfl, rfl, rfl, Nat.le_refl _, fun _ _ _ => rfl⟩
theorem Else.of_below {g : Nat} {w w' : World} (h : Below w.heap.size w w') : Else g w w' := ⟨h.os, h.tape, h.output, h.size, fun k hk _ => h.block k hk⟩
theorem Else.trans {g : Nat} {w w' w'' : World} (h : Else g w w') (h' : Else g w' w'') : Else g w w'' :=
 ⟨h'.os.trans h.os, h'.tape.trans h.tape, h'.output.trans h.output, Nat.le_trans h.size h'.size, fun k hk hne => (h'.block k (Nat.lt_of_lt_of_le hk h.size) hne).trans (h.block k hk hne)⟩
theorem Else.setCell {g : Nat} {w w' : World} (h : Else g w w') (o : Nat) (u : Value) : Else g w (w'.setCell ⟨g, o, none⟩ u) :=
 ⟨h.os, h.tape, h.output, by have := h.size; simpa [World.setCell] using this, fun k hk hne => by rw [show (w'.setCell ⟨g, o, none⟩ u).heap[k]? = w'.heap[k]? from Below.heap_setCell _ _ _ _ (by dsimp only; omega)]; exact h.block k hk hne⟩
theorem Else.row {g : Nat} {w w' : World} (h : Else g w w') {k : Nat} {o : Obj} (hk : w.heap[k]? = some o) (hne : k ≠ g) : w'.heap[k]? = some o := by
 rw [h.block k (Array.getElem?_eq_some_iff.1 hk).1 hne]; exact hk
section
variable {α : Type} {f : α → List Value} {sz B : Nat} {e : TypeId} {w : World} {v : Value} {l : List α}
theorem OwnR.els {w' : World} {g : Nat} {cs : Array Value} {t : TypeId} {fz : Nat × Nat} (h : OwnR f sz B e w v l) (he : Else g w w') (hg : w.heap[g]? = some (.cells cs t fz)) (ht : t ≠ e) : OwnR f sz B e w' v l :=
 h.other fun k hk => by
   obtain ⟨cs', fz', h'⟩ := h.typed hk; refine he.block k (h.below hk).2 fun e' => ?_
   subst e'; rw [hg] at h'
   simp at h'
   exact ht h'.2.1
theorem OwnR.setOther {g o : Nat} {u : Value} (h : OwnR f sz B e w v l) (hg : ∀ k, v.ownBlock = some k → k ≠ g) : OwnR f sz B e (w.setCell ⟨g, o, none⟩ u) v l :=
 h.other fun k hk => Below.heap_setCell _ _ _ _ (by have := hg k hk; dsimp only; omega)
/-- a cell of an element -/
theorem OwnR.cellAt {g cap n : Nat} (hf : ∀ x, (f x).length = sz) (h : OwnR f sz B e w (.slice (some ⟨g, 0, none⟩) n cap) l) (i : Nat) (x : α) (j : Nat) (hx : l[i]? = some x) (hj : j < sz) : w.cell? ⟨g, i * sz + j, none⟩ = (f x)[j]? := by
 have hi : i < l.length := (List.getElem?_eq_some_iff.1 hx).1; have : (i + 1) * sz ≤ l.length * sz := Nat.mul_le_mul_right _ hi; rw [Nat.succ_mul] at this; obtain ⟨a, cap', hv, _⟩ := h.form; simp only [Value.slice.injEq] at hv; obtain ⟨rfl, rfl, rfl⟩ := hv; rw [OwnC.cell h _ (by omega), flatMap_at hf l i x j hx hj]
theorem OwnR.somewhere (h : OwnR f sz B e w v l) (h0 : 0 < l.length) : ∃ g cap, v = .slice (some ⟨g, 0, none⟩) l.length cap := by
 rcases h.2 with ⟨_, h'⟩ | ⟨g, cap, cur, fz, rfl, _⟩
 · omega
 · exact ⟨g, cap, rfl⟩
end
open Go.RowKit
theorem flatMap_lenA {α : Type} {f : α → List Value} {sz : Nat} (hf : ∀ y, (f y).length = sz) : ∀ l : List α, (l.flatMap f).length = l.length * sz
 | [] => by simp
 | a :: l => by rw [List.flatMap_cons, List.length_append, hf, flatMap_lenA hf l, List.length_cons, Nat.succ_mul]; omega
theorem app_rowW {α : Type} {f : α → List Value} {sz B : Nat} {e : TypeId} {P : Program} {w : World} {v : Value} {l0 l1 : List α} {o : Oper} {a : Act} {K : Act → World → Prop} {Q : Exit → Act → World → Prop} {t : TypeId} {z : Value} (bytes : Nat)
   (hf : ∀ y, (f y).length = sz) (ho : ∀ y, y ∈ l1 → ∀ u ∈ f y, u.oneCell' = true) (h1 : P.underlying t = some (.slice e)) (h2 : (P.info? e).map (fun i => (i.zero, i.size, i.bytes)) = some (some z, sz, bytes)) (hzs : z.cells.size = sz)
   (s x' : Operand) (hop : o.op = Op.call { callee := Callee.builtin Builtin.append, args := #[s, x'], argTypes := #[t, t] }) (hs : a.eval s = v) (hx : RowOf f sz w (a.eval x') l1)
   (hown : OwnR f sz B e w v l0) (hB : B ≤ w.heap.size) (hbig : (l0.length + l1.length) * bytes ≤ 140737488355328) (h63 : l0.length + l1.length ≤ maxLen)
   (hK : ∀ v' w', OwnR f sz B e w' v' (l0 ++ l1) → w.grownBy w' v.ownBlock → K (a.put o.dst v') w') : o.wp P a w K Q := by
 obtain ⟨i, hi, hz0, hz1, hz2⟩ := info_parts h2; have hfl := flatMap_lenA hf l1; obtain ⟨ad, cap, hxe, _, _, _, hc⟩ := hx; have hlen : (Builtin.lenOf (a.eval x')).run P w = .ok l1.length w := by rw [hxe]; exact lenOf_slice
 have hfc : ∀ k : Nat, (Builtin.firstCells sz l1.length (a.eval x')).run P (w.drewN k) = .ok (l1.flatMap f).toArray (w.drewN k) := fun k => by
   rw [hxe]
   rcases hc with h0 | ⟨b, off, rfl, _, hc⟩
   · have : l1 = [] := List.eq_nil_of_length_eq_zero h0; subst this
     cases ad with
     | none => exact firstCells_none k
     | some ad => exact firstCells_at (news := []) (by simp) (fun j u hj => by simp at hj) k
   · refine firstCells_at hfl (fun j u hj => ?_) k; have hj' : j < (l1.flatMap f).length := (List.getElem?_eq_some_iff.1 hj).1; rw [Addr.add_lit, hc j (by omega)]; exact hj
 have h1c : ∀ u ∈ l1.flatMap f, u.oneCell' = true := fun u hu => by
   obtain ⟨y, hm, hy⟩ := List.mem_flatMap.1 hu; exact ho y hm u hy
 obtain ⟨v', w', hrun, r1, r2⟩ := run_append_C (P := P) w B t t o.type e i z sz bytes h1 (.inl h1) hi hz0 hz1 hz2 hzs v l0.length (l0.flatMap f) hown (a.eval x') l1.length (l1.flatMap f) hlen hfc hfl h1c hbig h63 hB; unfold Oper.wp
 simp [execOp, hop, resolve, invoke, builtin, hs, hrun, Result.andThen]
 refine hK _ _ ?_ r2; unfold OwnR; rw [List.length_append, List.flatMap_append]; exact r1
theorem grown_obj {w w' : World} {r : Option Nat} (h : w.grownBy w' r) {g : Nat} {o : Obj} (hg : w.heap[g]? = some o) (hne : r ≠ some g) : w'.heap[g]? = some o := by
 rw [h.block g (Array.getElem?_eq_some_iff.1 hg).1 hne.symm]; exact hg
open Go.RowKit
/-- append to a row of the call's own: whatever is appended, so its cells are read -/
theorem run_append_D {P : Program} (w : World) (B : Nat) (t u ty e : TypeId) (i : TypeInfo) (z : Value) (sz bytes : Nat) (ht : P.underlying t = some (.slice e)) (hu : P.underlying u = some (.slice e) ∨ P.underlying u = some .string) (hi : P.info? e = some i) (hz : i.zero = some z) (hsize : i.size = sz) (hby : i.bytes = bytes) (hzs : z.cells.size = sz)
   (v : Value) (n : Nat) (xs : List Value) (hown : OwnC B e sz w v n xs) (x : Value) (m : Nat) (news : List Value)
   (hlen : (Builtin.lenOf x).run P w = .ok m w) (hfc : ∀ k : Nat, (Builtin.firstCells sz m x).run P (w.drewN k) = .ok news.toArray (w.drewN k)) (hnl : news.length = m * sz) (h1 : ∀ u ∈ news, u.oneCell' = true)
   (hbig : (n + m) * bytes ≤ 140737488355328) (h63 : n + m ≤ maxLen) (hB : B ≤ w.heap.size) :
   ∃ v' w', (Builtin.append_ #[t, u] ty #[v, x]).run P w = .ok v' w' ∧ OwnC B e sz w' v' (n + m) (xs ++ news) ∧ w.grownBy w' v.ownBlock ∧ (v'.ownBlock = v.ownBlock ∨ ∃ g, v'.ownBlock = some g ∧ w.heap.size ≤ g) := by
 subst hsize hby; have h63' : ¬ (9223372036854775807 < (n : Int) + (m : Int)) := by have := h63; simp only [maxLen] at this; omega
 have hxl : xs.length = n * i.size := hown.1; have hlen' : (xs ++ news).length = (n + m) * i.size := by rw [List.length_append, hxl, hnl, Nat.add_mul]
 have hf0 : (Builtin.firstCells i.size m x).run P w = .ok news.toArray w := hfc 0; have hf1 : (Builtin.firstCells i.size m x).run P w.drew = .ok news.toArray w.drew := hfc 1
 -- what a new row owns
 have fresh : ∀ old : Nat, old < n + m → ∀ row : Option Nat,
     OwnC B e i.size (w.drew.alloc (.cells (xs.toArray ++ news.toArray ++ Builtin.zeroCells z.cells (grownCap w (n + m) old e - (n + m))) e)) (.slice (some ⟨w.heap.size, 0, none⟩) (n + m) (grownCap w (n + m) old e)) (n + m) (xs ++ news) ∧
     w.grownBy (w.drew.alloc (.cells (xs.toArray ++ news.toArray ++ Builtin.zeroCells z.cells (grownCap w (n + m) old e - (n + m))) e)) row := by
   intro old ho row; have hge := grownCap_ge w (n + m) old e; have hcm := grownCap_le_maxLen w (n + m) old e h63; have hl2 := hlen'; rw [List.length_append] at hl2; refine ⟨⟨hlen', .inr ⟨w.heap.size, _, _, (0, 0), rfl, hB, Go.heap_alloc_new w.drew _, fun j _ h => by simp at h, hge, hcm, ?_, ?_⟩⟩, ⟨rfl, rfl, rfl, by simp, fun k hk _ => Go.heap_alloc_old w.drew _ hk⟩⟩
   · simp only [Array.size_append, List.size_toArray, size_zeroCells, hzs]; rw [hl2, ← Nat.add_mul, Nat.add_sub_of_le hge]
   · simp only [Array.toList_append]; rw [← hlen']; exact List.take_left
 rcases hown.2 with ⟨rfl, rfl⟩ | ⟨g, cap, cur, fz, rfl, hbg, hg, hf, hnc, hcm, hcs, htake⟩
 · have hx : xs = [] := List.eq_nil_of_length_eq_zero (by simpa using hxl); subst hx
   by_cases hm : m = 0
   · subst hm; have hn : news = [] := List.eq_nil_of_length_eq_zero (by simpa using hnl); subst hn; refine ⟨.slice none 0 0, w, ?_, by simpa using OwnC.nil, ⟨rfl, rfl, rfl, Nat.le_refl _, fun _ _ _ => rfl⟩, .inl rfl⟩
     rcases hu with hu | hu <;> simp [Builtin.append_, run_underlying ht, run_underlying hu, sizeOf, typeInfo, hi, hlen, hf0]
   · obtain ⟨r1, r2⟩ := fresh 0 (by omega) (Value.slice none 0 0).ownBlock; refine ⟨_, _, ?_, r1, r2, .inr ⟨_, rfl, Nat.le_refl _⟩⟩; have h48 : ¬ (281474976710656 < Builtin.nextslicecap m 0 * i.bytes) := by
       have := growslice_fits (need := m) (old := 0) (bytes := i.bytes) (by omega) (by simpa using hbig); omega
     have h63'' : ¬ (9223372036854775807 < (m : Int)) := by simpa using h63'
     have hfo : (Builtin.firstCells i.size 0 (.slice none 0 0)).run P w.drew = .ok #[] w.drew := by simp [Builtin.firstCells]
     rcases hu with hu | hu <;> simp [Builtin.append_, run_underlying ht, run_underlying hu, sizeOf, typeInfo, zeroValue, hi, hz, hlen, hm, h63'', h48, Question.forced, hf1, hfo, newRow, grownCap]
 · by_cases hroom : n + m ≤ cap
   · have hfit : n * i.size + 0 + news.length ≤ cur.size := by rw [hnl, hcs, Nat.add_zero, ← Nat.add_mul]; exact Nat.mul_le_mul_right _ hroom
     obtain ⟨cur', hr, hs, hc⟩ := storeCells_row P g (n * i.size) e fz news 0 cur w hg hf hfit h1; refine ⟨.slice (some ⟨g, 0, none⟩) (n + m) cap, w.setRow g cur', ?_, ⟨hlen', .inr ⟨g, cap, cur', fz, rfl, hbg, setRow_heap w g cur _ e fz hg, by rw [hs]; exact hf, hroom, hcm, by rw [hs, hcs], ?_⟩⟩, ⟨rfl, rfl, rfl, by simp, fun k _ hk => setRow_other w g k _ (fun e => hk (by simp [Value.ownBlock, e]))⟩, .inl rfl⟩
     · have hadd : (⟨g, 0, none⟩ : Addr).add (n * i.size) = ⟨g, n * i.size, none⟩ := by rw [Addr.add_lit, Nat.zero_add]
       rcases hu with hu | hu <;> simp [Builtin.append_, run_underlying ht, run_underlying hu, sizeOf, typeInfo, hi, hlen, hroom, hf0, hadd, hr]
     · apply List.ext_getElem?; intro j; rw [List.getElem?_take, Array.getElem?_toList, hc j]
       by_cases hj : j < n * i.size
       · rw [if_pos (by rw [Nat.add_mul]; omega), if_neg (by omega), List.getElem?_append_left (by omega), ← htake, List.getElem?_take, if_pos hj]
         simp
       · by_cases hj2 : j < (n + m) * i.size
         · have hj3 := hj2; rw [Nat.add_mul] at hj3; rw [if_pos hj2, if_pos (by omega), List.getElem?_append_right (by omega), hxl, Nat.add_zero]
         · rw [if_neg hj2, List.getElem?_eq_none (by rw [hlen']; omega)]
   · obtain ⟨r1, r2⟩ := fresh cap (by omega) (Value.slice (some ⟨g, 0, none⟩) n cap).ownBlock; refine ⟨_, _, ?_, r1, r2, .inr ⟨_, rfl, Nat.le_refl _⟩⟩; have h48 : ¬ (281474976710656 < Builtin.nextslicecap (n + m) cap * i.bytes) := by
       have := growslice_fits (need := n + m) (old := cap) (bytes := i.bytes) (by omega) hbig; omega
     have hfo := run_firstCells_some (P := P) w.drew i.size n ⟨g, 0, none⟩ n cap xs hxl (fun j u hj => by
       have hj' : j < n * i.size := by rw [← hxl]; exact (List.getElem?_eq_some_iff.1 hj).1
       rw [Addr.add_lit, Nat.zero_add]
       exact (OwnC.cell hown j hj').trans hj)
     rcases hu with hu | hu <;> simp [Builtin.append_, run_underlying ht, run_underlying hu, sizeOf, typeInfo, zeroValue, hi, hz, hlen, hroom, h63', h48, Question.forced, hf1, hfo, newRow, grownCap]
     all_goals
       congr 2
       apply Array.ext'
       simp

/-- 'append(l, x)', the block of x just laid; another row of the call's own stands -/
theorem app_two {α : Type} {f : α → List Value} {sz B : Nat} {e : TypeId} {w : World} {v : Value} {l : List α} {P : Program} {ops : Array Oper} {rest : List Oper} {o : Oper} {a : Act} {Q : Exit → Act → World → Prop} {t : TypeId} {z : Value} {cs : Array Value} (bytes : Nat) (h : Nat) (hh : h = w.heap.size) (x : α) (hf : ∀ y, (f y).length = sz) (ho : ∀ u ∈ f x, u.oneCell' = true)
   (h1 : P.underlying t = some (.slice e)) (h2 : (P.info? e).map (fun i => (i.zero, i.size, i.bytes)) = some (some z, sz, bytes)) (hzs : z.cells.size = sz)
   (hg : o.guard = none) (s x' : Operand) (hop : o.op = Op.call { callee := Callee.builtin Builtin.append, args := #[s, x'], argTypes := #[t, t] })
   (hs : a.eval s = v) (hx : a.eval x' = .slice (some ⟨h, 0, none⟩) 1 1) (hcs : cs = (f x).toArray)
   (hown : OwnR f sz B e w v l) (hB : B ≤ w.heap.size) (hbig : (l.length + 1) * bytes ≤ 140737488355328) (hlen : l.length + 1 ≤ maxLen)
   (hK : ∀ v' w', OwnR f sz B e w' v' (l ++ [x]) → (w.alloc (.cells cs e)).grownBy w' v.ownBlock → (v'.ownBlock = v.ownBlock ∨ ∃ g, v'.ownBlock = some g ∧ w.heap.size ≤ g) → wpList P ops Q rest (a.put o.dst v') w') :
   wpList P ops Q (o :: rest) a (w.alloc (.cells cs e)) := by
 subst hcs hh; obtain ⟨i, hi, hz0, hz1, hz2⟩ := info_parts h2; refine wpList_plain hg fun K hK' => ?_
 have hfc := fun k => firstCells_at (P := P) (w := w.alloc (.cells (f x).toArray e)) (ad := ⟨w.heap.size, 0, none⟩) (m := 1) (c := 1) (news := f x) (by rw [hf, Nat.one_mul]) (fun j u hj => by
     rw [Addr.add_lit, Nat.zero_add, cell_of_row _ w.heap.size j _ e (0, 0) (Go.heap_alloc_new w _)]
     simpa using hj) k
 obtain ⟨v', w', hrun, r1, r2, r3⟩ := run_append_D (P := P) (w.alloc (.cells (f x).toArray e)) B t t o.type e i z sz bytes h1 (.inl h1) hi hz0 hz1 hz2 hzs v l.length (l.flatMap f) (OwnC.alloc hown _) (a.eval x') 1 (f x)
   (by rw [hx]; exact lenOf_slice) (fun k => by rw [hx]; exact hfc k) (by rw [hf, Nat.one_mul]) ho hbig hlen (by simp; omega)
 unfold Oper.wp
 simp [execOp, hop, resolve, invoke, builtin, hs, hrun, Result.andThen]
 refine hK' _ _ (hK v' w' ?_ r2 ?_)
 · unfold OwnR; simpa [List.flatMap_append] using r1
 · rcases r3 with r3 | ⟨g, r3, r4⟩
   · exact .inl r3
   · exact .inr ⟨g, r3, by simp at r4; omega⟩
theorem OwnR.grow {α : Type} {f : α → List Value} {sz B : Nat} {e : TypeId} {w w' : World} {v : Value} {l : List α} {r : Option Nat} (h : OwnR f sz B e w v l) (hg : w.grownBy w' r) (hne : v.ownBlock = none ∨ v.ownBlock ≠ r) : OwnR f sz B e w' v l := OwnC.grown h hg hne
end Go.Proofs.YtonkenlkigfeoaaDoor
