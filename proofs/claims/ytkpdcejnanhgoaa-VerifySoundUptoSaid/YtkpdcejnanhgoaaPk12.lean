/- The checker's memory: states of registers' ranges in a row, arrays of ranges. No conditions. -/
import Derived.Test.YtkpdcejnanhgoaaPk08
import Derived.Test.YtkpdcejnanhgoaaPk07
import Derived.Test.YtkpdcejnanhgoaaPk04
import Derived.Test.YtkpdcejnanhgoaaPk03
import Derived.ChangeKeysEq
import Derived.Laws.StructEq
import Derived.Deep.WholeRow
import Derived.Deep.MidRow
import Derived.Deep.Cut
import Derived.Deep.CutRange
import Derived.Deep.LoopGhost
namespace Go.Proofs.Ytkpdcejnanhgoaa
open Go.RowKit
/-- registers' ranges, cell by cell -/
def rgC (r : Rg) : List Value := r.flatMap spC
theorem rgC_len {r : Rg} (h : r.length = 8) : (rgC r).length = 16 := by
  have : ∀ l : Rg, (rgC l).length = l.length * 2 := fun l => by
    induction l with
    | nil => rfl
    | cons a l ih => unfold rgC at *; rw [List.flatMap_cons, List.length_append, ih, List.length_cons, Nat.succ_mul, spC_len]; omega
  rw [this, h]
theorem rgC_at {r : Rg} (h : r.length = 8) {k : Nat} (hk : k < 8) : (rgC r)[k * 2]? = some (.int .i64 (rget r k).1) ∧ (rgC r)[k * 2 + 1]? = some (.int .i64 (rget r k).2) := by
  have hx : r[k]? = some (rget r k) := by unfold rget; rw [List.getD_eq_getElem?_getD, List.getElem?_eq_getElem (by omega)]; rfl
  exact ⟨by have := flatMap_at spC_len r k _ 0 hx (by decide); simpa [rgC, spC] using this, by have := flatMap_at spC_len r k _ 1 hx (by decide); simpa [rgC, spC] using this⟩
theorem rgC_one (r : Rg) : ∀ v ∈ rgC r, v.oneCell' = true := fun v hv => by
  unfold rgC at hv
  obtain ⟨p, _, h⟩ := List.mem_flatMap.1 hv
  simp only [spC, List.mem_cons, List.not_mem_nil, or_false] at h
  rcases h with rfl | rfl <;> rfl
theorem rgC_set {r : Rg} (h : r.length = 8) (k : Nat) (v : Int × Int) : ((rgC r).set (k * 2) (.int .i64 v.1)).set (k * 2 + 1) (.int .i64 v.2) = rgC (r.set k v) := by
  apply List.ext_getElem?
  intro i
  have hl : (rgC r).length = 16 := rgC_len h
  have hl' : (rgC (r.set k v)).length = 16 := rgC_len (by simp [h])
  rcases Nat.lt_or_ge i 16 with hi | hi
  rotate_left
  · rw [List.getElem?_eq_none (by simp [hl]; exact hi), List.getElem?_eq_none (by rw [hl']; exact hi)]
  obtain ⟨j, hj⟩ : ∃ j, i = j * 2 ∨ i = j * 2 + 1 := ⟨i / 2, by omega⟩
  have hj8 : j < 8 := by omega
  have a := rgC_at h hj8
  have b := rgC_at (r := r.set k v) (by simp [h]) hj8
  rw [rget_set r h k v j hj8] at b
  rw [List.getElem?_set, List.getElem?_set]
  rcases hj with rfl | rfl
  · rw [if_neg (by omega)]
    by_cases e : k = j
    · subst e; rw [if_pos rfl, if_pos (by rw [hl]; omega), b.1, if_pos rfl]
    · rw [if_neg (by omega), a.1, b.1, if_neg e]
  · by_cases e : k = j
    · subst e; rw [if_pos rfl, if_pos (by rw [List.length_set, hl]; omega), b.2, if_pos rfl]
    · rw [if_neg (by omega), if_neg (by omega), a.2, b.2, if_neg e]
abbrev rgV (r : Rg) : Value := .agg (rgC r).toArray
theorem info_vrg : (Try.prog.info? 79).map (fun i => i.size) = some 16 := by kernel_rfl
theorem info_vsp : (Try.prog.info? 77).map (fun i => i.size) = some 2 := by kernel_rfl
theorem cells_vsp : Try.prog.cellsOf 77 = 2 := by kernel_rfl
/-- a range out of an array of ranges -/
theorem part_sp {xs : Array Value} {o : Nat} {a b : Int} (w : World) (h0 : xs[o]? = some (.int .i64 a)) (h1 : xs[o + 1]? = some (.int .i64 b)) : (part 77 xs o).run Try.prog w = .ok (.agg #[.int .i64 a, .int .i64 b]) w := by
  have hagg : (isAgg 77).run Try.prog w = .ok true w := by
    unfold isAgg
    rw [Sem.run_bind, run_underlying Try.underlying77 w]; rfl
  obtain ⟨i, hi, _⟩ := Option.map_eq_some_iff.1 info_vsp
  have hsz : (sizeOf 77).run Try.prog w = .ok 2 w := by rw [run_sizeOf w hi, cells_vsp]
  unfold part
  simp only [Sem.run_bind, hagg, Result.andThen_ok, if_true, hsz, Sem.run_pure]
  have e : xs.extract o (o + 2) = #[.int .i64 a, .int .i64 b] := by
    obtain ⟨l0, e0⟩ := Array.getElem?_eq_some_iff.1 h0
    obtain ⟨l1, e1⟩ := Array.getElem?_eq_some_iff.1 h1
    apply Array.ext
    · simp; omega
    · intro k hk1 hk2
      have hk : k < 2 := by simpa using hk2
      rw [Array.getElem_extract]
      rcases (by omega : k = 0 ∨ k = 1) with rfl | rfl
      · simpa using e0
      · simpa using e1
  rw [e]
theorem eq_sp (a b c d : Int) (n : Nat) (w : World) : (Op.equalIn (n + 2) 77 (.agg #[.int .i64 a, .int .i64 b]) (.agg #[.int .i64 c, .int .i64 d])).run Try.prog w = .ok (a == c && b == d) w := by
  go_simp
  by_cases h1 : a = c
  · by_cases h2 : b = d
    · simp [h1, h2]
    · simp [h1, h2]
  · simp [h1]
theorem eq_items {xs ys : Array Value} {r q : Rg} (w : World) (n : Nat) (hr : r.length = 8) (hq : q.length = 8) (hx : xs = (rgC r).toArray) (hy : ys = (rgC q).toArray) : ∀ is : List Nat, (∀ i ∈ is, i < 8) →
    (Op.eqItems (n + 2) 77 2 xs ys is).run Try.prog w = .ok (is.all fun i => (rget r i).1 == (rget q i).1 && (rget r i).2 == (rget q i).2) w := by
  intro is
  induction is with
  | nil => intro _; simp [Op.eqItems]
  | cons i is ih =>
    intro hi
    have h8 := hi i (by simp)
    have a := rgC_at hr h8
    have b := rgC_at hq h8
    have h1 := part_sp (xs := xs) (o := i * 2) w (by rw [hx]; simpa using a.1) (by rw [hx]; simpa using a.2)
    have h2 := part_sp (xs := ys) (o := i * 2) w (by rw [hy]; simpa using b.1) (by rw [hy]; simpa using b.2)
    have h3 := eq_sp (rget r i).1 (rget r i).2 (rget q i).1 (rget q i).2 n w
    have h4 := ih fun j hj => hi j (by simp [hj])
    simp only [Op.eqItems, Sem.run_bind, h1, h2, h3, Result.andThen_ok]
    cases h : ((rget r i).1 == (rget q i).1 && (rget r i).2 == (rget q i).2) <;> simp [h, h4]
theorem rg_all {r q : Rg} (hr : r.length = 8) (hq : q.length = 8) : ((List.range 8).all fun i => (rget r i).1 == (rget q i).1 && (rget r i).2 == (rget q i).2) = decide (r = q) := by
  rw [Bool.eq_iff_iff]
  simp only [List.all_eq_true, List.mem_range, Bool.and_eq_true, beq_iff_eq, decide_eq_true_eq]
  constructor
  · intro h
    apply List.ext_getElem (by rw [hr, hq])
    intro i h1 h2
    have e1 : rget r i = r[i] := by simp [rget, List.getD, List.getElem?_eq_getElem h1]
    have e2 : rget q i = q[i] := by simp [rget, List.getD, List.getElem?_eq_getElem h2]
    rw [← e1, ← e2]
    have := h i (by omega)
    exact Prod.ext this.1 this.2
  · rintro rfl i _; exact ⟨rfl, rfl⟩
theorem index_rg {r : Rg} (hr : r.length = 8) {k : Nat} (hk : k < 8) (w : World) : (Instr.index 79 (rgV r) (.int .i64 (k : Int))).run Try.prog w = .ok (.agg #[.int .i64 (rget r k).1, .int .i64 (rget r k).2]) w := by
  obtain ⟨i, hi, _⟩ := Option.map_eq_some_iff.1 info_vsp
  have hsz : (sizeOf 77).run Try.prog w = .ok 2 w := by rw [run_sizeOf w hi, cells_vsp]
  have a := rgC_at hr hk
  have hp := part_sp (xs := (rgC r).toArray) (o := k * 2) w (by simpa using a.1) (by simpa using a.2)
  have h0 : (0 : Int) ≤ (k : Int) ∧ (k : Int) < ((8 : Nat) : Int) := by omega
  unfold Instr.index
  simp only [asIntOf, Sem.run_bind, Sem.run_pure, Result.andThen_ok, run_underlying Try.underlying79 w]
  rw [if_pos h0]
  simp only [Sem.run_bind, hsz, Result.andThen_ok, Int.toNat_natCast, hp]
/-! ### a variable that holds an array of ranges -/
def RgBox (w : World) (g : Nat) (r : Rg) : Prop := w.heap[g]? = some (.cells (rgC r).toArray 79 (0, 0))
theorem RgBox.lt {w : World} {g : Nat} {r : Rg} (h : RgBox w g r) : g < w.heap.size := (Array.getElem?_eq_some_iff.1 h).1
theorem RgBox.keep {w w' : World} {g : Nat} {r : Rg} (h : RgBox w g r) (hb : Below w.heap.size w w') : RgBox w' g r := by
  unfold RgBox; rw [hb.block g h.lt]; exact h
theorem RgBox.keepB {w w' : World} {B g : Nat} {r : Rg} (h : RgBox w g r) (hb : Below B w w') (hg : g < B) : RgBox w' g r := by
  unfold RgBox; rw [hb.block g hg]; exact h
theorem RgBox.new (w : World) (r : Rg) : RgBox (w.alloc (.cells (rgC r).toArray 79)) w.heap.size r := Go.heap_alloc_new _ _
theorem RgBox.oth {w : World} {g g' k : Nat} {r : Rg} {x : Value} (h : RgBox w g r) (hg : g ≠ g') : RgBox (w.setCell ⟨g', k, none⟩ x) g r := by
  unfold RgBox at h ⊢
  rw [heap_setCell_other _ _ _ _ (by exact hg)]; exact h
theorem RgBox.free {w : World} {g : Nat} {r : Rg} (h : RgBox w g r) (k : Nat) : w.frozen? ⟨g, k, none⟩ = false := frozen_of_row _ _ _ _ _ h
theorem RgBox.two {w : World} {g : Nat} {r : Rg} (h : RgBox w g r) (h8 : r.length = 8) {k : Nat} (hk : k < 8) : w.cell? ⟨g, k * 2, none⟩ = some (.int .i64 (rget r k).1) ∧ w.cell? ⟨g, k * 2 + 1, none⟩ = some (.int .i64 (rget r k).2) := by
  have a := rgC_at h8 hk
  exact ⟨by rw [cell_of_row w g _ _ _ _ h]; simpa using a.1, by rw [cell_of_row w g _ _ _ _ h]; simpa using a.2⟩
/-- a range stored into it -/
theorem RgBox.put {w : World} {g : Nat} {r : Rg} (h : RgBox w g r) (h8 : r.length = 8) (k : Nat) (v : Int × Int) : RgBox ((w.setCell ⟨g, k * 2, none⟩ (.int .i64 v.1)).setCell ⟨g, k * 2 + 1, none⟩ (.int .i64 v.2)) g (r.set k v) := by
  unfold RgBox at h ⊢
  have e1 : (w.setCell ⟨g, k * 2, none⟩ (.int .i64 v.1)).heap[g]? = some (.cells ((rgC r).toArray.setIfInBounds (k * 2) (.int .i64 v.1)) 79 (0, 0)) := by
    rw [setCell_eq_setRow w g (k * 2) _ _ _ _ h, setRow_heap _ _ _ _ _ _ h]
  rw [setCell_eq_setRow _ g (k * 2 + 1) _ _ _ _ e1, setRow_heap _ _ _ _ _ _ e1, ← rgC_set h8 k v]
  simp
theorem load_rg {o : Oper} {a : Act} {w : World} {K : Act → World → Prop} {Q : Exit → Act → World → Prop} {g : Nat} {r : Rg} (hs : RgBox w g r) (h8 : r.length = 8) (x : Operand) (ho : o.op = .load 79 x)
    (hx : a.eval x = .pointer (some ⟨g, 0, none⟩)) (h : K (a.put o.dst (rgV r)) w) : o.wp Try.prog a w K Q :=
  wp_load_row _ x ho g hx 79 (rgC r).toArray (0, 0) _ hs Try.underlying79 rfl (by rw [info_vrg]; simp [rgC_len h8]) h
end Go.Proofs.Ytkpdcejnanhgoaa
/- The checker as it lies in memory: its program, its states, the places to look at. No conditions. -/
namespace Go.Proofs.Ytkpdcejnanhgoaa
open Go.RowKit
/-- a state's cells behind its first one -/
def stR (o : Option Rg) : Rg := o.getD iniR
/-- the states in a row -/
structure StsP (w : World) (b : Nat) (S : Sts) : Prop where
  blk : ∃ cs, w.heap[b]? = some (.cells cs 82 (0, 0)) ∧ cs.size = S.length * 17
  one : ∀ i, i < S.length → w.cell? ⟨b, i * 17, none⟩ = some (.bool (S.getD i none).isSome)
  regs : ∀ i, i < S.length → w.rangeAt b (i * 17 + 1) (rgC (stR (S.getD i none)))
  len : ∀ (i : Nat) r, S.getD i none = some r → r.length = 8
theorem StsP.len8 {w : World} {b : Nat} {S : Sts} (h : StsP w b S) (i : Nat) : (stR (S.getD i none)).length = 8 := by
  cases e : S.getD i none with
  | none => rfl
  | some r => exact h.len i r e
theorem len_set {S : Sts} (h : ∀ (i : Nat) r, S.getD i none = some r → r.length = 8) {i : Nat} (hi : i < S.length) {q : Rg} (hq : q.length = 8) : ∀ (j : Nat) r, (S.set i (some q)).getD j none = some r → r.length = 8 := fun j r hr => by
  rw [getD_set S i j _ hi] at hr
  split at hr
  · cases hr; exact hq
  · exact h j r hr
theorem StsP.lt {w : World} {b : Nat} {S : Sts} (h : StsP w b S) : b < w.heap.size := by
  obtain ⟨cs, h1, _⟩ := h.blk
  exact (Array.getElem?_eq_some_iff.1 h1).1
theorem StsP.free {w : World} {b : Nat} {S : Sts} (h : StsP w b S) (k : Nat) : w.frozen? ⟨b, k, none⟩ = false := by
  obtain ⟨cs, h1, _⟩ := h.blk
  exact frozen_of_row _ _ _ _ _ h1
theorem StsP.isThere {w : World} {b : Nat} {S : Sts} (h : StsP w b S) {i k : Nat} (hi : i < S.length) (hk : k < 17) : (w.cell? ⟨b, i * 17 + k, none⟩).isSome = true := by
  obtain ⟨cs, h1, h2⟩ := h.blk
  rw [cell_of_row w b _ _ _ _ h1]
  have : (i + 1) * 17 ≤ S.length * 17 := Nat.mul_le_mul_right _ hi
  rw [Array.getElem?_eq_getElem (by rw [h2]; omega)]; rfl
theorem StsP.there {w : World} {b : Nat} {S : Sts} (h : StsP w b S) {i : Nat} (hi : i < S.length) : w.there b (i * 17 + 1) 16 := fun j hj =>
  ⟨by rw [Nat.add_assoc]; exact h.isThere hi (by omega), h.free _⟩
/-- what the row's block holds -/
theorem StsP.of_heap {w w' : World} {b : Nat} {S : Sts} (h : StsP w b S) (hb : w'.heap[b]? = w.heap[b]?) : StsP w' b S := by
  have hc : ∀ k, w'.cell? ⟨b, k, none⟩ = w.cell? ⟨b, k, none⟩ := fun k => World.cell?_of_block (w := w) hb
  refine ⟨by rw [hb]; exact h.blk, fun i hi => by rw [hc]; exact h.one i hi, fun i hi j v hv => by rw [hc]; exact h.regs i hi j v hv, h.len⟩
theorem StsP.keepB {w w' : World} {B b : Nat} {S : Sts} (h : StsP w b S) (hb : Below B w w') (hB : b < B) : StsP w' b S := h.of_heap (hb.block b hB)
theorem StsP.keep {w w' : World} {b : Nat} {S : Sts} (h : StsP w b S) (hb : Below w.heap.size w w') : StsP w' b S := h.keepB hb h.lt
/-- cells stored into one block -/
theorem heap_setCells_other (b : Nat) : ∀ (vs : List Value) (o : Nat) (w : World) (k : Nat), k ≠ b → (w.setCells b o vs).heap[k]? = w.heap[k]?
  | [], _, _, _, _ => rfl
  | v :: r, o, w, k, h => by rw [World.setCells, heap_setCells_other b r (o + 1) _ k h, heap_setCell_other _ _ _ _ (by exact h)]
theorem heap_setCells_same {b : Nat} {t : TypeId} : ∀ (vs : List Value) (o : Nat) (w : World) (cs : Array Value), w.heap[b]? = some (.cells cs t (0, 0)) → ∃ cs', (w.setCells b o vs).heap[b]? = some (.cells cs' t (0, 0)) ∧ cs'.size = cs.size
  | [], _, _, cs, h => ⟨cs, h, rfl⟩
  | v :: r, o, w, cs, h => by
    have h1 : (w.setCell ⟨b, o, none⟩ v).heap[b]? = some (.cells (cs.setIfInBounds o v) t (0, 0)) := by rw [setCell_eq_setRow w b o _ _ _ _ h, setRow_heap _ _ _ _ _ _ h]
    obtain ⟨cs', h2, h3⟩ := heap_setCells_same r (o + 1) _ _ h1
    exact ⟨cs', h2, by rw [h3]; simp⟩
theorem Below.setCells {B b : Nat} : ∀ (vs : List Value) (o : Nat) {a w : World}, Below B a w → B ≤ b → Below B a (w.setCells b o vs)
  | [], _, _, _, h, _ => h
  | v :: r, o, _, _, h, hb => by rw [World.setCells]; exact Below.setCells r (o + 1) (h.setCell (by exact hb) v) hb
theorem size_setCells (b : Nat) : ∀ (vs : List Value) (o : Nat) (w : World), (w.setCells b o vs).heap.size = w.heap.size
  | [], _, _ => rfl
  | v :: r, o, w => by rw [World.setCells, size_setCells b r]; simp [World.setCell]
/-- a state's ranges stored -/
theorem StsP.regsPut {w : World} {b : Nat} {S : Sts} (h : StsP w b S) {i : Nat} (hi : i < S.length) (hs : (S.getD i none).isSome = true) {r : Rg} (h8 : r.length = 8) : StsP (w.setCells b (i * 17 + 1) (rgC r)) b (S.set i (some r)) := by
  obtain ⟨cs, h1, h2⟩ := h.blk
  have hl := rgC_len h8
  obtain ⟨cs', g1, g2⟩ := heap_setCells_same (rgC r) (i * 17 + 1) w cs h1
  refine ⟨⟨cs', g1, by rw [g2, h2, List.length_set]⟩, fun j hj => ?_, fun j hj => ?_, len_set h.len hi h8⟩
  · rw [List.length_set] at hj
    rw [World.cell?_setCells_out b _ _ _ _ (fun _ _ => by dsimp only; omega), h.one j hj, getD_set S i j _ hi]
    split
    · rename_i e; subst e; rw [hs]; rfl
    · rfl
  · rw [List.length_set] at hj
    rw [getD_set S i j _ hi]
    by_cases e : i = j
    · subst e
      rw [if_pos rfl]
      intro k v hv
      have hk : k < (rgC r).length := (List.getElem?_eq_some_iff.1 hv).1
      rw [World.cell?_setCells_in b _ _ _ (fun m hm => by rw [Nat.add_assoc]; exact h.isThere hi (by omega)) k hk]
      rw [← hv]; simp [stR, List.getElem?_eq_getElem hk]
    · rw [if_neg e]
      intro k v hv
      have hk : k < 16 := by rw [← rgC_len (h.len8 j)]; exact (List.getElem?_eq_some_iff.1 hv).1
      rw [World.cell?_setCells_out b _ _ _ _ (fun _ _ => by dsimp only; omega)]
      exact h.regs j hj k v hv
/-- a state reached for the first time: its first cell, then its ranges -/
theorem StsP.reach {w : World} {b : Nat} {S : Sts} (h : StsP w b S) {i : Nat} (hi : i < S.length) (hz : S.getD i none = none) {r : Rg} (h8 : r.length = 8) : StsP ((w.setCell ⟨b, i * 17, none⟩ (.bool true)).setCells b (i * 17 + 1) (rgC r)) b (S.set i (some r)) := by
  obtain ⟨cs, h1, h2⟩ := h.blk
  have e1 : (w.setCell ⟨b, i * 17, none⟩ (.bool true)).heap[b]? = some (.cells (cs.setIfInBounds (i * 17) (.bool true)) 82 (0, 0)) := by
    rw [setCell_eq_setRow w b (i * 17) _ _ _ _ h1, setRow_heap _ _ _ _ _ _ h1]
  have hc : ∀ k, k ≠ i * 17 → (w.setCell ⟨b, i * 17, none⟩ (.bool true)).cell? ⟨b, k, none⟩ = w.cell? ⟨b, k, none⟩ := fun k hk => World.cell?_setCell_other _ _ _ _ (fun e => hk (by injection e with _ e; exact e.symm))
  have hm : StsP (w.setCell ⟨b, i * 17, none⟩ (.bool true)) b (S.set i (some iniR)) := by
    refine ⟨⟨_, e1, by simp [h2]⟩, fun j hj => ?_, fun j hj => ?_, len_set h.len hi rfl⟩
    · rw [List.length_set] at hj
      rw [getD_set S i j _ hi]
      by_cases e : i = j
      · subst e
        rw [if_pos rfl]
        exact World.cell?_setCell_same _ _ _ (h.one i hi)
      · rw [if_neg e, hc _ (by omega)]; exact h.one j hj
    · rw [List.length_set] at hj
      rw [getD_set S i j _ hi]
      intro k v hv
      have hk : k < 16 := by
        have : (stR (if i = j then some iniR else S.getD j none)).length = 8 := by
          split
          · rfl
          · exact h.len8 j
        rw [← rgC_len this]; exact (List.getElem?_eq_some_iff.1 hv).1
      rw [hc _ (by omega)]
      by_cases e : i = j
      · subst e
        rw [if_pos rfl] at hv
        have := h.regs i hi
        rw [hz] at this
        exact this k v hv
      · rw [if_neg e] at hv; exact h.regs j hj k v hv
  have := hm.regsPut (i := i) (by rw [List.length_set]; exact hi) (by rw [getD_set S i i _ hi, if_pos rfl]; rfl) h8
  rwa [List.set_set] at this
/-! ### the checker -/
abbrev ckC (p : Prg) (v : PV) (b n : Nat) (vt vo : Value) : Array Value := #[.int .i64 p.grow, .int .i64 p.rest, .int .i64 p.extra, .int .i64 p.signs, v.vc, v.vt, v.vx, v.vs, v.vk, v.vv, .slice (some ⟨b, 0, none⟩) n n, vt, vo]
def CkAt (w : World) (g : Nat) (p : Prg) (v : PV) (b n : Nat) (vt vo : Value) : Prop := w.heap[g]? = some (.cells (ckC p v b n vt vo) 72 (0, 0))
theorem CkAt.lt {w : World} {g b n : Nat} {p : Prg} {v : PV} {vt vo : Value} (h : CkAt w g p v b n vt vo) : g < w.heap.size := (Array.getElem?_eq_some_iff.1 h).1
theorem CkAt.cell {w : World} {g b n : Nat} {p : Prg} {v : PV} {vt vo : Value} (h : CkAt w g p v b n vt vo) (k : Nat) : w.cell? ⟨g, k, none⟩ = (ckC p v b n vt vo)[k]? := cell_of_row w g k _ _ _ h
theorem CkAt.free {w : World} {g b n : Nat} {p : Prg} {v : PV} {vt vo : Value} (h : CkAt w g p v b n vt vo) (k : Nat) : w.frozen? ⟨g, k, none⟩ = false := frozen_of_row _ _ _ _ _ h
theorem CkAt.of_heap {w w' : World} {g b n : Nat} {p : Prg} {v : PV} {vt vo : Value} (h : CkAt w g p v b n vt vo) (hb : w'.heap[g]? = w.heap[g]?) : CkAt w' g p v b n vt vo := by unfold CkAt; rw [hb]; exact h
theorem CkAt.todo {w : World} {g b n : Nat} {p : Prg} {v : PV} {vt vo : Value} (h : CkAt w g p v b n vt vo) (x : Value) : CkAt (w.setCell ⟨g, 11, none⟩ x) g p v b n x vo := by
  unfold CkAt at h ⊢
  rw [setCell_eq_setRow w g 11 _ _ _ x h, setRow_heap _ _ _ _ _ _ h]; simp
def tdI (td : List Nat) : List Int := td.map (fun (n : Nat) => (n : Int))
structure CK (B : Nat) (g b : Nat) (p : Prg) (v : PV) (of : Rg) (vo : Value) (S : Sts) (td : List Nat) (vt : Value) (w : World) : Prop where
  ck : CkAt w g p v b S.length vt vo
  sts : StsP w b S
  td : OwnR intC 1 B 3 w vt (tdI td)
  of : OwnR spC 2 B 77 w vo of
  bel : B ≤ g ∧ B ≤ b
section
variable {B g b : Nat} {p : Prg} {v : PV} {of : Rg} {vo vt : Value} {S : Sts} {td : List Nat} {w w' : World}
theorem CK.keep (h : CK B g b p v of vo S td vt w) (hb : Below w.heap.size w w') : CK B g b p v of vo S td vt w' :=
  ⟨h.ck.of_heap (hb.block g h.ck.lt), h.sts.keep hb, h.td.keep hb (Nat.le_refl _), h.of.keep hb (Nat.le_refl _), h.bel⟩
theorem CK.gb (h : CK B g b p v of vo S td vt w) : g ≠ b := fun e => by
  subst e
  obtain ⟨cs, h1, _⟩ := h.sts.blk
  have h2 := h.ck
  unfold CkAt at h2
  rw [h1] at h2
  simp at h2
theorem CK.tdg (h : CK B g b p v of vo S td vt w) {k : Nat} (hk : vt.ownBlock = some k) : k ≠ g ∧ k ≠ b := by
  obtain ⟨cs, fz, h1⟩ := h.td.typed hk
  constructor
  · rintro rfl
    have h2 := h.ck
    unfold CkAt at h2
    rw [h1] at h2
    simp at h2
  · rintro rfl
    obtain ⟨cs', h2, _⟩ := h.sts.blk
    rw [h1] at h2
    simp at h2
theorem CK.ofg (h : CK B g b p v of vo S td vt w) {k : Nat} (hk : vo.ownBlock = some k) : k ≠ g ∧ k ≠ b := by
  obtain ⟨cs, fz, h1⟩ := h.of.typed hk
  constructor
  · rintro rfl
    have h2 := h.ck
    unfold CkAt at h2
    rw [h1] at h2
    simp at h2
  · rintro rfl
    obtain ⟨cs', h2, _⟩ := h.sts.blk
    rw [h1] at h2
    simp at h2
/-- the states' block alone has turned -/
theorem CK.turn (h : CK B g b p v of vo S td vt w) {S' : Sts} (hS : StsP w' b S') (hl : S'.length = S.length) (hb : ∀ k, k ≠ b → w'.heap[k]? = w.heap[k]?) : CK B g b p v of vo S' td vt w' :=
  ⟨by rw [hl]; exact h.ck.of_heap (hb g h.gb), hS, h.td.other (fun k hk => hb k (h.tdg hk).2), h.of.other (fun k hk => hb k (h.ofg hk).2), h.bel⟩
/-- a place more: the row of places has grown (in its own block or in a new one), then it is stored -/
theorem CK.push (h : CK B g b p v of vo S td vt w) {vt' : Value} {td' : List Nat} (ht : OwnR intC 1 B 3 w' vt' (tdI td')) (hk : KeepB 3 w w') : CK B g b p v of vo S td' vt' (w'.setCell ⟨g, 11, none⟩ vt') := by
  have hck : CkAt w' g p v b S.length vt vo := hk _ _ _ _ h.ck (by decide)
  obtain ⟨cs, h1, h2⟩ := h.sts.blk
  have hsb : w'.heap[b]? = w.heap[b]? := by rw [h1]; exact hk _ _ _ _ h1 (by decide)
  have hgb := h.gb
  refine ⟨hck.todo vt', ?_, ?_, ?_, h.bel⟩
  · exact (h.sts.of_heap hsb).of_heap (heap_setCell_other _ _ _ _ (by dsimp only; exact fun e => hgb e.symm))
  · refine ht.setOther fun k hk' e => ?_
    subst e
    obtain ⟨cs', fz, h3⟩ := ht.typed hk'
    unfold CkAt at hck
    rw [h3] at hck
    simp at hck
  · have ho : OwnR spC 2 B 77 w' vo of := h.of.other fun k hk' => by
      obtain ⟨cs', fz, h3⟩ := h.of.typed hk'
      rw [h3]; exact hk _ _ _ _ h3 (by decide)
    exact ho.setOther fun k hk' => (h.ofg hk').1
theorem CK.pop (h : CK B g b p v of vo S td vt w) {vt' : Value} {td' : List Nat} (ht : OwnR intC 1 B 3 w vt' (tdI td')) : CK B g b p v of vo S td' vt' (w.setCell ⟨g, 11, none⟩ vt') := h.push ht (KeepB.refl _ _)
end
end Go.Proofs.Ytkpdcejnanhgoaa
/- Walk: whether a pair is less than another one (vm.less): it tells, and keeps what lies. No conditions. -/
namespace Go.Proofs.Ytkpdcejnanhgoaa
open Go.RowKit
def cmpI (a b : Int) : Int := if a < b then -1 else if b < a then 1 else 0
set_option maxRecDepth 100000 in
theorem cmp_isNaN (a : Int) (w : World) : Calls Try.prog 84 #[.int .i64 a] w fun e w' => e = .returned (.bool false) ∧ w' = w := by
  go_enter Try.func84, Try.ntmps84
  repeat' (first | go_values | go_skip | go_guarded | go_step | go_upon)
  go_ret
  exact ⟨by simp, rfl⟩
set_option maxRecDepth 100000 in
theorem cmp_Compare (a b : Int) (w : World) : Calls Try.prog 83 #[.int .i64 a, .int .i64 b] w fun e w' => e = .returned (.int .i64 (cmpI a b)) ∧ w' = w := by
  have HC : Hid ((a < b → cmpI a b = -1) ∧ (¬ a < b → b < a → cmpI a b = 1) ∧ (¬ a < b → ¬ b < a → cmpI a b = 0)) := Lib.hid (by unfold cmpI; refine ⟨fun h => if_pos h, fun h h' => by rw [if_neg h, if_pos h'], fun h h' => by rw [if_neg h, if_neg h']⟩)
  generalize cmpI a b = c at HC ⊢
  go_enter Try.func83, Try.ntmps83
  repeat' (first | go_values | go_skip | go_guarded | go_step | go_upon)
  refine Calls.mono (cmp_isNaN a w) ?_
  rintro _ _ ⟨rfl, rfl⟩
  dsimp only
  repeat' (first | go_values | go_skip | go_guarded | go_step | go_upon)
  refine Calls.mono (cmp_isNaN b _) ?_
  rintro _ _ ⟨rfl, rfl⟩
  dsimp only
  by_cases h1 : a < b
  · have e := HC.out.1 h1
    subst e
    clear HC
    repeat' (first | go_values | go_skip | go_guarded | go_step | go_upon)
    go_ret
    exact ⟨rfl, rfl⟩
  · by_cases h2 : b < a
    · have e := HC.out.2.1 h1 h2
      subst e
      clear HC
      have h1' : b ≤ a := by omega
      repeat' (first | go_values | go_skip | go_guarded | go_step | go_upon)
      go_ret
      exact ⟨rfl, rfl⟩
    · have e := HC.out.2.2 h1 h2
      subst e
      clear HC
      have h1' : b ≤ a := by omega
      have h2' : a ≤ b := by omega
      repeat' (first | go_values | go_skip | go_guarded | go_step | go_upon)
      go_ret
      exact ⟨rfl, rfl⟩
set_option maxRecDepth 100000 in
theorem cmp_Or2 (a b : Int) (w : World) (g : Nat) (h : w.heap[g]? = some (.cells #[.int .i64 a, .int .i64 b] 3 (0, 0))) : Calls Try.prog 82 #[.slice (some ⟨g, 0, none⟩) 2 2] w fun e w' => (∃ c, e = .returned (.int .i64 c)) ∧ w' = w := by
  have c0 : w.cell? ⟨g, 0, none⟩ = some (.int .i64 a) := by rw [cell_of_row _ _ 0 _ _ _ h]; rfl
  have c1 : w.cell? ⟨g, 1, none⟩ = some (.int .i64 b) := by rw [cell_of_row _ _ 1 _ _ _ h]; rfl
  clear h
  go_enter Try.func82, Try.ntmps82
  repeat' (first | go_values | go_skip | go_guarded | go_step | go_upon)
  go_loopw [8] (fun s8 wr => ∃ k : Nat, s8 = .int .i64 k ∧ k ≤ 2 ∧ wr = w) (fun s8 _ => 2 - (intOf s8).toNat)
  case atStart => exact ⟨0, rfl, by omega, rfl⟩
  case round =>
    obtain ⟨k, rfl, hk, rfl⟩ := hrel
    rcases (by omega : k = 0 ∨ k = 1 ∨ k = 2) with rfl | rfl | rfl
    · by_cases hz : a = 0
      · have hb : (a != 0) = false := by rw [bne_eq_false_iff_eq]; exact hz
        repeat' (first | go_values | go_skip | go_guarded | go_step | go_upon)
        go_roundw
        case rel => exact ⟨1, by go_num, by omega, trivial⟩
        case measure => simp [intOf]
      · have hb : (a != 0) = true := by rw [bne_iff_ne]; exact hz
        repeat' (first | go_values | go_skip | go_guarded | go_step | go_upon)
        go_ret
        exact ⟨⟨_, rfl⟩, rfl⟩
    · by_cases hz : b = 0
      · have hb : (b != 0) = false := by rw [bne_eq_false_iff_eq]; exact hz
        repeat' (first | go_values | go_skip | go_guarded | go_step | go_upon)
        go_roundw
        case rel => exact ⟨2, by go_num, by omega, trivial⟩
        case measure => simp [intOf]
      · have hb : (b != 0) = true := by rw [bne_iff_ne]; exact hz
        repeat' (first | go_values | go_skip | go_guarded | go_step | go_upon)
        go_ret
        exact ⟨⟨_, rfl⟩, rfl⟩
    · repeat' (first | go_values | go_skip | go_guarded | go_step | go_upon)
      go_ret
      exact ⟨⟨_, rfl⟩, rfl⟩
theorem two_newL (w : World) (o1 o2 : Obj) : ((w.alloc o1).alloc o2).heap[w.heap.size + 1]? = some o2 ∧ ((w.alloc o1).alloc o2).heap[w.heap.size]? = some o1 := by
  refine ⟨?_, ?_⟩
  · have := Go.heap_alloc_new (w.alloc o1) o2
    rwa [World.size_alloc] at this
  · rw [Go.heap_alloc_old _ _ (by rw [World.size_alloc]; omega)]; exact Go.heap_alloc_new _ _
/-- a pair's five numbers, as an instruction's -/
def PrAt (w : World) (g : Nat) (v : Nat → Int) : Prop := w.heap[g]? = some (.cells (ic v) 147 (0, 0))
theorem PrAt.lt {w : World} {g : Nat} {v : Nat → Int} (h : PrAt w g v) : g < w.heap.size := (Array.getElem?_eq_some_iff.1 h).1
theorem PrAt.keep {w w' : World} {g : Nat} {v : Nat → Int} (h : PrAt w g v) (hb : Below w.heap.size w w') : PrAt w' g v := by
  unfold PrAt; rw [hb.block g h.lt]; exact h
theorem PrAt.cell {w : World} {g : Nat} {v : Nat → Int} (h : PrAt w g v) (k : Nat) : w.cell? ⟨g, k, none⟩ = (ic v)[k]? := cell_of_row w g k _ _ _ h
set_option maxRecDepth 100000 in
set_option maxHeartbeats 4000000 in
theorem vm_less (x y : Nat → Int) (w : World) : Calls Try.prog 81 #[vI x, vI y] w fun e w' => (∃ b, e = .returned (.bool b)) ∧ Below w.heap.size w w' := by
  have h1 := two_newL w (.cells (ic x) 147) (.cells (ic y) 147)
  have hb0 : Below w.heap.size w ((w.alloc (.cells (ic x) 147)).alloc (.cells (ic y) 147)) := ((Below.refl _ _).alloc (Nat.le_refl _) _).alloc (by simp) _
  go_enter Try.func81, Try.ntmps81
  repeat' (first | go_values | go_skip | go_guarded | go_step | go_upon)
  refine gen_wd (fun W => PrAt W w.heap.size x ∧ PrAt W (w.heap.size + 1) y ∧ Below w.heap.size w W) ⟨h1.2, h1.1, hb0⟩ ?_
  clear h1 hb0
  rintro wx ⟨hx, hy, hB⟩
  have q0 : ∀ nq : WB wx, nq.1.cell? ⟨w.heap.size, 0, none⟩ = some (.int .i64 (x 0)) := fun nq => (hx.keep nq.2).cell 0
  have q1 : ∀ nq : WB wx, nq.1.cell? ⟨w.heap.size, 1, none⟩ = some (.int .i64 (x 1)) := fun nq => (hx.keep nq.2).cell 1
  have q2 : ∀ nq : WB wx, nq.1.cell? ⟨w.heap.size + 1, 0, none⟩ = some (.int .i64 (y 0)) := fun nq => (hy.keep nq.2).cell 0
  have q3 : ∀ nq : WB wx, nq.1.cell? ⟨w.heap.size + 1, 1, none⟩ = some (.int .i64 (y 1)) := fun nq => (hy.keep nq.2).cell 1
  clear hx hy
  have HB := Lib.hid hB
  clear hB
  refine wp_region_anyC (by kernel_rfl) wx ?_
  refine tkC 0 rfl ?_
  refine tkC 1 rfl ?_
  refine tkC 2 rfl ?_
  refine tkC 3 rfl ?_
  refine tkC 5 rfl ?_
  refine tkC 6 rfl ?_
  refine tkC 7 rfl ?_
  refine tkC 8 rfl ?_
  refine wpAnyC_takeK (i := 4) (v := _) rfl (by kernel_rfl) (by kernel_rfl) (by kernel_rfl) (fun _ _ _ h => h) (Or.inl ⟨by rfl, fun w ⟨nq, hw⟩ => by (subst hw; go_simp; first | exact ⟨rfl, (cmp_Compare _ _ _)⟩ | exact (cmp_Compare _ _ _))⟩) (by go_simp <;> with_reducible rfl) ?_
  refine wpAnyC_takeK (i := 9) (v := _) rfl (by kernel_rfl) (by kernel_rfl) (by kernel_rfl) (fun _ _ _ h => h) (Or.inl ⟨by rfl, fun w ⟨nq, hw⟩ => by (subst hw; go_simp; first | exact ⟨rfl, (cmp_Compare _ _ _)⟩ | exact (cmp_Compare _ _ _))⟩) (by go_simp <;> with_reducible rfl) ?_
  clear q0 q1 q2 q3
  generalize cmpI (x 0) (y 0) = c1
  generalize cmpI (x 1) (y 1) = c2
  refine wpAnyC_ready (CW.of ((Below.refl _ _).drew)) (rs := [10]) (by kernel_rfl) (by simp) ?_
  refine (AllReadyC.cons rfl (fun K hK => ?_) AllReadyC.nil)
  go_simp
  refine hK _ _ ?_
  clear hK K
  refine wpAnyC_ready (CW.of ((Below.refl _ _).drew.alloc (by simp) _)) (rs := [11]) (by kernel_rfl) (by simp) ?_
  refine (AllReadyC.cons rfl (fun K hK => ?_) AllReadyC.nil)
  go_simp
  refine Calls.mono (cmp_Or2 c1 c2 _ _ (Go.heap_alloc_new _ _)) ?_
  rintro _ w2 ⟨⟨c, rfl⟩, rfl⟩
  dsimp only
  refine hK _ _ ?_
  clear hK K
  refine tkC 12 rfl ?_
  refine tkC 13 rfl ?_
  refine wpAnyC_done (by kernel_rfl) (CW.of ((Below.refl _ _).drew.alloc (by simp) _)) (by go_simp <;> with_reducible rfl) ?_
  repeat' (first | go_values | go_skip | go_guarded | go_step | go_upon)
  go_ret
  exact ⟨⟨_, rfl⟩, HB.out.trans (((Below.refl _ _).drew.alloc (by simp) _).mono HB.out.size)⟩
end Go.Proofs.Ytkpdcejnanhgoaa
/- Drawing regions: what hangs on no world may be taken first; what comes up behind u asks no class. Rows of pairs, and the queue's variable. No conditions. -/
namespace Go.Proofs.Ytkpdcejnanhgoaa
open Go.RowKit
section
variable {P : Program} {ops : Array Oper} {md : Region.Mode} {C : World → Prop} {Q : Exit → Act → World → Prop} {u : Nat}
theorem wpAnyU_firstP {i : Nat} {oi : Oper} {v : Value} (hi : ops[i]? = some oi) (hui : i ≠ u) (hsel : ∀ (j : Nat) (o : Oper) cs b, ops[j]? = some o → o.op ≠ .select cs b)
    (hQ : ∀ c a w, Q (.panic c) (a.put oi.dst v) w → Q (.panic c) a w) :
    ∀ (fuel : Nat) (listed : Array Bool) (a : Act) (w : World),
      (∀ j oj, ops[j]? = some oj → j ≠ i → listed.getD j true = false → (∀ e ∈ oj.after, Region.binds md e = true → e.on ≠ i) → oi.apart ops oj = true) →
      i ∈ Region.ready md ops listed → YieldsK P ops (fun _ => True) oi v a →
      wpAnyU P md ops C u Q fuel (listed.setIfInBounds i true) (a.put oi.dst v) w → wpAnyU P md ops C u Q (fuel + 1) listed a w := by
  intro fuel
  induction fuel with
  | zero =>
    intro listed a w _ hr hy H
    refine ⟨fun hun => H.cls (by rw [getD_set_ne false hui]; exact hun), fun h => (by rw [h] at hr; cases hr), fun j hj => ?_⟩
    by_cases hji : j = i
    · subst hji; exact hy.wpOp hi trivial H
    · have := ready_mono hj hji
      rw [H.2.1] at this
      cases this
  | succ fuel ih =>
    intro listed a w hfree hr hy H
    refine ⟨fun hun => H.cls (by rw [getD_set_ne false hui]; exact hun), fun h => (by rw [h] at hr; cases hr), fun j hj => ?_⟩
    by_cases hji : j = i
    · subst hji; exact hy.wpOp hi trivial H
    · have h1 := H.2.2 j (ready_mono hj hji)
      obtain ⟨hjun, oj, hoj, hall⟩ := mem_ready.1 hj
      have hnot : ∀ e ∈ oj.after, Region.binds md e = true → e.on ≠ i := fun e he hb heq => by
        have h1 := hall e he hb
        have h0 := (mem_ready.1 hr).1
        rw [heq] at h1
        rcases Nat.lt_or_ge i listed.size with h' | h'
        · simp [h'] at h0 h1; rw [h0] at h1; cases h1
        · simp [Array.getElem?_eq_none h'] at h1
      have h2 := wpOp_putK hoj (hfree j oj hoj hji hjun hnot) (fun cs b => hsel i oi cs b hi) (fun cs b => hsel j oj cs b hoj) hQ hy h1
      have hfree' : ∀ k ok, ops[k]? = some ok → k ≠ i → (listed.setIfInBounds j true).getD k true = false →
          (∀ e ∈ ok.after, Region.binds md e = true → e.on ≠ i) → oi.apart ops ok = true := fun k ok hk hki hun hno => by
        refine hfree k ok hk hki ?_ hno
        by_cases hjk : j = k
        · subst hjk; exact hjun
        · rw [getD_set_ne true hjk] at hun; exact hun
      refine wpOp_mono (fun a' w' h3 => ih (listed.setIfInBounds j true) a' w' hfree' (ready_mono hr (Ne.symm hji)) h3.1 ?_) h2
      rw [Array.setIfInBounds_comm _ _ hji]
      exact h3.2
theorem wpAnyU_takeP {i : Nat} {oi : Oper} {v : Value} {fuel : Nat} {listed : Array Bool} {a a' : Act} {w : World} (hi : ops[i]? = some oi) (hui : i ≠ u)
    (hs : Region.noSelect ops = true) (hf : Region.free md ops listed i = true) (hr : (Region.ready md ops listed).contains i = true)
    (hQ : ∀ c a w, Q (.panic c) (a.put oi.dst v) w → Q (.panic c) a w) (hy : YieldsK P ops (fun _ => True) oi v a) (ha : a.put oi.dst v = a')
    (h : wpAnyU P md ops C u Q fuel (listed.setIfInBounds i true) a' w) : wpAnyU P md ops C u Q (fuel + 1) listed a w := by
  subst ha
  exact wpAnyU_firstP hi hui (Region.noSelect_spec hs) hQ fuel listed a w (Region.free_spec hi hf) (by simpa using hr) hy h
theorem tkP (i : Nat) {oi : Oper} {v : Value} {fuel : Nat} {listed : Array Bool} {a a' : Act} {w : World} (hi : ops[i]? = some oi)
    (h : wpAnyU P md ops C u Q fuel (listed.setIfInBounds i true) a' w) (hui : i ≠ u := by decide) (hs : Region.noSelect ops = true := by kernel_rfl) (hf : Region.free md ops listed i = true := by kernel_rfl) (hr : (Region.ready md ops listed).contains i = true := by kernel_rfl)
    (hQ : ∀ c a w, Q (.panic c) (a.put oi.dst v) w → Q (.panic c) a w := by exact fun _ _ _ h => h) (hy : YieldsK P ops (fun _ => True) oi v a := by exact Or.inl ⟨by rfl, fun w _ => by (go_simp; first | exact ⟨rfl, rfl⟩ | rfl)⟩) (ha : a.put oi.dst v = a' := by go_simp <;> with_reducible rfl) : wpAnyU P md ops C u Q (fuel + 1) listed a w := wpAnyU_takeP hi hui hs hf hr hQ hy ha h
theorem wpAnyU_readyV {rs : List Nat} {fuel : Nat} {listed : Array Bool} {a : Act} {w : World} (hl : listed.getD u false = true) (hr : Region.ready md ops listed = rs) (hne : rs ≠ [])
    (h : AllReadyU P md ops C u Q fuel listed a w rs) : wpAnyU P md ops C u Q (fuel + 1) listed a w :=
  ⟨fun h0 => by (rw [hl] at h0; cases h0), fun h0 => absurd (hr ▸ h0) hne, hr ▸ h⟩
end
theorem genUv {P : Program} {md : Region.Mode} {ops : Array Oper} {C : World → Prop} {u : Nat} {Q : Exit → Act → World → Prop} {fuel : Nat} {listed : Array Bool} {a : Act} {w : World} (F : World → Prop) (hF : F w) (h : ∀ w', F w' → wpAnyU P md ops C u Q fuel listed a w') : wpAnyU P md ops C u Q fuel listed a w := h w hF
/-- five cells of a row of one's own, set anew -/
theorem flat_set5 (y : Nat → Int) : ∀ (l : List (Nat → Int)) (i : Nat), i < l.length →
    (((((l.flatMap icL).set (i * 5) (.int .i64 (y 0))).set (i * 5 + 1) (.int .i64 (y 1))).set (i * 5 + 1 + 1) (.int .i64 (y 2))).set (i * 5 + 1 + 1 + 1) (.int .i64 (y 3))).set (i * 5 + 1 + 1 + 1 + 1) (.int .i64 (y 4)) = (l.set i y).flatMap icL
  | [], i, h => absurd h (Nat.not_lt_zero _)
  | a :: l, 0, _ => by simp [icL]
  | a :: l, i + 1, h => by
    have ih := flat_set5 y l i (by simpa using h)
    rw [show (i + 1) * 5 = i * 5 + 1 + 1 + 1 + 1 + 1 by omega]
    simp only [List.flatMap_cons, icL, List.cons_append, List.nil_append, List.set_cons_succ]
    exact congrArg (fun t => Value.int .i64 (a 0) :: Value.int .i64 (a 1) :: Value.int .i64 (a 2) :: Value.int .i64 (a 3) :: Value.int .i64 (a 4) :: t) ih
theorem own_set5 {B : Nat} {e : TypeId} {w : World} {g n cap : Nat} {l : List (Nat → Int)} (h : OwnR icL 5 B e w (.slice (some ⟨g, 0, none⟩) n cap) l) (hn : n = l.length) (y : Nat → Int) {i : Nat} (hi : i < l.length) :
    OwnR icL 5 B e (w.setCells g (i * 5) (icL y)) (.slice (some ⟨g, 0, none⟩) n cap) (l.set i y) := by
  subst hn
  unfold OwnR at h ⊢
  rw [List.length_set, ← flat_set5 y l i hi]
  exact (((((OwnC.store h _ _).store _ _).store _ _).store _ _).store _ _)
theorem own_there {B : Nat} {e : TypeId} {w : World} {g n cap : Nat} {l : List (Nat → Int)} (h : OwnR icL 5 B e w (.slice (some ⟨g, 0, none⟩) n cap) l) (hn : n = l.length) {i : Nat} (hi : i < l.length) : w.there g (i * 5) 5 := by
  subst hn
  unfold OwnR at h
  intro j hj
  have hlt : i * 5 + j < l.length * 5 := by omega
  refine ⟨?_, OwnC.free h (i * 5 + j) hlt⟩
  rw [OwnC.cell h (i * 5 + j) hlt]
  have hl := h.1
  rw [List.getElem?_eq_getElem (by omega)]; rfl
theorem own_range {B : Nat} {e : TypeId} {w : World} {g n cap : Nat} {l : List (Nat → Int)} (h : OwnR icL 5 B e w (.slice (some ⟨g, 0, none⟩) n cap) l) {i : Nat} (hi : i < l.length) : w.rangeAt g (i * 5) (icL (l.getD i k2)) := by
  intro j v hv
  have hx : l[i]? = some (l.getD i k2) := by rw [List.getD_eq_getElem?_getD, List.getElem?_eq_getElem hi]; rfl
  have hj : j < 5 := (List.getElem?_eq_some_iff.1 hv).1
  rw [h.cellAt icL_len i _ j hx hj]; exact hv
/-- the queue's variable -/
def QAt (w : World) (g : Nat) (v : Value) : Prop := w.heap[g]? = some (.cells #[v] 141 (0, 0))
theorem QAt.lt {w : World} {g : Nat} {v : Value} (h : QAt w g v) : g < w.heap.size := (Array.getElem?_eq_some_iff.1 h).1
theorem QAt.keep {w w' : World} {g : Nat} {v : Value} (h : QAt w g v) (hb : Below w.heap.size w w') : QAt w' g v := by
  unfold QAt; rw [hb.block g h.lt]; exact h
theorem QAt.cell {w : World} {g : Nat} {v : Value} (h : QAt w g v) : w.cell? ⟨g, 0, none⟩ = some v := by rw [cell_of_row w g 0 _ _ _ h]; rfl
theorem QAt.free {w : World} {g : Nat} {v : Value} (h : QAt w g v) (k : Nat) : w.frozen? ⟨g, k, none⟩ = false := frozen_of_row _ _ _ _ _ h
theorem QAt.set {w : World} {g : Nat} {v : Value} (h : QAt w g v) (u : Value) : QAt (w.setCell ⟨g, 0, none⟩ u) g u := by
  unfold QAt; rw [setCell_eq_setRow w g 0 _ _ _ _ h]; exact setRow_heap _ _ _ _ _ _ h
/-- only the queue's variable and rows of pairs turn -/
structure QK (B gq : Nat) (w w' : World) : Prop where
  bel : Below B w w'
  keep : ∀ k cs t fz, w.heap[k]? = some (.cells cs t fz) → t ≠ 147 → k ≠ gq → w'.heap[k]? = some (.cells cs t fz)
theorem QK.refl (B gq : Nat) (w : World) : QK B gq w w := ⟨Below.refl _ _, fun _ _ _ _ h _ _ => h⟩
theorem QK.trans {B gq : Nat} {w w' w'' : World} (h : QK B gq w w') (h' : QK B gq w' w'') : QK B gq w w'' :=
  ⟨h.bel.trans h'.bel, fun k cs t fz a b c => h'.keep k cs t fz (h.keep k cs t fz a b c) b c⟩
theorem QK.of {B gq : Nat} {w w' : World} (h : Below w.heap.size w w') (hB : B ≤ w.heap.size) : QK B gq w w' :=
  ⟨h.mono hB, fun k cs t fz a _ _ => by rw [h.block k (Array.getElem?_eq_some_iff.1 a).1]; exact a⟩
theorem QK.setq {B gq : Nat} {w w' : World} (h : QK B gq w w') (hB : B ≤ gq) (u : Value) (o : Nat) : QK B gq w (w'.setCell ⟨gq, o, none⟩ u) :=
  ⟨h.bel.setCell hB _, fun k cs t fz a b c => by rw [heap_setCell_other _ _ _ _ (by dsimp only; omega)]; exact h.keep k cs t fz a b c⟩
theorem setCells_other (g : Nat) : ∀ (vs : List Value) (o : Nat) (w : World) (k : Nat), k ≠ g → (w.setCells g o vs).heap[k]? = w.heap[k]?
  | [], _, _, _, _ => rfl
  | v :: r, o, w, k, h => by
    show ((w.setCell ⟨g, o, none⟩ v).setCells g (o + 1) r).heap[k]? = _
    rw [setCells_other g r (o + 1) _ k h, heap_setCell_other _ _ _ _ (by dsimp only; omega)]
theorem setCells_below {B g : Nat} (hB : B ≤ g) : ∀ (vs : List Value) (o : Nat) {w0 w : World}, Below B w0 w → Below B w0 (w.setCells g o vs)
  | [], _, _, _, h => h
  | v :: r, o, _, _, h => setCells_below hB r (o + 1) (h.setCell hB v)
/-- a row of pairs is set in one element -/
theorem QK.set5 {B gq : Nat} {w w' : World} {g n cap : Nat} {l : List (Nat → Int)} (h : QK B gq w w') (ho : OwnR icL 5 B 147 w' (.slice (some ⟨g, 0, none⟩) n cap) l) (o : Nat) (vs : List Value) : QK B gq w (w'.setCells g o vs) := by
  have hg := ho.below (g := g) rfl
  refine ⟨setCells_below hg.1 _ _ h.bel, fun k cs t fz a b c => ?_⟩
  have hk := h.keep k cs t fz a b c
  rw [setCells_other _ _ _ _ _ (fun e => ?_)]
  · exact hk
  · obtain ⟨cs', fz', h'⟩ := ho.typed (k := g) rfl
    rw [e, h'] at hk
    simp at hk
    exact b hk.2.1.symm
theorem QAt.set5 {w : World} {gq g n cap : Nat} {v : Value} {B : Nat} {l : List (Nat → Int)} (h : QAt w gq v) (ho : OwnR icL 5 B 147 w (.slice (some ⟨g, 0, none⟩) n cap) l) (o : Nat) (vs : List Value) : QAt (w.setCells g o vs) gq v := by
  unfold QAt
  rw [setCells_other _ _ _ _ _ (fun e => ?_)]
  · exact h
  · obtain ⟨cs', fz', h'⟩ := ho.typed (k := g) rfl
    unfold QAt at h
    rw [e, h'] at h
    simp at h
end Go.Proofs.Ytkpdcejnanhgoaa
