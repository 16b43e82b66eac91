/- The checker's memory: states of registers' ranges in a row, arrays of ranges. No conditions. -/
import Derived.Test.YtbomloodllddaaaPk15
import Derived.Test.YtbomloodllddaaaPk13
import Derived.Test.YtbomloodllddaaaPk09
import Derived.Test.YtbomloodllddaaaPk05
import Derived.ChangeKeysEq
import Derived.Laws.StructEq
import Derived.Deep.WholeRow
import Derived.Deep.MidRow
import Derived.Deep.Cut
import Derived.Deep.CutRange
import Derived.Deep.LoopGhost
namespace Go.Proofs.Ytbomloodllddaaa
open Go.RowKit
/-- registers' ranges, cell by cell -/
def rgC (r : Rg) : List Value := r.flatMap spC
theorem rgC_len {r : Rg} (h : r.length = 8) : (rgC r).length = 16 := by
  have : ∀ l : Rg, (rgC l).length = l.length * 2 := fun l => by
    induction l with
    | nil => rfl
    | cons a l ih => unfold rgC at *; rw [List.flatMap_cons, List.length_append, ih, List.length_cons, Nat.succ_mul, spC_len]; omega
  rw [this, h]
theorem rgC_at {r : Rg} (h : r.length = 8) {k : Nat} (hk : k < 8) : (rgC r)[k * 2]? = some (.int .i64 (rget r k).1) ∧ (rgC r)[k * 2 + 1]? = some (.int .i64 (rget r k).2) := by
  have hx : r[k]? = some (rget r k) := by unfold rget; rw [List.getD_eq_getElem?_getD, List.getElem?_eq_getElem (by omega)]; rfl
  exact ⟨by have := flatMap_at spC_len r k _ 0 hx (by decide); simpa [rgC, spC] using this, by have := flatMap_at spC_len r k _ 1 hx (by decide); simpa [rgC, spC] using this⟩
theorem rgC_one (r : Rg) : ∀ v ∈ rgC r, v.oneCell' = true := fun v hv => by
  unfold rgC at hv
  obtain ⟨p, _, h⟩ := List.mem_flatMap.1 hv
  simp only [spC, List.mem_cons, List.not_mem_nil, or_false] at h
  rcases h with rfl | rfl <;> rfl
theorem rgC_set {r : Rg} (h : r.length = 8) (k : Nat) (v : Int × Int) : ((rgC r).set (k * 2) (.int .i64 v.1)).set (k * 2 + 1) (.int .i64 v.2) = rgC (r.set k v) := by
  apply List.ext_getElem?
  intro i
  have hl : (rgC r).length = 16 := rgC_len h
  have hl' : (rgC (r.set k v)).length = 16 := rgC_len (by simp [h])
  rcases Nat.lt_or_ge i 16 with hi | hi
  rotate_left
  · rw [List.getElem?_eq_none (by simp [hl]; exact hi), List.getElem?_eq_none (by rw [hl']; exact hi)]
  obtain ⟨j, hj⟩ : ∃ j, i = j * 2 ∨ i = j * 2 + 1 := ⟨i / 2, by omega⟩
  have hj8 : j < 8 := by omega
  have a := rgC_at h hj8
  have b := rgC_at (r := r.set k v) (by simp [h]) hj8
  rw [rget_set r h k v j hj8] at b
  rw [List.getElem?_set, List.getElem?_set]
  rcases hj with rfl | rfl
  · rw [if_neg (by omega)]
    by_cases e : k = j
    · subst e; rw [if_pos rfl, if_pos (by rw [hl]; omega), b.1, if_pos rfl]
    · rw [if_neg (by omega), a.1, b.1, if_neg e]
  · by_cases e : k = j
    · subst e; rw [if_pos rfl, if_pos (by rw [List.length_set, hl]; omega), b.2, if_pos rfl]
    · rw [if_neg (by omega), if_neg (by omega), a.2, b.2, if_neg e]
abbrev rgV (r : Rg) : Value := .agg (rgC r).toArray
theorem info_vrg : (Try.prog.info? 112).map (fun i => i.size) = some 16 := by kernel_rfl
theorem info_vsp : (Try.prog.info? 110).map (fun i => i.size) = some 2 := by kernel_rfl
theorem cells_vsp : Try.prog.cellsOf 110 = 2 := by kernel_rfl
/-- a range out of an array of ranges -/
theorem part_sp {xs : Array Value} {o : Nat} {a b : Int} (w : World) (h0 : xs[o]? = some (.int .i64 a)) (h1 : xs[o + 1]? = some (.int .i64 b)) : (part 110 xs o).run Try.prog w = .ok (.agg #[.int .i64 a, .int .i64 b]) w := by
  have hagg : (isAgg 110).run Try.prog w = .ok true w := by
    unfold isAgg
    rw [Sem.run_bind, run_underlying Try.underlying110 w]; rfl
  obtain ⟨i, hi, _⟩ := Option.map_eq_some_iff.1 info_vsp
  have hsz : (sizeOf 110).run Try.prog w = .ok 2 w := by rw [run_sizeOf w hi, cells_vsp]
  unfold part
  simp only [Sem.run_bind, hagg, Result.andThen_ok, if_true, hsz, Sem.run_pure]
  have e : xs.extract o (o + 2) = #[.int .i64 a, .int .i64 b] := by
    obtain ⟨l0, e0⟩ := Array.getElem?_eq_some_iff.1 h0
    obtain ⟨l1, e1⟩ := Array.getElem?_eq_some_iff.1 h1
    apply Array.ext
    · simp; omega
    · intro k hk1 hk2
      have hk : k < 2 := by simpa using hk2
      rw [Array.getElem_extract]
      rcases (by omega : k = 0 ∨ k = 1) with rfl | rfl
      · simpa using e0
      · simpa using e1
  rw [e]
theorem eq_sp (a b c d : Int) (n : Nat) (w : World) : (Op.equalIn (n + 2) 110 (.agg #[.int .i64 a, .int .i64 b]) (.agg #[.int .i64 c, .int .i64 d])).run Try.prog w = .ok (a == c && b == d) w := by
  go_simp
  by_cases h1 : a = c
  · by_cases h2 : b = d
    · simp [h1, h2]
    · simp [h1, h2]
  · simp [h1]
theorem eq_items {xs ys : Array Value} {r q : Rg} (w : World) (n : Nat) (hr : r.length = 8) (hq : q.length = 8) (hx : xs = (rgC r).toArray) (hy : ys = (rgC q).toArray) : ∀ is : List Nat, (∀ i ∈ is, i < 8) →
    (Op.eqItems (n + 2) 110 2 xs ys is).run Try.prog w = .ok (is.all fun i => (rget r i).1 == (rget q i).1 && (rget r i).2 == (rget q i).2) w := by
  intro is
  induction is with
  | nil => intro _; simp [Op.eqItems]
  | cons i is ih =>
    intro hi
    have h8 := hi i (by simp)
    have a := rgC_at hr h8
    have b := rgC_at hq h8
    have h1 := part_sp (xs := xs) (o := i * 2) w (by rw [hx]; simpa using a.1) (by rw [hx]; simpa using a.2)
    have h2 := part_sp (xs := ys) (o := i * 2) w (by rw [hy]; simpa using b.1) (by rw [hy]; simpa using b.2)
    have h3 := eq_sp (rget r i).1 (rget r i).2 (rget q i).1 (rget q i).2 n w
    have h4 := ih fun j hj => hi j (by simp [hj])
    simp only [Op.eqItems, Sem.run_bind, h1, h2, h3, Result.andThen_ok]
    cases h : ((rget r i).1 == (rget q i).1 && (rget r i).2 == (rget q i).2) <;> simp [h, h4]
theorem rg_all {r q : Rg} (hr : r.length = 8) (hq : q.length = 8) : ((List.range 8).all fun i => (rget r i).1 == (rget q i).1 && (rget r i).2 == (rget q i).2) = decide (r = q) := by
  rw [Bool.eq_iff_iff]
  simp only [List.all_eq_true, List.mem_range, Bool.and_eq_true, beq_iff_eq, decide_eq_true_eq]
  constructor
  · intro h
    apply List.ext_getElem (by rw [hr, hq])
    intro i h1 h2
    have e1 : rget r i = r[i] := by simp [rget, List.getD, List.getElem?_eq_getElem h1]
    have e2 : rget q i = q[i] := by simp [rget, List.getD, List.getElem?_eq_getElem h2]
    rw [← e1, ← e2]
    have := h i (by omega)
    exact Prod.ext this.1 this.2
  · rintro rfl i _; exact ⟨rfl, rfl⟩
theorem eq_rg {r q : Rg} (hr : r.length = 8) (hq : q.length = 8) (w : World) : (Op.equalIn 9999 112 (rgV r) (rgV q)).run Try.prog w = .ok (decide (r = q)) w := by
  obtain ⟨i, hi, _⟩ := Option.map_eq_some_iff.1 info_vsp
  rw [run_equalIn_array (P := Try.prog) w 9998 (rgC r).toArray (rgC q).toArray Try.underlying112 hi, cells_vsp, eq_items w 9996 hr hq rfl rfl (List.range 8) (fun i hi => List.mem_range.1 hi), rg_all hr hq]
theorem index_rg {r : Rg} (hr : r.length = 8) {k : Nat} (hk : k < 8) (w : World) : (Instr.index 112 (rgV r) (.int .i64 (k : Int))).run Try.prog w = .ok (.agg #[.int .i64 (rget r k).1, .int .i64 (rget r k).2]) w := by
  obtain ⟨i, hi, _⟩ := Option.map_eq_some_iff.1 info_vsp
  have hsz : (sizeOf 110).run Try.prog w = .ok 2 w := by rw [run_sizeOf w hi, cells_vsp]
  have a := rgC_at hr hk
  have hp := part_sp (xs := (rgC r).toArray) (o := k * 2) w (by simpa using a.1) (by simpa using a.2)
  have h0 : (0 : Int) ≤ (k : Int) ∧ (k : Int) < ((8 : Nat) : Int) := by omega
  unfold Instr.index
  simp only [asIntOf, Sem.run_bind, Sem.run_pure, Result.andThen_ok, run_underlying Try.underlying112 w]
  rw [if_pos h0]
  simp only [Sem.run_bind, hsz, Result.andThen_ok, Int.toNat_natCast, hp]
/-! ### a variable that holds an array of ranges -/
def RgBox (w : World) (g : Nat) (r : Rg) : Prop := w.heap[g]? = some (.cells (rgC r).toArray 112 (0, 0))
theorem RgBox.lt {w : World} {g : Nat} {r : Rg} (h : RgBox w g r) : g < w.heap.size := (Array.getElem?_eq_some_iff.1 h).1
theorem RgBox.keep {w w' : World} {g : Nat} {r : Rg} (h : RgBox w g r) (hb : Below w.heap.size w w') : RgBox w' g r := by
  unfold RgBox; rw [hb.block g h.lt]; exact h
theorem RgBox.keepB {w w' : World} {B g : Nat} {r : Rg} (h : RgBox w g r) (hb : Below B w w') (hg : g < B) : RgBox w' g r := by
  unfold RgBox; rw [hb.block g hg]; exact h
theorem RgBox.new (w : World) (r : Rg) : RgBox (w.alloc (.cells (rgC r).toArray 112)) w.heap.size r := Go.heap_alloc_new _ _
theorem RgBox.oth {w : World} {g g' k : Nat} {r : Rg} {x : Value} (h : RgBox w g r) (hg : g ≠ g') : RgBox (w.setCell ⟨g', k, none⟩ x) g r := by
  unfold RgBox at h ⊢
  rw [heap_setCell_other _ _ _ _ (by exact hg)]; exact h
theorem RgBox.free {w : World} {g : Nat} {r : Rg} (h : RgBox w g r) (k : Nat) : w.frozen? ⟨g, k, none⟩ = false := frozen_of_row _ _ _ _ _ h
theorem RgBox.two {w : World} {g : Nat} {r : Rg} (h : RgBox w g r) (h8 : r.length = 8) {k : Nat} (hk : k < 8) : w.cell? ⟨g, k * 2, none⟩ = some (.int .i64 (rget r k).1) ∧ w.cell? ⟨g, k * 2 + 1, none⟩ = some (.int .i64 (rget r k).2) := by
  have a := rgC_at h8 hk
  exact ⟨by rw [cell_of_row w g _ _ _ _ h]; simpa using a.1, by rw [cell_of_row w g _ _ _ _ h]; simpa using a.2⟩
/-- a range stored into it -/
theorem RgBox.put {w : World} {g : Nat} {r : Rg} (h : RgBox w g r) (h8 : r.length = 8) (k : Nat) (v : Int × Int) : RgBox ((w.setCell ⟨g, k * 2, none⟩ (.int .i64 v.1)).setCell ⟨g, k * 2 + 1, none⟩ (.int .i64 v.2)) g (r.set k v) := by
  unfold RgBox at h ⊢
  have e1 : (w.setCell ⟨g, k * 2, none⟩ (.int .i64 v.1)).heap[g]? = some (.cells ((rgC r).toArray.setIfInBounds (k * 2) (.int .i64 v.1)) 112 (0, 0)) := by
    rw [setCell_eq_setRow w g (k * 2) _ _ _ _ h, setRow_heap _ _ _ _ _ _ h]
  rw [setCell_eq_setRow _ g (k * 2 + 1) _ _ _ _ e1, setRow_heap _ _ _ _ _ _ e1, ← rgC_set h8 k v]
  simp
theorem load_rg {o : Oper} {a : Act} {w : World} {K : Act → World → Prop} {Q : Exit → Act → World → Prop} {g : Nat} {r : Rg} (hs : RgBox w g r) (h8 : r.length = 8) (x : Operand) (ho : o.op = .load 112 x)
    (hx : a.eval x = .pointer (some ⟨g, 0, none⟩)) (h : K (a.put o.dst (rgV r)) w) : o.wp Try.prog a w K Q :=
  wp_load_row _ x ho g hx 112 (rgC r).toArray (0, 0) _ hs Try.underlying112 rfl (by rw [info_vrg]; simp [rgC_len h8]) h
end Go.Proofs.Ytbomloodllddaaa
/- The checker as it lies in memory: its program, its states, the places to look at. No conditions. -/
namespace Go.Proofs.Ytbomloodllddaaa
open Go.RowKit
/-- a state's cells behind its first one -/
def stR (o : Option Rg) : Rg := o.getD iniR
/-- the states in a row -/
structure StsP (w : World) (b : Nat) (S : Sts) : Prop where
  blk : ∃ cs, w.heap[b]? = some (.cells cs 115 (0, 0)) ∧ cs.size = S.length * 17
  one : ∀ i, i < S.length → w.cell? ⟨b, i * 17, none⟩ = some (.bool (S.getD i none).isSome)
  regs : ∀ i, i < S.length → w.rangeAt b (i * 17 + 1) (rgC (stR (S.getD i none)))
  len : ∀ (i : Nat) r, S.getD i none = some r → r.length = 8
theorem StsP.len8 {w : World} {b : Nat} {S : Sts} (h : StsP w b S) (i : Nat) : (stR (S.getD i none)).length = 8 := by
  cases e : S.getD i none with
  | none => rfl
  | some r => exact h.len i r e
theorem len_set {S : Sts} (h : ∀ (i : Nat) r, S.getD i none = some r → r.length = 8) {i : Nat} (hi : i < S.length) {q : Rg} (hq : q.length = 8) : ∀ (j : Nat) r, (S.set i (some q)).getD j none = some r → r.length = 8 := fun j r hr => by
  rw [getD_set S i j _ hi] at hr
  split at hr
  · cases hr; exact hq
  · exact h j r hr
theorem StsP.lt {w : World} {b : Nat} {S : Sts} (h : StsP w b S) : b < w.heap.size := by
  obtain ⟨cs, h1, _⟩ := h.blk
  exact (Array.getElem?_eq_some_iff.1 h1).1
theorem StsP.free {w : World} {b : Nat} {S : Sts} (h : StsP w b S) (k : Nat) : w.frozen? ⟨b, k, none⟩ = false := by
  obtain ⟨cs, h1, _⟩ := h.blk
  exact frozen_of_row _ _ _ _ _ h1
theorem StsP.isThere {w : World} {b : Nat} {S : Sts} (h : StsP w b S) {i k : Nat} (hi : i < S.length) (hk : k < 17) : (w.cell? ⟨b, i * 17 + k, none⟩).isSome = true := by
  obtain ⟨cs, h1, h2⟩ := h.blk
  rw [cell_of_row w b _ _ _ _ h1]
  have : (i + 1) * 17 ≤ S.length * 17 := Nat.mul_le_mul_right _ hi
  rw [Array.getElem?_eq_getElem (by rw [h2]; omega)]; rfl
theorem StsP.there {w : World} {b : Nat} {S : Sts} (h : StsP w b S) {i : Nat} (hi : i < S.length) : w.there b (i * 17 + 1) 16 := fun j hj =>
  ⟨by rw [Nat.add_assoc]; exact h.isThere hi (by omega), h.free _⟩
/-- what the row's block holds -/
theorem StsP.of_heap {w w' : World} {b : Nat} {S : Sts} (h : StsP w b S) (hb : w'.heap[b]? = w.heap[b]?) : StsP w' b S := by
  have hc : ∀ k, w'.cell? ⟨b, k, none⟩ = w.cell? ⟨b, k, none⟩ := fun k => World.cell?_of_block (w := w) hb
  refine ⟨by rw [hb]; exact h.blk, fun i hi => by rw [hc]; exact h.one i hi, fun i hi j v hv => by rw [hc]; exact h.regs i hi j v hv, h.len⟩
theorem StsP.keepB {w w' : World} {B b : Nat} {S : Sts} (h : StsP w b S) (hb : Below B w w') (hB : b < B) : StsP w' b S := h.of_heap (hb.block b hB)
theorem StsP.keep {w w' : World} {b : Nat} {S : Sts} (h : StsP w b S) (hb : Below w.heap.size w w') : StsP w' b S := h.keepB hb h.lt
/-- cells stored into one block -/
theorem heap_setCells_other (b : Nat) : ∀ (vs : List Value) (o : Nat) (w : World) (k : Nat), k ≠ b → (w.setCells b o vs).heap[k]? = w.heap[k]?
  | [], _, _, _, _ => rfl
  | v :: r, o, w, k, h => by rw [World.setCells, heap_setCells_other b r (o + 1) _ k h, heap_setCell_other _ _ _ _ (by exact h)]
theorem heap_setCells_same {b : Nat} {t : TypeId} : ∀ (vs : List Value) (o : Nat) (w : World) (cs : Array Value), w.heap[b]? = some (.cells cs t (0, 0)) → ∃ cs', (w.setCells b o vs).heap[b]? = some (.cells cs' t (0, 0)) ∧ cs'.size = cs.size
  | [], _, _, cs, h => ⟨cs, h, rfl⟩
  | v :: r, o, w, cs, h => by
    have h1 : (w.setCell ⟨b, o, none⟩ v).heap[b]? = some (.cells (cs.setIfInBounds o v) t (0, 0)) := by rw [setCell_eq_setRow w b o _ _ _ _ h, setRow_heap _ _ _ _ _ _ h]
    obtain ⟨cs', h2, h3⟩ := heap_setCells_same r (o + 1) _ _ h1
    exact ⟨cs', h2, by rw [h3]; simp⟩
theorem Below.setCells {B b : Nat} : ∀ (vs : List Value) (o : Nat) {a w : World}, Below B a w → B ≤ b → Below B a (w.setCells b o vs)
  | [], _, _, _, h, _ => h
  | v :: r, o, _, _, h, hb => by rw [World.setCells]; exact Below.setCells r (o + 1) (h.setCell (by exact hb) v) hb
theorem size_setCells (b : Nat) : ∀ (vs : List Value) (o : Nat) (w : World), (w.setCells b o vs).heap.size = w.heap.size
  | [], _, _ => rfl
  | v :: r, o, w => by rw [World.setCells, size_setCells b r]; simp [World.setCell]
/-- a state's ranges stored -/
theorem StsP.regsPut {w : World} {b : Nat} {S : Sts} (h : StsP w b S) {i : Nat} (hi : i < S.length) (hs : (S.getD i none).isSome = true) {r : Rg} (h8 : r.length = 8) : StsP (w.setCells b (i * 17 + 1) (rgC r)) b (S.set i (some r)) := by
  obtain ⟨cs, h1, h2⟩ := h.blk
  have hl := rgC_len h8
  obtain ⟨cs', g1, g2⟩ := heap_setCells_same (rgC r) (i * 17 + 1) w cs h1
  refine ⟨⟨cs', g1, by rw [g2, h2, List.length_set]⟩, fun j hj => ?_, fun j hj => ?_, len_set h.len hi h8⟩
  · rw [List.length_set] at hj
    rw [World.cell?_setCells_out b _ _ _ _ (fun _ _ => by dsimp only; omega), h.one j hj, getD_set S i j _ hi]
    split
    · rename_i e; subst e; rw [hs]; rfl
    · rfl
  · rw [List.length_set] at hj
    rw [getD_set S i j _ hi]
    by_cases e : i = j
    · subst e
      rw [if_pos rfl]
      intro k v hv
      have hk : k < (rgC r).length := (List.getElem?_eq_some_iff.1 hv).1
      rw [World.cell?_setCells_in b _ _ _ (fun m hm => by rw [Nat.add_assoc]; exact h.isThere hi (by omega)) k hk]
      rw [← hv]; simp [stR, List.getElem?_eq_getElem hk]
    · rw [if_neg e]
      intro k v hv
      have hk : k < 16 := by rw [← rgC_len (h.len8 j)]; exact (List.getElem?_eq_some_iff.1 hv).1
      rw [World.cell?_setCells_out b _ _ _ _ (fun _ _ => by dsimp only; omega)]
      exact h.regs j hj k v hv
/-- a state reached for the first time: its first cell, then its ranges -/
theorem StsP.reach {w : World} {b : Nat} {S : Sts} (h : StsP w b S) {i : Nat} (hi : i < S.length) (hz : S.getD i none = none) {r : Rg} (h8 : r.length = 8) : StsP ((w.setCell ⟨b, i * 17, none⟩ (.bool true)).setCells b (i * 17 + 1) (rgC r)) b (S.set i (some r)) := by
  obtain ⟨cs, h1, h2⟩ := h.blk
  have e1 : (w.setCell ⟨b, i * 17, none⟩ (.bool true)).heap[b]? = some (.cells (cs.setIfInBounds (i * 17) (.bool true)) 115 (0, 0)) := by
    rw [setCell_eq_setRow w b (i * 17) _ _ _ _ h1, setRow_heap _ _ _ _ _ _ h1]
  have hc : ∀ k, k ≠ i * 17 → (w.setCell ⟨b, i * 17, none⟩ (.bool true)).cell? ⟨b, k, none⟩ = w.cell? ⟨b, k, none⟩ := fun k hk => World.cell?_setCell_other _ _ _ _ (fun e => hk (by injection e with _ e; exact e.symm))
  have hm : StsP (w.setCell ⟨b, i * 17, none⟩ (.bool true)) b (S.set i (some iniR)) := by
    refine ⟨⟨_, e1, by simp [h2]⟩, fun j hj => ?_, fun j hj => ?_, len_set h.len hi rfl⟩
    · rw [List.length_set] at hj
      rw [getD_set S i j _ hi]
      by_cases e : i = j
      · subst e
        rw [if_pos rfl]
        exact World.cell?_setCell_same _ _ _ (h.one i hi)
      · rw [if_neg e, hc _ (by omega)]; exact h.one j hj
    · rw [List.length_set] at hj
      rw [getD_set S i j _ hi]
      intro k v hv
      have hk : k < 16 := by
        have : (stR (if i = j then some iniR else S.getD j none)).length = 8 := by
          split
          · rfl
          · exact h.len8 j
        rw [← rgC_len this]; exact (List.getElem?_eq_some_iff.1 hv).1
      rw [hc _ (by omega)]
      by_cases e : i = j
      · subst e
        rw [if_pos rfl] at hv
        have := h.regs i hi
        rw [hz] at this
        exact this k v hv
      · rw [if_neg e] at hv; exact h.regs j hj k v hv
  have := hm.regsPut (i := i) (by rw [List.length_set]; exact hi) (by rw [getD_set S i i _ hi, if_pos rfl]; rfl) h8
  rwa [List.set_set] at this
/-! ### the checker -/
abbrev ckC (p : Prg) (v : PV) (b n : Nat) (vt vo : Value) : Array Value := #[.int .i64 p.grow, .int .i64 p.rest, .int .i64 p.extra, .int .i64 p.signs, v.vc, v.vt, v.vx, v.vs, v.vk, v.vv, .slice (some ⟨b, 0, none⟩) n n, vt, vo]
def CkAt (w : World) (g : Nat) (p : Prg) (v : PV) (b n : Nat) (vt vo : Value) : Prop := w.heap[g]? = some (.cells (ckC p v b n vt vo) 107 (0, 0))
theorem CkAt.lt {w : World} {g b n : Nat} {p : Prg} {v : PV} {vt vo : Value} (h : CkAt w g p v b n vt vo) : g < w.heap.size := (Array.getElem?_eq_some_iff.1 h).1
theorem CkAt.cell {w : World} {g b n : Nat} {p : Prg} {v : PV} {vt vo : Value} (h : CkAt w g p v b n vt vo) (k : Nat) : w.cell? ⟨g, k, none⟩ = (ckC p v b n vt vo)[k]? := cell_of_row w g k _ _ _ h
theorem CkAt.free {w : World} {g b n : Nat} {p : Prg} {v : PV} {vt vo : Value} (h : CkAt w g p v b n vt vo) (k : Nat) : w.frozen? ⟨g, k, none⟩ = false := frozen_of_row _ _ _ _ _ h
theorem CkAt.of_heap {w w' : World} {g b n : Nat} {p : Prg} {v : PV} {vt vo : Value} (h : CkAt w g p v b n vt vo) (hb : w'.heap[g]? = w.heap[g]?) : CkAt w' g p v b n vt vo := by unfold CkAt; rw [hb]; exact h
theorem CkAt.todo {w : World} {g b n : Nat} {p : Prg} {v : PV} {vt vo : Value} (h : CkAt w g p v b n vt vo) (x : Value) : CkAt (w.setCell ⟨g, 11, none⟩ x) g p v b n x vo := by
  unfold CkAt at h ⊢
  rw [setCell_eq_setRow w g 11 _ _ _ x h, setRow_heap _ _ _ _ _ _ h]; simp
def tdI (td : List Nat) : List Int := td.map (fun (n : Nat) => (n : Int))
structure CK (B : Nat) (g b : Nat) (p : Prg) (v : PV) (of : Rg) (vo : Value) (S : Sts) (td : List Nat) (vt : Value) (w : World) : Prop where
  ck : CkAt w g p v b S.length vt vo
  sts : StsP w b S
  td : OwnR intC 1 B 3 w vt (tdI td)
  of : OwnR spC 2 B 110 w vo of
  bel : B ≤ g ∧ B ≤ b
section
variable {B g b : Nat} {p : Prg} {v : PV} {of : Rg} {vo vt : Value} {S : Sts} {td : List Nat} {w w' : World}
theorem CK.keep (h : CK B g b p v of vo S td vt w) (hb : Below w.heap.size w w') : CK B g b p v of vo S td vt w' :=
  ⟨h.ck.of_heap (hb.block g h.ck.lt), h.sts.keep hb, h.td.keep hb (Nat.le_refl _), h.of.keep hb (Nat.le_refl _), h.bel⟩
theorem CK.gb (h : CK B g b p v of vo S td vt w) : g ≠ b := fun e => by
  subst e
  obtain ⟨cs, h1, _⟩ := h.sts.blk
  have h2 := h.ck
  unfold CkAt at h2
  rw [h1] at h2
  simp at h2
theorem CK.tdg (h : CK B g b p v of vo S td vt w) {k : Nat} (hk : vt.ownBlock = some k) : k ≠ g ∧ k ≠ b := by
  obtain ⟨cs, fz, h1⟩ := h.td.typed hk
  constructor
  · rintro rfl
    have h2 := h.ck
    unfold CkAt at h2
    rw [h1] at h2
    simp at h2
  · rintro rfl
    obtain ⟨cs', h2, _⟩ := h.sts.blk
    rw [h1] at h2
    simp at h2
theorem CK.ofg (h : CK B g b p v of vo S td vt w) {k : Nat} (hk : vo.ownBlock = some k) : k ≠ g ∧ k ≠ b := by
  obtain ⟨cs, fz, h1⟩ := h.of.typed hk
  constructor
  · rintro rfl
    have h2 := h.ck
    unfold CkAt at h2
    rw [h1] at h2
    simp at h2
  · rintro rfl
    obtain ⟨cs', h2, _⟩ := h.sts.blk
    rw [h1] at h2
    simp at h2
/-- the states' block alone has turned -/
theorem CK.turn (h : CK B g b p v of vo S td vt w) {S' : Sts} (hS : StsP w' b S') (hl : S'.length = S.length) (hb : ∀ k, k ≠ b → w'.heap[k]? = w.heap[k]?) : CK B g b p v of vo S' td vt w' :=
  ⟨by rw [hl]; exact h.ck.of_heap (hb g h.gb), hS, h.td.other (fun k hk => hb k (h.tdg hk).2), h.of.other (fun k hk => hb k (h.ofg hk).2), h.bel⟩
/-- a place more: the row of places has grown (in its own block or in a new one), then it is stored -/
theorem CK.push (h : CK B g b p v of vo S td vt w) {vt' : Value} {td' : List Nat} (ht : OwnR intC 1 B 3 w' vt' (tdI td')) (hk : KeepB 3 w w') : CK B g b p v of vo S td' vt' (w'.setCell ⟨g, 11, none⟩ vt') := by
  have hck : CkAt w' g p v b S.length vt vo := hk _ _ _ _ h.ck (by decide)
  obtain ⟨cs, h1, h2⟩ := h.sts.blk
  have hsb : w'.heap[b]? = w.heap[b]? := by rw [h1]; exact hk _ _ _ _ h1 (by decide)
  have hgb := h.gb
  refine ⟨hck.todo vt', ?_, ?_, ?_, h.bel⟩
  · exact (h.sts.of_heap hsb).of_heap (heap_setCell_other _ _ _ _ (by dsimp only; exact fun e => hgb e.symm))
  · refine ht.setOther fun k hk' e => ?_
    subst e
    obtain ⟨cs', fz, h3⟩ := ht.typed hk'
    unfold CkAt at hck
    rw [h3] at hck
    simp at hck
  · have ho : OwnR spC 2 B 110 w' vo of := h.of.other fun k hk' => by
      obtain ⟨cs', fz, h3⟩ := h.of.typed hk'
      rw [h3]; exact hk _ _ _ _ h3 (by decide)
    exact ho.setOther fun k hk' => (h.ofg hk').1
theorem CK.pop (h : CK B g b p v of vo S td vt w) {vt' : Value} {td' : List Nat} (ht : OwnR intC 1 B 3 w vt' (tdI td')) : CK B g b p v of vo S td' vt' (w.setCell ⟨g, 11, none⟩ vt') := h.push ht (KeepB.refl _ _)
end
end Go.Proofs.Ytbomloodllddaaa
