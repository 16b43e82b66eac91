/- Walk: slices.IndexFunc and slices.ContainsFunc over a row of trees, whatever the predicate. No conditions. -/
import Derived.Test.YtonkenlkigfeoaaDoorPk07
import Derived.Laws.Cells
import Derived.Shelf.Abstract
import Derived.Test.YtonkenlkigfeoaaDoorPk04
import Derived.Test.YtonkenlkigfeoaaDoorPk01
import Derived.WalkLawsBesides
namespace Go.Proofs.YtonkenlkigfeoaaDoor
open Go.RowKit Go.Lib
def reV (r : RN) : Value := .agg (reC r).toArray
/-- an element's cells -/
def Cells8 (w : World) (b n : Nat) (r : RN) : Prop :=
 w.cell? ⟨b, n, none⟩ = some (.int .i64 r.k) ∧ w.cell? ⟨b, n + 1, none⟩ = some (.int .u64 (r.s.1 : Nat)) ∧ w.cell? ⟨b, n + 2, none⟩ = some (.int .u64 (r.s.2.1 : Nat)) ∧ w.cell? ⟨b, n + 3, none⟩ = some (.int .u64 (r.s.2.2.1 : Nat)) ∧
   w.cell? ⟨b, n + 4, none⟩ = some (.int .u64 (r.s.2.2.2 : Nat)) ∧ w.cell? ⟨b, n + 5, none⟩ = some (.int .i64 r.mn) ∧ w.cell? ⟨b, n + 6, none⟩ = some (.int .i64 r.mx) ∧ w.cell? ⟨b, n + 7, none⟩ = some r.v
theorem row_load {w : World} {b off : Nat} {rs : List RN} (h : ∀ (i : Nat) (x : RN) (j : Nat), rs[i]? = some x → j < 8 → w.cell? ⟨b, off + (i * 8 + j), none⟩ = (reC x)[j]?) {i : Nat} {r : RN} (hi : rs[i]? = some r) : Cells8 w b (off + i * 8) r := by
 have hj := fun j (hj : j < 8) => h i r j hi hj
 simp only [← Nat.add_assoc] at hj; exact ⟨hj 0 (by omega), hj 1 (by omega), hj 2 (by omega), hj 3 (by omega), hj 4 (by omega), hj 5 (by omega), hj 6 (by omega), hj 7 (by omega)⟩
theorem Cells8.keep {w w' : World} {B b n : Nat} {r : RN} (h : Cells8 w b n r) (hb : Below B w w') (hB : b < B) : Cells8 w' b n r := by
 obtain ⟨c0, c1, c2, c3, c4, c5, c6, c7⟩ := h; have hc : ∀ k, w'.cell? ⟨b, k, none⟩ = w.cell? ⟨b, k, none⟩ := fun k => hb.cell (p := ⟨b, k, none⟩) hB
 exact ⟨by rw [hc]; exact c0, by rw [hc]; exact c1, by rw [hc]; exact c2, by rw [hc]; exact c3, by rw [hc]; exact c4, by rw [hc]; exact c5, by rw [hc]; exact c6, by rw [hc]; exact c7⟩
theorem alloc_setRow (w : World) (old cs : Array Value) (t : TypeId) (fr : Nat × Nat) : (w.alloc (.cells old t fr)).setRow w.heap.size cs = w.alloc (.cells cs t fr) := by
 unfold World.setRow World.alloc
 congr 1
 apply Array.ext_getElem?; intro i; rw [Array.getElem?_modify]
 by_cases h : w.heap.size = i
 · subst h; simp
 · rw [if_neg h, Array.getElem?_push, Array.getElem?_push, if_neg (by omega), if_neg (by omega)]
/-- a store of a whole value into a variable just laid -/
theorem store_new {P : Program} {o : Oper} {a : Act} {w : World} {K : Act → World → Prop} {Q : Exit → Act → World → Prop} (ty : TypeId) (x y : Operand) (cells : Array Value) {old : Array Value} (ho : o.op = .store ty x y)
   (hx : a.eval x = .pointer (some ⟨w.heap.size, 0, none⟩)) (hy : a.eval y = .agg cells) (hi : (P.info? ty).map (·.size) = some cells.size) (hold : old.size = cells.size) (h1 : cells.all (·.oneCell') = true)
   (h : K (a.put o.dst undef) (w.alloc (.cells cells ty))) : o.wp P a (w.alloc (.cells old ty)) K Q :=
 wp_store_row ty x y ho w.heap.size cells hx hy ty old (Go.heap_alloc_new _ _) hi hold h1 (by rw [alloc_setRow]; exact h)
theorem info_re : (Tryd.prog.info? 33).map (·.size) = some 8 := by kernel_rfl
theorem RowOf.one {w : World} {v : Value} {rs : List RN} (h : RowOf reC 8 w v rs) : v.oneCell' = true := by
 obtain ⟨a, cap, rfl, _⟩ := h.open reC_length; rfl
theorem ReAt.one {w : World} {h : Nat} {r : RN} {t : Re} (hr : ReAt w h r t) : r.v.oneCell' = true := by
 cases h with
 | zero => exact hr.elim
 | succ h =>
   obtain ⟨k, s, mn, mx, kids⟩ := t; obtain ⟨_, _, _, rs, h4, _⟩ := hr; exact h4.one
theorem one_int (k : IntKind) (n : Int) : (Value.int k n).oneCell' = true := rfl
theorem re_one {r : RN} (h : r.v.oneCell' = true) : (reC r).toArray.all (·.oneCell') = true := by simp [reC, h, one_int]
/-- a tree stored into a variable just laid -/
theorem store_re {o : Oper} {a : Act} {w : World} {K : Act → World → Prop} {Q : Exit → Act → World → Prop} {r : RN} (hr : r.v.oneCell' = true) (x y : Operand) {old : Array Value} (ho : o.op = .store 33 x y)
   (hx : a.eval x = .pointer (some ⟨w.heap.size, 0, none⟩)) (hy : a.eval y = reV r) (hold : old.size = 8)
   (h : K (a.put o.dst undef) (w.alloc (.cells (reC r).toArray 33))) : o.wp Tryd.prog a (w.alloc (.cells old 33)) K Q :=
 store_new 33 x y _ ho hx hy info_re hold (re_one hr) h
theorem RowOf.lenOk {w : World} {v : Value} {rs : List RN} (h : RowOf reC 8 w v rs) : rs.length ≤ 9223372036854775807 := by
 obtain ⟨a, cap, _, h1, h2, _⟩ := h.open reC_length; unfold maxLen at h2; omega
section
variable (p : Nat → Bool) (g : Nat) (lb : Array Value)
set_option maxRecDepth 100000 in
theorem index_re (eg : ∀ args w, (callFunc g args).run Tryd.prog w = .ok (.enter g args) w) (rs : List RN) (v : Value) (w : World) (hrow : RowOf reC 8 w v rs)
   (hp : ∀ W, Below w.heap.size w W → ∀ (i : Nat) r, rs[i]? = some r → Calls Tryd.prog g (#[reV r] ++ lb) W fun e w' => e = .returned (.bool (p i)) ∧ Below W.heap.size W w') :
   Calls Tryd.prog 73 #[v, .func (.func g) #[] lb] w fun e w' => (∃ n : Int, e = .returned (.int .i64 n) ∧ (0 ≤ n ↔ ∃ i, i < rs.length ∧ p i = true)) ∧ Below w.heap.size w w' := by
 have hlen := hrow.lenOk; obtain ⟨a, cap, rfl, _, _, hc⟩ := hrow.open reC_length; go_enter Tryd.func73, Tryd.ntmps73; wkk
 go_loopw [5, 8] (fun _ s8 w' => ∃ k : Nat, s8 = .int .i64 k ∧ k ≤ rs.length ∧ Hid (∀ j, j < k → p j = false) ∧ Hid (Below w.heap.size w w')) (fun _ s8 _ => rs.length - (intOf s8).toNat)
 case atStart => exact ⟨0, rfl, Nat.zero_le _, Lib.hid (fun j hj => absurd hj (Nat.not_lt_zero _)), Lib.hid (Below.refl _ _)⟩
 case round =>
   obtain ⟨k, rfl, hk, HA, HB⟩ := hrel
   by_cases hlt : k < rs.length
   · have hlt' : (k : Int) < rs.length := by omega
     rcases hc with hc | ⟨b, off, rfl, hb, hc⟩
     · omega
     obtain ⟨r, hr⟩ : ∃ r, rs[k]? = some r := ⟨_, List.getElem?_eq_getElem hlt⟩; obtain ⟨c0, c1, c2, c3, c4, c5, c6, c7⟩ := (row_load hc hr).keep HB.out hb; have hcall := hp _ HB.out k r hr; simp only [reV, reC] at hcall; obtain ⟨x, hx⟩ : ∃ x, p k = x := ⟨_, rfl⟩; rw [hx] at hcall; have Hx := Lib.hid hx; clear hp hc hx
     cases x with
     | true =>
       wkka (first | (go_at_fn g; refine hcall.mono ?_; rintro e w1 ⟨rfl, hb1⟩; dsimp only)); go_ret; exact ⟨⟨k, rfl, by simp only [Int.natCast_nonneg, true_iff]; exact ⟨k, hlt, Hx.out⟩⟩, HB.out.trans (hb1.mono HB.out.size)⟩
     | false =>
       wkka (first | (go_at_fn g; refine hcall.mono ?_; rintro e w1 ⟨rfl, hb1⟩; dsimp only))
       go_roundw
       · exact ⟨k + 1, by go_num, by omega, Lib.hid (fun j hj => by
           rcases Nat.lt_or_ge j k with h | h
           · exact HA.out j h
           · rw [show j = k by omega]; exact Hx.out), Lib.hid (HB.out.trans (hb1.mono HB.out.size))⟩
       · simp [intOf]; omega
   · have hlt' : ¬ (k : Int) < rs.length := by omega
     have Hk : Hid (k = rs.length) := Lib.hid (by omega); wkk; go_ret; refine ⟨⟨-1, rfl, ?_⟩, HB.out⟩
     constructor
     · intro h; omega
     · rintro ⟨i, hi, h⟩; rw [HA.out i (by have := Hk.out; omega)] at h; cases h
set_option maxRecDepth 100000 in
theorem contains_re (eg : ∀ args w, (callFunc g args).run Tryd.prog w = .ok (.enter g args) w) (rs : List RN) (v : Value) (w : World) (hrow : RowOf reC 8 w v rs)
   (hp : ∀ W, Below w.heap.size w W → ∀ (i : Nat) r, rs[i]? = some r → Calls Tryd.prog g (#[reV r] ++ lb) W fun e w' => e = .returned (.bool (p i)) ∧ Below W.heap.size W w') :
   Calls Tryd.prog 65 #[v, .func (.func g) #[] lb] w fun e w' => e = .returned (.bool ((List.range rs.length).any p)) ∧ Below w.heap.size w w' := by
 have hidx := index_re p g lb eg rs v w hrow hp; clear hp hrow; obtain ⟨B, hB⟩ : ∃ B, (List.range rs.length).any p = B := ⟨_, rfl⟩; rw [hB]; have HB := Lib.hid hB; clear hB; go_enter Tryd.func65, Tryd.ntmps65; wkk; refine Calls.mono (hidx) ?_; rintro _ w1 ⟨⟨n, rfl, hn⟩, hb1⟩; dsimp only; have e : B = decide (0 ≤ n) := by
   rw [← HB.out, Bool.eq_iff_iff, List.any_eq_true, decide_eq_true_iff, hn]; exact ⟨fun ⟨i, hi, h⟩ => ⟨i, List.mem_range.1 hi, h⟩, fun ⟨i, hi, h⟩ => ⟨i, List.mem_range.2 hi, h⟩⟩
 have He := Lib.hid e; clear hn e HB; wkk; go_ret; exact ⟨by rw [He.out]; rfl, hb1⟩
end
open Go.RowKit Go.Lib
/-- the parser: its text, its place, how many brackets are open -/
def PsAt (w : World) (g : Nat) (S : ByteArray) (i d : Nat) : Prop := w.heap[g]? = some (.cells #[.string S, .int .i64 (i : Int), .int .i64 (d : Int)] 101 (0, 0))
section
variable {w : World} {g : Nat} {S : ByteArray} {i d : Nat}
theorem PsAt.c0 (h : PsAt w g S i d) : w.cell? ⟨g, 0, none⟩ = some (.string S) := by rw [cell_of_row w g 0 _ _ _ h]; rfl
theorem PsAt.c1 (h : PsAt w g S i d) : w.cell? ⟨g, 1, none⟩ = some (.int .i64 (i : Int)) := by rw [cell_of_row w g 1 _ _ _ h]; rfl
theorem PsAt.c2 (h : PsAt w g S i d) : w.cell? ⟨g, 2, none⟩ = some (.int .i64 (d : Int)) := by rw [cell_of_row w g 2 _ _ _ h]; rfl
theorem PsAt.c3 (h : PsAt w g S i d) (k : Nat) (hk : 3 ≤ k) : w.cell? ⟨g, k, none⟩ = none := by rw [cell_of_row w g k _ _ _ h]; exact Array.getElem?_eq_none hk
theorem PsAt.free (h : PsAt w g S i d) (k : Nat) : w.frozen? ⟨g, k, none⟩ = false := frozen_of_row _ _ _ _ _ h
theorem PsAt.lt (h : PsAt w g S i d) : g < w.heap.size := (Array.getElem?_eq_some_iff.1 h).1
theorem PsAt.keep {w' : World} (h : PsAt w g S i d) (hb : Below w.heap.size w w') : PsAt w' g S i d := by unfold PsAt; rw [hb.block g h.lt]; exact h
theorem PsAt.keepB {w' : World} {B : Nat} (h : PsAt w g S i d) (hb : Below B w w') (hB : g < B) : PsAt w' g S i d := by unfold PsAt; rw [hb.block g hB]; exact h
theorem PsAt.set1 (h : PsAt w g S i d) (x : Nat) : PsAt (w.setCell ⟨g, 1, none⟩ (.int .i64 (x : Int))) g S x d := by
 unfold PsAt; rw [setCell_eq_setRow _ _ _ _ _ _ _ h, setRow_heap _ _ _ _ _ _ h]; simp
theorem PsAt.set2 (h : PsAt w g S i d) (x : Nat) : PsAt (w.setCell ⟨g, 2, none⟩ (.int .i64 (x : Int))) g S i x := by
 unfold PsAt; rw [setCell_eq_setRow _ _ _ _ _ _ _ h, setRow_heap _ _ _ _ _ _ h]; simp
theorem PsAt.new (w : World) (S : ByteArray) : PsAt (w.alloc (.cells #[.string S, .int .i64 0, .int .i64 0] 101)) w.heap.size S 0 0 := Go.heap_alloc_new _ _
theorem PsAt.setOther {q o : Nat} {u : Value} (h : PsAt w g S i d) (hq : q ≠ g) : PsAt (w.setCell ⟨q, o, none⟩ u) g S i d := by
 unfold PsAt; rw [show (w.setCell ⟨q, o, none⟩ u).heap[g]? = w.heap[g]? from Below.heap_setCell _ _ _ _ (by dsimp only; omega)]; exact h
end
theorem byte_is (S : ByteArray) (i : Nat) (hi : i < S.size) (w : World) : (Instr.index 9 (.string S) (.int .i64 (i : Int))).run Tryd.prog w = .ok (.int .u8 ((bt S.data.toList i : Nat) : Int)) w := by
 have hl : i < S.data.toList.length := by rw [ba_len]; exact hi
 have hx : S.data.toList.getD i 0 = S.data.toList[i] := by rw [List.getD_eq_getElem?_getD, List.getElem?_eq_getElem hl]; rfl
 have hi' : 0 ≤ (i : Int) ∧ (i : Int) < (S.size : Int) := by omega
 unfold bt; rw [run_index_string w _ _ _ _ Tryd.underlying9, dif_pos hi', hx]; rfl
theorem bt_lt (s : List UInt8) (i : Nat) : bt s i < 256 := by unfold bt; exact UInt8.toNat_lt _
/-- what a failing of the parser is -/
def stopV (e i : Nat) : Value := .iface 98 (.agg #[.int .i64 (e : Int), .int .i64 (i : Int)])
def stopE (e i : Nat) : Ending := .panicked [{ v := stopV e i, recovered := false }]
set_option maxRecDepth 100000 in
theorem ps_fail (g : Nat) (S : ByteArray) (i d : Nat) (w : World) (h : PsAt w g S i d) :
   Calls Tryd.prog 64 #[.pointer (some ⟨g, 0, none⟩)] w fun e w' => e = stopE 60 i ∧ w' = w := by
 have c1 := h.c1; go_enter Tryd.func64, Tryd.ntmps64; wkk; exact ⟨rfl, rfl, rfl⟩
set_option maxRecDepth 100000 in
theorem ps_is (g : Nat) (S : ByteArray) (i d c : Nat) (w : World) (h : PsAt w g S i d) :
   Calls Tryd.prog 74 #[.pointer (some ⟨g, 0, none⟩), .int .u8 (c : Int)] w fun e w' => e = .returned (.bool (decide (isC S.data.toList i c))) ∧ Below w.heap.size w w' := by
 have q0 : ∀ nq : WB w, nq.1.cell? ⟨g, 0, none⟩ = some (.string S) := fun nq => (h.keep nq.2).c0
 have q1 : ∀ nq : WB w, nq.1.cell? ⟨g, 1, none⟩ = some (.int .i64 (i : Int)) := fun nq => (h.keep nq.2).c1
 clear h; obtain ⟨B, hB⟩ : ∃ B, decide (isC S.data.toList i c) = B := ⟨_, rfl⟩; rw [hB]; have HB := Lib.hid hB; clear hB
 by_cases hlt : i < S.size
 · have hlt' : (i : Int) < S.size := by omega
   have hx := byte_is S i hlt; have HB2 : Hid (((bt S.data.toList i : Nat) : Int) = c → B = true) := Lib.hid fun h => by rw [← HB.out]; exact decide_eq_true ⟨by rw [ba_len]; exact hlt, by omega⟩
   have HB3 : Hid (¬ ((bt S.data.toList i : Nat) : Int) = c → B = false) := Lib.hid fun h => by rw [← HB.out]; exact decide_eq_false fun q => h (by rw [q.2])
   generalize bt S.data.toList i = x at hx HB2 HB3; clear HB hlt
   by_cases hc : (x : Int) = c
   · have hd : ((x : Int) == c) = true := by rw [beq_iff_eq]; exact hc
     have e := HB2.out hc; subst e; clear hc HB2 HB3; go_enter Tryd.func74, Tryd.ntmps74; wkk; refine wp_region_wb (by kernel_rfl) (by kernel_rfl) w (Below.refl _ _) ?_
     repeat (go_big_quiet_step ((fail)))
     refine wpQuiet_nil ?_; rintro _ ⟨nq, rfl⟩; have hnq := nq.2; wkk; go_ret; exact ⟨rfl, hnq⟩
   · have hd : ((x : Int) == c) = false := beq_false_of_ne hc; have e := HB3.out hc; subst e; clear hc HB2 HB3; go_enter Tryd.func74, Tryd.ntmps74; wkk; refine wp_region_wb (by kernel_rfl) (by kernel_rfl) w (Below.refl _ _) ?_
     repeat (go_big_quiet_step ((fail)))
     refine wpQuiet_nil ?_; rintro _ ⟨nq, rfl⟩; have hnq := nq.2; wkk; go_ret; exact ⟨rfl, hnq⟩
 · have hlt' : ¬ (i : Int) < S.size := by omega
   have e : B = false := by rw [← HB.out]; exact decide_eq_false fun q => hlt (by have := q.1; rw [ba_len] at this; exact this)
   subst e; clear HB hlt; go_enter Tryd.func74, Tryd.ntmps74; wkk; refine wp_region_wb (by kernel_rfl) (by kernel_rfl) w (Below.refl _ _) ?_
   repeat (go_big_quiet_step ((fail)))
   refine wpQuiet_nil ?_; rintro _ ⟨nq, rfl⟩; have hnq := nq.2; wkk; go_ret; exact ⟨rfl, hnq⟩
theorem ps_is_y (g : Nat) (S : ByteArray) (i d c : Nat) (w : World) (h : PsAt w g S i d) (hc : isC S.data.toList i c) :
   Calls Tryd.prog 74 #[.pointer (some ⟨g, 0, none⟩), .int .u8 (c : Int)] w fun e w' => e = .returned (.bool true) ∧ Below w.heap.size w w' := by
 have := ps_is g S i d c w h; rwa [decide_eq_true hc] at this
theorem ps_is_n (g : Nat) (S : ByteArray) (i d c : Nat) (w : World) (h : PsAt w g S i d) (hc : ¬ isC S.data.toList i c) :
   Calls Tryd.prog 74 #[.pointer (some ⟨g, 0, none⟩), .int .u8 (c : Int)] w fun e w' => e = .returned (.bool false) ∧ Below w.heap.size w w' := by
 have := ps_is g S i d c w h; rwa [decide_eq_false hc] at this
set_option maxRecDepth 100000 in
theorem ps_take_y (g : Nat) (S : ByteArray) (i d c : Nat) (hi : i ≤ 512) (w : World) (h : PsAt w g S i d) (hc : isC S.data.toList i c) :
   Calls Tryd.prog 71 #[.pointer (some ⟨g, 0, none⟩), .int .u8 (c : Int)] w fun e w' => e = .returned (.bool true) ∧ PsAt w' g S (i + 1) d ∧ Else g w w' := by
 have hcall := ps_is_y g S i d c w h hc; have H := Lib.hid h; clear h hc; have hw : IntKind.i64.wrap ((i : Int) + 1) = ((i + 1 : Nat) : Int) := by rw [wi64 (by unfold I64; omega)]; omega
 obtain ⟨j, hj⟩ : ∃ j, i + 1 = j := ⟨_, rfl⟩; rw [hj] at hw ⊢; clear hj; go_enter Tryd.func71, Tryd.ntmps71; wkk; refine Calls.mono (hcall) ?_; rintro _ w1 ⟨rfl, hb⟩; dsimp only; have H1 := Lib.hid (H.out.keep hb); have He := Lib.hid (Else.of_below (g := g) hb); have c1 := H1.out.c1; have f1 := H1.out.free 1; clear hcall H hb; wkk; go_ret; exact ⟨rfl, H1.out.set1 _, He.out.setCell _ _⟩
set_option maxRecDepth 100000 in
theorem ps_take_n (g : Nat) (S : ByteArray) (i d c : Nat) (w : World) (h : PsAt w g S i d) (hc : ¬ isC S.data.toList i c) :
   Calls Tryd.prog 71 #[.pointer (some ⟨g, 0, none⟩), .int .u8 (c : Int)] w fun e w' => e = .returned (.bool false) ∧ Below w.heap.size w w' := by
 have hcall := ps_is_n g S i d c w h hc; clear h hc; go_enter Tryd.func71, Tryd.ntmps71; wkk; refine Calls.mono (hcall) ?_; rintro _ w1 ⟨rfl, hb⟩; dsimp only; have HB := Lib.hid hb; clear hcall hb; wkk; go_ret; exact ⟨rfl, HB.out⟩
set_option maxRecDepth 100000 in
theorem ps_must_y (g : Nat) (S : ByteArray) (i d c : Nat) (hi : i ≤ 512) (w : World) (h : PsAt w g S i d) (hc : isC S.data.toList i c) :
   Calls Tryd.prog 78 #[.pointer (some ⟨g, 0, none⟩), .int .u8 (c : Int)] w fun e w' => e = .returned (.tuple #[]) ∧ PsAt w' g S (i + 1) d ∧ Else g w w' := by
 have hcall := ps_take_y g S i d c hi w h hc; clear h hc; go_enter Tryd.func78, Tryd.ntmps78; wkk; refine Calls.mono (hcall) ?_; rintro _ w1 ⟨rfl, hp, he⟩; dsimp only; have HP := Lib.hid hp; have HE := Lib.hid he; clear hcall hp he; wkk; go_end0; exact ⟨rfl, HP.out, HE.out⟩
set_option maxRecDepth 100000 in
theorem ps_must_n (g : Nat) (S : ByteArray) (i d c : Nat) (w : World) (h : PsAt w g S i d) (hc : ¬ isC S.data.toList i c) :
   Calls Tryd.prog 78 #[.pointer (some ⟨g, 0, none⟩), .int .u8 (c : Int)] w fun e w' => e = stopE 60 i ∧ Else g w w' := by
 have hcall := ps_take_n g S i d c w h hc; have H := Lib.hid h; clear h hc; go_enter Tryd.func78, Tryd.ntmps78; wkk; refine Calls.mono (hcall) ?_; rintro _ w1 ⟨rfl, hb⟩; dsimp only; have hf := ps_fail g S i d w1 (H.out.keep hb); have HB := Lib.hid (Else.of_below (g := g) hb); clear hcall hb H; wkk; refine Calls.mono hf ?_; rintro _ w2 ⟨rfl, rfl⟩; exact ⟨rfl, rfl, HB.out⟩
open Go.RowKit Go.Lib
/-- what the parser holds besides its text and its places -/
structure CV where
 r : RN
 p : Value
 m : Value
 n : Value
 b : Value
 a : Value
 sp : Bool
 mp : Nat
abbrev pcC (S : ByteArray) (i en bg : Nat) (V : CV) : Array Value := #[.string S, .int .i64 (i : Int), .int .i64 (en : Int), .int .i64 (bg : Int), V.p, .int .i64 V.r.k, .int .u64 (V.r.s.1 : Nat), .int .u64 (V.r.s.2.1 : Nat), .int .u64 (V.r.s.2.2.1 : Nat), .int .u64 (V.r.s.2.2.2 : Nat), .int .i64 V.r.mn, .int .i64 V.r.mx, V.r.v, V.m, V.n, V.b, V.a, .bool V.sp, .map (some V.mp)]
def PcAt (w : World) (g : Nat) (S : ByteArray) (i en bg : Nat) (V : CV) : Prop := w.heap[g]? = some (.cells (pcC S i en bg V) 49 (0, 0))
section
variable {w : World} {g : Nat} {S : ByteArray} {i en bg : Nat} {V : CV}
theorem PcAt.c0 (h : PcAt w g S i en bg V) : w.cell? ⟨g, 0, none⟩ = some (.string S) := by rw [cell_of_row w g 0 _ _ _ h]; rfl
theorem PcAt.c1 (h : PcAt w g S i en bg V) : w.cell? ⟨g, 1, none⟩ = some (.int .i64 (i : Int)) := by rw [cell_of_row w g 1 _ _ _ h]; rfl
theorem PcAt.c2 (h : PcAt w g S i en bg V) : w.cell? ⟨g, 2, none⟩ = some (.int .i64 (en : Int)) := by rw [cell_of_row w g 2 _ _ _ h]; rfl
theorem PcAt.c3 (h : PcAt w g S i en bg V) : w.cell? ⟨g, 3, none⟩ = some (.int .i64 (bg : Int)) := by rw [cell_of_row w g 3 _ _ _ h]; rfl
theorem PcAt.c4 (h : PcAt w g S i en bg V) : w.cell? ⟨g, 4, none⟩ = some V.p := by rw [cell_of_row w g 4 _ _ _ h]; rfl
theorem PcAt.c13 (h : PcAt w g S i en bg V) : w.cell? ⟨g, 13, none⟩ = some V.m := by rw [cell_of_row w g 13 _ _ _ h]; rfl
theorem PcAt.c14 (h : PcAt w g S i en bg V) : w.cell? ⟨g, 14, none⟩ = some V.n := by rw [cell_of_row w g 14 _ _ _ h]; rfl
theorem PcAt.c15 (h : PcAt w g S i en bg V) : w.cell? ⟨g, 15, none⟩ = some V.b := by rw [cell_of_row w g 15 _ _ _ h]; rfl
theorem PcAt.c16 (h : PcAt w g S i en bg V) : w.cell? ⟨g, 16, none⟩ = some V.a := by rw [cell_of_row w g 16 _ _ _ h]; rfl
theorem PcAt.c17 (h : PcAt w g S i en bg V) : w.cell? ⟨g, 17, none⟩ = some (.bool V.sp) := by rw [cell_of_row w g 17 _ _ _ h]; rfl
theorem PcAt.c18 (h : PcAt w g S i en bg V) : w.cell? ⟨g, 18, none⟩ = some (.map (some V.mp)) := by rw [cell_of_row w g 18 _ _ _ h]; rfl
theorem PcAt.free (h : PcAt w g S i en bg V) (k : Nat) : w.frozen? ⟨g, k, none⟩ = false := frozen_of_row _ _ _ _ _ h
theorem PcAt.lt (h : PcAt w g S i en bg V) : g < w.heap.size := (Array.getElem?_eq_some_iff.1 h).1
theorem PcAt.keep {w' : World} (h : PcAt w g S i en bg V) (hb : Below w.heap.size w w') : PcAt w' g S i en bg V := by unfold PcAt; rw [hb.block g h.lt]; exact h
theorem PcAt.keepB {w' : World} {B : Nat} (h : PcAt w g S i en bg V) (hb : Below B w w') (hB : g < B) : PcAt w' g S i en bg V := by unfold PcAt; rw [hb.block g hB]; exact h
theorem PcAt.els {w' : World} {q : Nat} (h : PcAt w g S i en bg V) (he : Else q w w') (hne : g ≠ q) : PcAt w' g S i en bg V := he.row h hne
theorem PcAt.set {o : Nat} {u : Value} {j e2 b2 : Nat} {V' : CV} (h : PcAt w g S i en bg V) (e : (pcC S i en bg V).setIfInBounds o u = pcC S j e2 b2 V') : PcAt (w.setCell ⟨g, o, none⟩ u) g S j e2 b2 V' := by
 unfold PcAt; rw [setCell_eq_setRow _ _ _ _ _ _ _ h, setRow_heap _ _ _ _ _ _ h, e]
theorem PcAt.set1 (h : PcAt w g S i en bg V) (x : Nat) : PcAt (w.setCell ⟨g, 1, none⟩ (.int .i64 (x : Int))) g S x en bg V := h.set (by simp)
theorem PcAt.set2 (h : PcAt w g S i en bg V) (x : Nat) : PcAt (w.setCell ⟨g, 2, none⟩ (.int .i64 (x : Int))) g S i x bg V := h.set (by simp)
theorem PcAt.set3 (h : PcAt w g S i en bg V) (x : Nat) : PcAt (w.setCell ⟨g, 3, none⟩ (.int .i64 (x : Int))) g S i en x V := h.set (by simp)
theorem PcAt.set4 (h : PcAt w g S i en bg V) (u : Value) : PcAt (w.setCell ⟨g, 4, none⟩ u) g S i en bg { V with p := u } := h.set (by simp)
theorem PcAt.set13 (h : PcAt w g S i en bg V) (u : Value) : PcAt (w.setCell ⟨g, 13, none⟩ u) g S i en bg { V with m := u } := h.set (by simp)
theorem PcAt.set14 (h : PcAt w g S i en bg V) (u : Value) : PcAt (w.setCell ⟨g, 14, none⟩ u) g S i en bg { V with n := u } := h.set (by simp)
theorem PcAt.set15 (h : PcAt w g S i en bg V) (u : Value) : PcAt (w.setCell ⟨g, 15, none⟩ u) g S i en bg { V with b := u } := h.set (by simp)
theorem PcAt.set16 (h : PcAt w g S i en bg V) (u : Value) : PcAt (w.setCell ⟨g, 16, none⟩ u) g S i en bg { V with a := u } := h.set (by simp)
theorem PcAt.set17 (h : PcAt w g S i en bg V) (u : Bool) : PcAt (w.setCell ⟨g, 17, none⟩ (.bool u)) g S i en bg { V with sp := u } := h.set (by simp)
theorem PcAt.setOther {q o : Nat} {u : Value} (h : PcAt w g S i en bg V) (hq : q ≠ g) : PcAt (w.setCell ⟨q, o, none⟩ u) g S i en bg V := by
 unfold PcAt; rw [show (w.setCell ⟨q, o, none⟩ u).heap[g]? = w.heap[g]? from Below.heap_setCell _ _ _ _ (by dsimp only; omega)]; exact h
end
/-- what a failing of the parser is -/
def cstopE (e i : Nat) : Ending := .panicked [{ v := .iface 45 (.agg #[.int .i64 (e : Int), .int .i64 (i : Int)]), recovered := false }]
/-- what a part of the parser tells -/
def CPo {α : Type} (ret : α → Value) (g : Nat) (S : ByteArray) (en bg : Nat) (V : CV) (w : World) (x : PR α) (e : Ending) (w' : World) : Prop :=
 match x with
 | .ok a j => e = .returned (ret a) ∧ PcAt w' g S j en bg V ∧ Else g w w'
 | .bad e0 j => e = cstopE e0 j ∧ Else g w w'
 | .out => False
section
variable {α : Type} {ret : α → Value} {g : Nat} {S : ByteArray} {en bg : Nat} {V : CV} {w : World} {x : PR α} {e : Ending} {w' : World}
theorem CPo.okI {a : α} {j : Nat} (hx : x = .ok a j) (h : e = .returned (ret a) ∧ PcAt w' g S j en bg V ∧ Else g w w') : CPo ret g S en bg V w x e w' := by subst hx; exact h
theorem CPo.badI {a j : Nat} (hx : x = .bad a j) (h : e = cstopE a j ∧ Else g w w') : CPo ret g S en bg V w x e w' := by subst hx; exact h
end
abbrev retU (_ : Unit) : Value := .tuple #[]
abbrev retB (n : Nat) : Value := .int .u8 (n : Int)
set_option maxRecDepth 100000 in
theorem cf_fail (p : Value) (e i : Nat) (w : World) :
   Calls Tryd.prog 32 #[p, .int .i64 (e : Int), .int .i64 (i : Int)] w fun e' w' => e' = cstopE e i ∧ w' = w := by
 go_enter Tryd.func32, Tryd.ntmps32; wkk; exact ⟨rfl, rfl, rfl⟩
set_option maxRecDepth 100000 in
theorem cf_done (g : Nat) (S : ByteArray) (i en bg : Nat) (V : CV) (w : World) (h : PcAt w g S i en bg V) :
   Calls Tryd.prog 14 #[.pointer (some ⟨g, 0, none⟩)] w (CPo retU g S en bg V w (doneR en i)) := by
 obtain ⟨X, hX⟩ : ∃ X, doneR en i = X := ⟨_, rfl⟩; rw [hX]; unfold doneR at hX; have q1 : ∀ nq : WB w, nq.1.cell? ⟨g, 1, none⟩ = some (.int .i64 (i : Int)) := fun nq => (h.keep nq.2).c1
 have q2 : ∀ nq : WB w, nq.1.cell? ⟨g, 2, none⟩ = some (.int .i64 (en : Int)) := fun nq => (h.keep nq.2).c2
 have H := Lib.hid h; clear h
 by_cases hlt : i < en
 · rw [if_pos hlt] at hX; have hlt' : (i : Int) < en := by omega
   have HX := Lib.hid hX.symm; clear hX hlt; go_enter Tryd.func14, Tryd.ntmps14; wkk; refine wp_region_wb (by kernel_rfl) (by kernel_rfl) w (Below.refl _ _) ?_
   repeat (go_big_quiet_step ((fail)))
   refine wpQuiet_nil ?_; rintro _ ⟨nq, rfl⟩; have hnq := nq.2; have H1 := Lib.hid (H.out.keep hnq); have c1 := H1.out.c1; have He := Lib.hid (Else.of_below (g := g) hnq); clear q1 q2 hnq; wkk; have hf := cf_fail (.pointer (some ⟨g, 0, none⟩)) 170 i nq.1; refine Calls.mono hf ?_; rintro _ w2 ⟨rfl, rfl⟩; exact ⟨rfl, CPo.badI HX.out ⟨rfl, He.out⟩⟩
 · rw [if_neg hlt] at hX; have hlt' : ¬ (i : Int) < en := by omega
   have HX := Lib.hid hX.symm; clear hX hlt; go_enter Tryd.func14, Tryd.ntmps14; wkk; refine wp_region_wb (by kernel_rfl) (by kernel_rfl) w (Below.refl _ _) ?_
   repeat (go_big_quiet_step ((fail)))
   refine wpQuiet_nil ?_; rintro _ ⟨nq, rfl⟩; have hnq := nq.2; have H1 := Lib.hid (H.out.keep hnq); have He := Lib.hid (Else.of_below (g := g) hnq); clear q1 q2 hnq; wkk; go_end0; exact CPo.okI HX.out ⟨rfl, H1.out, He.out⟩
open Go.RowKit Go.Lib
theorem ReAt.kids {w : World} {h : Nat} {r : RN} {t : Re} (hr : ReAt w (h + 1) r t) : ∃ rs : List RN, RowOf reC 8 w r.v rs ∧ rs.length = t.kids.length ∧ ∀ (i : Nat) (r' : RN), rs[i]? = some r' → ∃ t', t.kids[i]? = some t' ∧ ReAt w h r' t' := by
 obtain ⟨k, s, mn, mx, kids⟩ := t; obtain ⟨_, _, _, rs, h4, h5, h6⟩ := hr; refine ⟨rs, h4, h5, fun i r' hi => ?_⟩; have : i < kids.length := by rw [← h5]; exact (List.getElem?_eq_some_iff.1 hi).1
 exact ⟨_, List.getElem?_eq_getElem this, h6 i r' _ hi (List.getElem?_eq_getElem this)⟩
theorem enters_deep1 : ∀ args w, (callFunc 66 args).run Tryd.prog w = .ok (.enter 66 args) w := enters_of Tryd.func66 (by kernel_rfl) rfl
section
variable {h : Nat} (IH : ∀ (r : RN) (t : Re) (m : Nat) (w : World), m ≤ 1000 → ReAt w h r t → Calls Tryd.prog 51 #[reV r, .int .i64 m] w fun e w' => e = .returned (.bool (decide (m < dep h t))) ∧ Below w.heap.size w w')
include IH
set_option maxRecDepth 100000 in
theorem deep_1 (r : RN) (t : Re) (m g : Nat) (w : World) (hm : m < 1000) (hr : ReAt w h r t) (hg : g < w.heap.size) (hc : w.cell? ⟨g, 0, none⟩ = some (.int .i64 ((m : Int) + 1))) :
   Calls Tryd.prog 66 (#[reV r] ++ #[.pointer (some ⟨g, 0, none⟩)]) w fun e w' => e = .returned (.bool (decide (m < dep h t))) ∧ Below w.heap.size w w' := by
 have hcall := IH r t m (w.alloc (.cells (reC r).toArray 33)) (by omega) (hr.keep ((Below.refl _ _).alloc (Nat.le_refl _) _)); have HB : Hid (Below w.heap.size w (w.alloc (.cells (reC r).toArray 33))) := Lib.hid ((Below.refl _ _).alloc (Nat.le_refl _) _); clear IH; have hc1 : (w.alloc (.cells (reC r).toArray 33)).cell? ⟨g, 0, none⟩ = some (.int .i64 ((m : Int) + 1)) := by rw [HB.out.cell hg]; exact hc
 clear hc; simp only [reV, reC] at hcall hc1 HB ⊢; show Calls Tryd.prog 66 #[_, _] w _; go_enter Tryd.func66, Tryd.ntmps66; wkk; refine Calls.mono (hcall) ?_; rintro _ w1 ⟨rfl, hb1⟩; dsimp only; clear hcall; wkk; go_ret; exact ⟨rfl, HB.out.trans (hb1.mono HB.out.size)⟩
set_option maxRecDepth 100000 in
theorem deep_next (r : RN) (t : Re) (m : Nat) (w : World) (hm : m ≤ 1000) (hr : ReAt w (h + 1) r t) :
   Calls Tryd.prog 51 #[reV r, .int .i64 m] w fun e w' => e = .returned (.bool (decide (m < dep (h + 1) t))) ∧ Below w.heap.size w w' := by
 have HB : Hid (Below w.heap.size w ((w.alloc (.cells (reC r).toArray 33)).alloc (.cells #[.int .i64 (m : Int)] 3))) := Lib.hid (((Below.refl _ _).alloc (Nat.le_refl _) _).alloc (by simp) _)
 by_cases h0 : m = 0
 · subst h0; have e : decide (0 < dep (h + 1) t) = true := by simp [dep_pos]
   rw [e]; clear IH hr e; simp only [reV, reC] at HB ⊢; go_enter Tryd.func51, Tryd.ntmps51; wkk; go_ret; exact ⟨rfl, HB.out⟩
 · obtain ⟨n, rfl⟩ : ∃ n, m = n + 1 := ⟨m - 1, by omega⟩; rw [dep_lt]; obtain ⟨rs, hrow, hlen, hk⟩ := hr.kids
   have hcon := contains_re (fun i => (t.kids[i]?.map fun k => decide (n < dep h k)).getD false) 66 #[.pointer (some ⟨w.heap.size + 1, 0, none⟩)] enters_deep1 rs r.v _ (hrow.keep HB.out) (fun W hW i r' hi => by
     obtain ⟨t', ht', hr'⟩ := hk i r' hi; simp only [ht', Option.map_some, Option.getD_some]; have hg := Go.heap_alloc_new (w.alloc (.cells (reC r).toArray 33)) (.cells #[.int .i64 ((n + 1 : Nat) : Int)] 3); have hs : (w.alloc (.cells (reC r).toArray 33)).heap.size = w.heap.size + 1 := by simp
     rw [hs] at hg; have hlt : w.heap.size + 1 < ((w.alloc (.cells (reC r).toArray 33)).alloc (.cells #[.int .i64 ((n + 1 : Nat) : Int)] 3)).heap.size := by simp
     refine deep_1 IH r' t' n (w.heap.size + 1) W (by omega) (hr'.keep (HB.out.trans (hW.mono HB.out.size))) (Nat.lt_of_lt_of_le hlt hW.size) ?_; rw [hW.cell hlt, cell_of_row _ _ _ _ _ _ hg]
     rfl)
   have e : (List.range rs.length).any (fun i => (t.kids[i]?.map fun k => decide (n < dep h k)).getD false) = t.kids.any fun k => decide (n < dep h k) := by
     rw [hlen]; exact range_any _ _ _ fun i a hi => by simp [hi]
   rw [e] at hcon; obtain ⟨B, hB⟩ : ∃ B, (t.kids.any fun k => decide (n < dep h k)) = B := ⟨_, rfl⟩; rw [hB] at hcon ⊢; clear IH hk hrow hlen hB e h0; have ec : ((n + 1 : Nat) : Int) = (n : Int) + 1 := by omega
   rw [ec] at hcon HB ⊢; clear ec; have hne : ((n : Int) + 1 == 0) = false := beq_false_of_ne (by omega); simp only [reV, reC] at hcon HB ⊢; go_enter Tryd.func51, Tryd.ntmps51; wkk; refine Calls.mono (hcon) ?_; rintro _ w1 ⟨rfl, hb1⟩; dsimp only; clear hcon; wkk; go_ret; exact ⟨rfl, HB.out.trans (hb1.mono HB.out.size)⟩
end
/-- is a tree deeper? -/
theorem regex_deep : ∀ (h : Nat) (r : RN) (t : Re) (m : Nat) (w : World), m ≤ 1000 → ReAt w h r t → Calls Tryd.prog 51 #[reV r, .int .i64 m] w fun e w' => e = .returned (.bool (decide (m < dep h t))) ∧ Below w.heap.size w w'
 | 0, _, _, _, _, _, hr => hr.elim
 | _ + 1, r, t, m, w, hm, hr => deep_next (regex_deep _) r t m w hm hr
open Go.RowKit Go.Lib
section
variable {h : Nat} (IH : ∀ (r : RN) (t : Re) (m : Nat) (w : World), m ≤ 1000 → ReAt w h r t → Calls Tryd.prog 52 #[reV r, .int .i64 m] w fun e w' => e = .returned (.int .i64 (min (cnt h t) (m + 1) : Nat)) ∧ Below w.heap.size w w')
include IH
set_option maxRecDepth 100000 in
theorem nodes_next (r : RN) (t : Re) (m : Nat) (w : World) (hm : m ≤ 1000) (hr : ReAt w (h + 1) r t) :
   Calls Tryd.prog 52 #[reV r, .int .i64 m] w fun e w' => e = .returned (.int .i64 (min (cnt (h + 1) t) (m + 1) : Nat)) ∧ Below w.heap.size w w' := by
 have HB : Hid (Below w.heap.size w (w.alloc (.cells (reC r).toArray 33))) := Lib.hid ((Below.refl _ _).alloc (Nat.le_refl _) _); obtain ⟨rs, hrow, hlen, hk⟩ := hr.kids; have hl := hrow.lenOk; obtain ⟨a, cap, hv, _, _, hc⟩ := hrow.open reC_length; obtain ⟨rk, rset, rmn, rmx, rv⟩ := r; simp only at hv; subst hv; obtain ⟨N, hN⟩ : ∃ N : Nat, min (cnt (h + 1) t) (m + 1) = N := ⟨_, rfl⟩; rw [hN]; rw [cnt] at hN; have HN := Lib.hid hN; have HL := Lib.hid hlen; clear hN hlen hr; simp only [reV, reC] at HB ⊢; go_enter Tryd.func52, Tryd.ntmps52; wkk
 go_loopw [5, 11] (fun s5 s11 w' => ∃ k n : Nat, s11 = .int .i64 k ∧ k ≤ rs.length ∧ s5 = .int .i64 n ∧ 1 ≤ n ∧ n ≤ m + 1 ∧ Hid (n = min (1 + cntTo h t.kids k) (m + 1)) ∧ Hid (Below w.heap.size w w')) (fun _ s11 _ => rs.length - (intOf s11).toNat)
 case atStart => exact ⟨0, 1, rfl, Nat.zero_le _, rfl, Nat.le_refl _, by omega, Lib.hid (by rw [cntTo_zero]; omega), HB⟩
 case round =>
   obtain ⟨k, n, rfl, hkl, rfl, hn1, hn2, HC, HW⟩ := hrel
   by_cases hlt : k < rs.length
   · have hlt' : (k : Int) < rs.length := by omega
     rcases hc with hc | ⟨b, off, rfl, hb, hc⟩
     · omega
     obtain ⟨r', hr'⟩ : ∃ r', rs[k]? = some r' := ⟨_, List.getElem?_eq_getElem hlt⟩; obtain ⟨t', ht', hrt⟩ := hk k r' hr'; obtain ⟨c0, c1, c2, c3, c4, c5, c6, c7⟩ := (row_load hc hr').keep HW.out hb
     by_cases hnm : n ≤ m
     · have hnm' : ¬ (n : Int) > m := by omega
       have HBr : Hid (Below wr.heap.size wr (wr.alloc (.cells (reC r').toArray 33))) := Lib.hid ((Below.refl _ _).alloc (Nat.le_refl _) _); have hcall := IH r' t' (m - n) _ (by omega) (hrt.keep (HW.out.trans (HBr.out.mono HW.out.size))); rw [show ((m - n : Nat) : Int) = (m : Int) - n by omega] at hcall; have Hs := Lib.hid (cntTo_succ (h := h) ht'); obtain ⟨x, hx⟩ : ∃ x : Nat, min (cnt h t') (m - n + 1) = x := ⟨_, rfl⟩; have hxm : x ≤ m - n + 1 := by omega
       have hx2 : x ≤ 1001 := by omega
       have Hx := Lib.hid hx; rw [hx] at hcall; have hone := hrt.one; clear IH hk hc ht' hx; have Hxm := Lib.hid hxm; clear hxm; simp only [reV, reC] at hcall HBr; wkka (first | (refine store_re (r := r') hone _ _ rfl rfl rfl rfl ?_; simp only [reC])); refine Calls.mono (hcall) ?_; rintro _ w1 ⟨rfl, hb1⟩; dsimp only; clear hcall; wkk
       go_roundw
       · exact ⟨k + 1, n + x, by go_num, by omega, by go_num, by omega, by have := Hxm.out; omega, Lib.hid (by have := Hs.out; have := HC.out; have := Hx.out; omega), Lib.hid (HW.out.trans ((HBr.out.trans (hb1.mono HBr.out.size)).mono HW.out.size))⟩
       · simp [intOf]; omega
     · have hnm' : (n : Int) > m := by omega
       have hone := (hk k r' hr'); obtain ⟨_, _, hrt'⟩ := hone; have hone := hrt'.one; have HBr : Hid (Below wr.heap.size wr (wr.alloc (.cells (reC r').toArray 33))) := Lib.hid ((Below.refl _ _).alloc (Nat.le_refl _) _); clear IH hk hc; simp only [reC] at HBr; wkka (first | (refine store_re (r := r') hone _ _ rfl rfl rfl rfl ?_; simp only [reC])); go_ret; refine ⟨?_, HW.out.trans (HBr.out.mono HW.out.size)⟩; have h1 := HC.out; have h2 := cntTo_le (h := h) (l := t.kids) k; have h3 := HN.out; rw [show n = N by omega]; rfl
   · have hlt' : ¬ (k : Int) < rs.length := by omega
     have Hk : Hid (k = rs.length) := Lib.hid (by omega); clear IH hk hc; wkk; go_ret; refine ⟨?_, HW.out⟩; have h1 := HC.out; have h2 := cntTo_all (h := h) (l := t.kids); have h3 := HN.out; rw [Hk.out, HL.out, h2] at h1; rw [show n = N by omega]; rfl
end
/-- how many nodes, up to so many and one -/
theorem regex_nodes : ∀ (h : Nat) (r : RN) (t : Re) (m : Nat) (w : World), m ≤ 1000 → ReAt w h r t → Calls Tryd.prog 52 #[reV r, .int .i64 m] w fun e w' => e = .returned (.int .i64 (min (cnt h t) (m + 1) : Nat)) ∧ Below w.heap.size w w'
 | 0, _, _, _, _, _, hr => hr.elim
 | _ + 1, r, t, m, w, hm, hr => nodes_next (regex_nodes _) r t m w hm hr
section
end
open Go.RowKit Go.Lib
section
end
end Go.Proofs.YtonkenlkigfeoaaDoor
