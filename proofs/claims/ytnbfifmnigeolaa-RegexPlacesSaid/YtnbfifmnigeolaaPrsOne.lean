/- Walks: the tree of one byte (one); boxes that hold a tree's node. Condition: a byte. -/
import Derived.Test.YtnbfifmnigeolaaPrsKnd
import Derived.Deep.CutBlock
namespace Go.Proofs.Ytnbfifmnigeolaa
open Go.RowKit Go.Lib
/-- a variable of the call's own that holds a node -/
def ReBox (w : World) (b : Nat) (r : RN) : Prop := w.heap[b]? = some (.cells (reC r).toArray 29 (0, 0))
def reZ : RN := ⟨0, (0, 0, 0, 0), 0, 0, .slice none 0 0⟩
noncomputable def setN (p : Nat → Bool) : RN := ⟨1, wS p, 0, 0, .slice none 0 0⟩
section
variable {w w' : World} {b : Nat} {r r0 : RN}
theorem ReBox.lt (h : ReBox w b r) : b < w.heap.size := (Array.getElem?_eq_some_iff.1 h).1
theorem ReBox.keep (h : ReBox w b r) (hb : Below w.heap.size w w') : ReBox w' b r := by unfold ReBox; rw [hb.block b h.lt]; exact h
theorem ReBox.els {g : Nat} (h : ReBox w b r) (he : Else g w w') (hne : b ≠ g) : ReBox w' b r := he.row h hne
theorem ReBox.new (w : World) (r : RN) : ReBox (w.alloc (.cells (reC r).toArray 29)) w.heap.size r := Go.heap_alloc_new _ _
theorem ReBox.zero (w : World) : ReBox (w.alloc (.cells #[.int .i64 0, .int .u64 0, .int .u64 0, .int .u64 0, .int .u64 0, .int .i64 0, .int .i64 0, .slice none 0 0] 29)) w.heap.size reZ := Go.heap_alloc_new _ _
theorem ReBox.set (h : ReBox w b r0) (r : RN) : ReBox (w.setRow b (reC r).toArray) b r := setRow_heap _ _ _ _ _ _ h
theorem ReBox.other {q : Nat} {cs : Array Value} (h : ReBox w b r) (hq : b ≠ q) : ReBox (w.setRow q cs) b r := by unfold ReBox; rw [setRow_other _ _ _ _ hq]; exact h
theorem ReBox.cellOther {q o : Nat} {u : Value} (h : ReBox w b r) (hq : b ≠ q) : ReBox (w.setCell ⟨q, o, none⟩ u) b r := by
  unfold ReBox; rw [show (w.setCell ⟨q, o, none⟩ u).heap[b]? = w.heap[b]? from Below.heap_setCell _ _ _ _ (by dsimp only; omega)]; exact h
theorem store_box {o : Oper} {a : Act} {K : Act → World → Prop} {Q : Exit → Act → World → Prop} (hs : ReBox w b r0) (r : RN) (hr : r.v.oneCell' = true) (x y : Operand) (ho : o.op = .store 29 x y)
    (hx : a.eval x = .pointer (some ⟨b, 0, none⟩)) (hy : a.eval y = reV r) (h : K (a.put o.dst undef) (w.setRow b (reC r).toArray)) : o.wp Try.prog a w K Q :=
  wp_store_row _ x y ho b (reC r).toArray hx hy 29 _ hs info_re rfl (re_one hr) h
theorem load_box {o : Oper} {a : Act} {K : Act → World → Prop} {Q : Exit → Act → World → Prop} (hs : ReBox w b r) (x : Operand) (ho : o.op = .load 29 x)
    (hx : a.eval x = .pointer (some ⟨b, 0, none⟩)) (h : K (a.put o.dst (reV r)) w) : o.wp Try.prog a w K Q :=
  wp_load_row _ x ho b hx 29 (reC r).toArray (0, 0) _ hs Try.underlying29 rfl info_re h
theorem results_re {fn : Func} {p' : Tmp} (h : fn.results = #[.cell p' 29]) (tmps : Array Value) (w : World) (b : Nat) (r : RN) (hp : tmps.getD p' undef = .pointer (some ⟨b, 0, none⟩)) (hs : ReBox w b r) :
    (results fn tmps).run Try.prog w = .ok (reV r) w :=
  results_cell_row h tmps w b 29 (reC r).toArray (0, 0) _ hp hs Try.underlying29 rfl info_re
theorem PsAt.row {w : World} {g q : Nat} {S : ByteArray} {i d : Nat} {cs : Array Value} (h : PsAt w g S i d) (hq : g ≠ q) : PsAt (w.setRow q cs) g S i d := by unfold PsAt; rw [setRow_other _ _ _ _ hq]; exact h
theorem Else.rowNew {w w' : World} {g q : Nat} (h : Else g w w') (hq : w.heap.size ≤ q) (cs : Array Value) : Else g w (w'.setRow q cs) :=
  ⟨h.os, h.tape, h.output, by simpa using h.size, fun k hk hne => by rw [setRow_other _ _ _ _ (by omega)]; exact h.block k hk hne⟩
end
theorem set_re (w : World) (p : Nat → Bool) : ReAt w 1 (setN p) (setT p) :=
  ⟨⟨rfl, rfl, rfl, rfl⟩, ⟨by unfold I64; omega, by unfold I64; omega, by unfold I64; omega⟩, Nat.zero_le _, [], ⟨none, 0, rfl, Nat.le_refl _, Nat.zero_le _, rfl, .inl rfl⟩, rfl, fun i r t h => by simp at h⟩
set_option maxRecDepth 100000 in
theorem ps_one (c : Nat) (hc : c < 256) (w : World) : Calls Try.prog 27 #[.int .u8 (c : Int)] w fun e w' => e = .returned (reV (setN (oneB c))) ∧ Below w.heap.size w w' := by
  have HA : Hid (ReBox (w.alloc (.cells #[.int .i64 0, .int .u64 0, .int .u64 0, .int .u64 0, .int .u64 0, .int .i64 0, .int .i64 0, .slice none 0 0] 29)) w.heap.size reZ ∧ Below w.heap.size w (w.alloc (.cells #[.int .i64 0, .int .u64 0, .int .u64 0, .int .u64 0, .int .u64 0, .int .i64 0, .int .i64 0, .slice none 0 0] 29))) := Lib.hid ⟨ReBox.zero w, (Below.refl _ _).alloc (Nat.le_refl _) _⟩
  have kc := fun W => k_of c hc W
  go_enter Try.func27, Try.ntmps27
  repeat' (go_not_at_region 1; first | go_values | go_skip | go_guarded | go_step | go_upon)
  generalize hB : w.heap.size = B at HA ⊢
  refine gen_wd (fun W => ReBox W B reZ ∧ Below B w W) HA.out ?_
  clear HA
  rintro w1 ⟨hr, hb⟩
  have HR := Lib.hid hr
  have HB := Lib.hid hb
  have hz := hr.lt
  clear hr hb
  repeat' (first | (with_reducible refine wp_conv_lit1 Try.underlying59 Try.underlying5 Try.underlying9 rfl _ rfl rfl ?_) | go_values | go_skip | go_guarded | go_step | go_upon)
  refine Calls.mono ((kc _)) ?_
  rintro _ w2 ⟨rfl, hb⟩
  dsimp only
  have hal := (Below.refl w1.heap.size w1).alloc (Nat.le_refl _) (.cells #[.int .u8 (c : Int)] 5)
  have HX := Lib.hid ((HR.out.keep hal).keep hb)
  have HY := Lib.hid ((HB.out.trans (hal.mono (Nat.le_of_lt hz))).trans (hb.mono (Nat.le_trans (Nat.le_of_lt hz) hal.size)))
  have HQ := Lib.hid hB
  clear hal hb HR HB kc hB hz
  repeat' (first | (refine store_box HX.out (setN (oneB c)) rfl _ _ rfl rfl rfl ?_; dsimp only [Act.put]) | go_values | go_skip | go_guarded | go_step | go_upon)
  refine bodyPost_ret (results_re rfl _ _ _ _ rfl (HX.out.set _)) rfl ?_
  exact ⟨rfl, by rw [HQ.out]; exact Below.row HY.out (Nat.le_refl _) _⟩
end Go.Proofs.Ytnbfifmnigeolaa
