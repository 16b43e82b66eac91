/- Walks: the parser's state and its small steps (is, take, must, fail). Conditions: a text of at most 512 bytes; a place within it. -/
import Derived.Test.YtnbfifmnigeolaaPrsLaw
import Derived.Test.YtnbfifmnigeolaaReFunc
import Derived.Test.YtnbfifmnigeolaaOwnRows
import Derived.Test.YtnbfifmnigeolaaRegion
import Derived.WalkLawsBesides
namespace Go.Proofs.Ytnbfifmnigeolaa
open Go.RowKit Go.Lib
/-- the parser: its text, its place, how many brackets are open -/
def PsAt (w : World) (g : Nat) (S : ByteArray) (i d : Nat) : Prop := w.heap[g]? = some (.cells #[.string S, .int .i64 (i : Int), .int .i64 (d : Int)] 39 (0, 0))
section
variable {w : World} {g : Nat} {S : ByteArray} {i d : Nat}
theorem PsAt.c0 (h : PsAt w g S i d) : w.cell? ⟨g, 0, none⟩ = some (.string S) := by rw [cell_of_row w g 0 _ _ _ h]; rfl
theorem PsAt.c1 (h : PsAt w g S i d) : w.cell? ⟨g, 1, none⟩ = some (.int .i64 (i : Int)) := by rw [cell_of_row w g 1 _ _ _ h]; rfl
theorem PsAt.c2 (h : PsAt w g S i d) : w.cell? ⟨g, 2, none⟩ = some (.int .i64 (d : Int)) := by rw [cell_of_row w g 2 _ _ _ h]; rfl
theorem PsAt.c3 (h : PsAt w g S i d) (k : Nat) (hk : 3 ≤ k) : w.cell? ⟨g, k, none⟩ = none := by rw [cell_of_row w g k _ _ _ h]; exact Array.getElem?_eq_none hk
theorem PsAt.free (h : PsAt w g S i d) (k : Nat) : w.frozen? ⟨g, k, none⟩ = false := frozen_of_row _ _ _ _ _ h
theorem PsAt.lt (h : PsAt w g S i d) : g < w.heap.size := (Array.getElem?_eq_some_iff.1 h).1
theorem PsAt.keep {w' : World} (h : PsAt w g S i d) (hb : Below w.heap.size w w') : PsAt w' g S i d := by unfold PsAt; rw [hb.block g h.lt]; exact h
theorem PsAt.keepB {w' : World} {B : Nat} (h : PsAt w g S i d) (hb : Below B w w') (hB : g < B) : PsAt w' g S i d := by unfold PsAt; rw [hb.block g hB]; exact h
theorem PsAt.set1 (h : PsAt w g S i d) (x : Nat) : PsAt (w.setCell ⟨g, 1, none⟩ (.int .i64 (x : Int))) g S x d := by
  unfold PsAt; rw [setCell_eq_setRow _ _ _ _ _ _ _ h, setRow_heap _ _ _ _ _ _ h]; simp
theorem PsAt.set2 (h : PsAt w g S i d) (x : Nat) : PsAt (w.setCell ⟨g, 2, none⟩ (.int .i64 (x : Int))) g S i x := by
  unfold PsAt; rw [setCell_eq_setRow _ _ _ _ _ _ _ h, setRow_heap _ _ _ _ _ _ h]; simp
theorem PsAt.new (w : World) (S : ByteArray) : PsAt (w.alloc (.cells #[.string S, .int .i64 0, .int .i64 0] 39)) w.heap.size S 0 0 := Go.heap_alloc_new _ _
theorem PsAt.setOther {q o : Nat} {u : Value} (h : PsAt w g S i d) (hq : q ≠ g) : PsAt (w.setCell ⟨q, o, none⟩ u) g S i d := by
  unfold PsAt; rw [show (w.setCell ⟨q, o, none⟩ u).heap[g]? = w.heap[g]? from Below.heap_setCell _ _ _ _ (by dsimp only; omega)]; exact h
end
theorem byte_is (S : ByteArray) (i : Nat) (hi : i < S.size) (w : World) : (Instr.index 9 (.string S) (.int .i64 (i : Int))).run Try.prog w = .ok (.int .u8 ((bt S.data.toList i : Nat) : Int)) w := by
  have hl : i < S.data.toList.length := by rw [ba_len]; exact hi
  have hx : S.data.toList.getD i 0 = S.data.toList[i] := by rw [List.getD_eq_getElem?_getD, List.getElem?_eq_getElem hl]; rfl
  have hi' : 0 ≤ (i : Int) ∧ (i : Int) < (S.size : Int) := by omega
  unfold bt
  rw [run_index_string w _ _ _ _ Try.underlying9, dif_pos hi', hx]
  rfl
theorem bt_lt (s : List UInt8) (i : Nat) : bt s i < 256 := by unfold bt; exact UInt8.toNat_lt _
/-- what a failing of the parser is -/
def stopV (e i : Nat) : Value := .iface 36 (.agg #[.int .i64 (e : Int), .int .i64 (i : Int)])
def stopE (e i : Nat) : Ending := .panicked [{ v := stopV e i, recovered := false }]
set_option maxRecDepth 100000 in
theorem ps_fail (g : Nat) (S : ByteArray) (i d : Nat) (w : World) (h : PsAt w g S i d) :
    Calls Try.prog 9 #[.pointer (some ⟨g, 0, none⟩)] w fun e w' => e = stopE 60 i ∧ w' = w := by
  have c1 := h.c1
  go_enter Try.func9, Try.ntmps9
  repeat' (first | go_values | go_skip | go_guarded | go_step | go_upon)
  exact ⟨rfl, rfl, rfl⟩
set_option maxRecDepth 100000 in
theorem ps_is (g : Nat) (S : ByteArray) (i d c : Nat) (w : World) (h : PsAt w g S i d) :
    Calls Try.prog 17 #[.pointer (some ⟨g, 0, none⟩), .int .u8 (c : Int)] w fun e w' => e = .returned (.bool (decide (isC S.data.toList i c))) ∧ Below w.heap.size w w' := by
  have q0 : ∀ nq : WB w, nq.1.cell? ⟨g, 0, none⟩ = some (.string S) := fun nq => (h.keep nq.2).c0
  have q1 : ∀ nq : WB w, nq.1.cell? ⟨g, 1, none⟩ = some (.int .i64 (i : Int)) := fun nq => (h.keep nq.2).c1
  clear h
  obtain ⟨B, hB⟩ : ∃ B, decide (isC S.data.toList i c) = B := ⟨_, rfl⟩
  rw [hB]
  have HB := Lib.hid hB
  clear hB
  by_cases hlt : i < S.size
  · have hlt' : (i : Int) < S.size := by omega
    have hx := byte_is S i hlt
    have HB2 : Hid (((bt S.data.toList i : Nat) : Int) = c → B = true) := Lib.hid fun h => by rw [← HB.out]; exact decide_eq_true ⟨by rw [ba_len]; exact hlt, by omega⟩
    have HB3 : Hid (¬ ((bt S.data.toList i : Nat) : Int) = c → B = false) := Lib.hid fun h => by rw [← HB.out]; exact decide_eq_false fun q => h (by rw [q.2])
    generalize bt S.data.toList i = x at hx HB2 HB3
    clear HB hlt
    by_cases hc : (x : Int) = c
    · have hd : ((x : Int) == c) = true := by rw [beq_iff_eq]; exact hc
      have e := HB2.out hc
      subst e
      clear hc HB2 HB3
      go_enter Try.func17, Try.ntmps17
      repeat' (first | go_values | go_skip | go_guarded | go_step | go_upon)
      refine wp_region_wb (by kernel_rfl) (by kernel_rfl) w (Below.refl _ _) ?_
      repeat (go_big_quiet_step ((fail)))
      refine wpQuiet_nil ?_
      rintro _ ⟨nq, rfl⟩
      have hnq := nq.2
      repeat' (first | go_values | go_skip | go_guarded | go_step | go_upon)
      go_ret
      exact ⟨rfl, hnq⟩
    · have hd : ((x : Int) == c) = false := beq_false_of_ne hc
      have e := HB3.out hc
      subst e
      clear hc HB2 HB3
      go_enter Try.func17, Try.ntmps17
      repeat' (first | go_values | go_skip | go_guarded | go_step | go_upon)
      refine wp_region_wb (by kernel_rfl) (by kernel_rfl) w (Below.refl _ _) ?_
      repeat (go_big_quiet_step ((fail)))
      refine wpQuiet_nil ?_
      rintro _ ⟨nq, rfl⟩
      have hnq := nq.2
      repeat' (first | go_values | go_skip | go_guarded | go_step | go_upon)
      go_ret
      exact ⟨rfl, hnq⟩
  · have hlt' : ¬ (i : Int) < S.size := by omega
    have e : B = false := by rw [← HB.out]; exact decide_eq_false fun q => hlt (by have := q.1; rw [ba_len] at this; exact this)
    subst e
    clear HB hlt
    go_enter Try.func17, Try.ntmps17
    repeat' (first | go_values | go_skip | go_guarded | go_step | go_upon)
    refine wp_region_wb (by kernel_rfl) (by kernel_rfl) w (Below.refl _ _) ?_
    repeat (go_big_quiet_step ((fail)))
    refine wpQuiet_nil ?_
    rintro _ ⟨nq, rfl⟩
    have hnq := nq.2
    repeat' (first | go_values | go_skip | go_guarded | go_step | go_upon)
    go_ret
    exact ⟨rfl, hnq⟩
theorem ps_is_y (g : Nat) (S : ByteArray) (i d c : Nat) (w : World) (h : PsAt w g S i d) (hc : isC S.data.toList i c) :
    Calls Try.prog 17 #[.pointer (some ⟨g, 0, none⟩), .int .u8 (c : Int)] w fun e w' => e = .returned (.bool true) ∧ Below w.heap.size w w' := by
  have := ps_is g S i d c w h
  rwa [decide_eq_true hc] at this
theorem ps_is_n (g : Nat) (S : ByteArray) (i d c : Nat) (w : World) (h : PsAt w g S i d) (hc : ¬ isC S.data.toList i c) :
    Calls Try.prog 17 #[.pointer (some ⟨g, 0, none⟩), .int .u8 (c : Int)] w fun e w' => e = .returned (.bool false) ∧ Below w.heap.size w w' := by
  have := ps_is g S i d c w h
  rwa [decide_eq_false hc] at this
set_option maxRecDepth 100000 in
theorem ps_take_y (g : Nat) (S : ByteArray) (i d c : Nat) (hi : i ≤ 512) (w : World) (h : PsAt w g S i d) (hc : isC S.data.toList i c) :
    Calls Try.prog 13 #[.pointer (some ⟨g, 0, none⟩), .int .u8 (c : Int)] w fun e w' => e = .returned (.bool true) ∧ PsAt w' g S (i + 1) d ∧ Else g w w' := by
  have hcall := ps_is_y g S i d c w h hc
  have H := Lib.hid h
  clear h hc
  have hw : IntKind.i64.wrap ((i : Int) + 1) = ((i + 1 : Nat) : Int) := by rw [wi64 (by unfold I64; omega)]; omega
  obtain ⟨j, hj⟩ : ∃ j, i + 1 = j := ⟨_, rfl⟩
  rw [hj] at hw ⊢
  clear hj
  go_enter Try.func13, Try.ntmps13
  repeat' (first | go_values | go_skip | go_guarded | go_step | go_upon)
  refine Calls.mono (hcall) ?_
  rintro _ w1 ⟨rfl, hb⟩
  dsimp only
  have H1 := Lib.hid (H.out.keep hb)
  have He := Lib.hid (Else.of_below (g := g) hb)
  have c1 := H1.out.c1
  have f1 := H1.out.free 1
  clear hcall H hb
  repeat' (first | go_values | go_skip | go_guarded | go_step | go_upon)
  go_ret
  exact ⟨rfl, H1.out.set1 _, He.out.setCell _ _⟩
set_option maxRecDepth 100000 in
theorem ps_take_n (g : Nat) (S : ByteArray) (i d c : Nat) (w : World) (h : PsAt w g S i d) (hc : ¬ isC S.data.toList i c) :
    Calls Try.prog 13 #[.pointer (some ⟨g, 0, none⟩), .int .u8 (c : Int)] w fun e w' => e = .returned (.bool false) ∧ Below w.heap.size w w' := by
  have hcall := ps_is_n g S i d c w h hc
  clear h hc
  go_enter Try.func13, Try.ntmps13
  repeat' (first | go_values | go_skip | go_guarded | go_step | go_upon)
  refine Calls.mono (hcall) ?_
  rintro _ w1 ⟨rfl, hb⟩
  dsimp only
  have HB := Lib.hid hb
  clear hcall hb
  repeat' (first | go_values | go_skip | go_guarded | go_step | go_upon)
  go_ret
  exact ⟨rfl, HB.out⟩
set_option maxRecDepth 100000 in
theorem ps_must_y (g : Nat) (S : ByteArray) (i d c : Nat) (hi : i ≤ 512) (w : World) (h : PsAt w g S i d) (hc : isC S.data.toList i c) :
    Calls Try.prog 22 #[.pointer (some ⟨g, 0, none⟩), .int .u8 (c : Int)] w fun e w' => e = .returned (.tuple #[]) ∧ PsAt w' g S (i + 1) d ∧ Else g w w' := by
  have hcall := ps_take_y g S i d c hi w h hc
  clear h hc
  go_enter Try.func22, Try.ntmps22
  repeat' (first | go_values | go_skip | go_guarded | go_step | go_upon)
  refine Calls.mono (hcall) ?_
  rintro _ w1 ⟨rfl, hp, he⟩
  dsimp only
  have HP := Lib.hid hp
  have HE := Lib.hid he
  clear hcall hp he
  repeat' (first | go_values | go_skip | go_guarded | go_step | go_upon)
  go_end0
  exact ⟨rfl, HP.out, HE.out⟩
set_option maxRecDepth 100000 in
theorem ps_must_n (g : Nat) (S : ByteArray) (i d c : Nat) (w : World) (h : PsAt w g S i d) (hc : ¬ isC S.data.toList i c) :
    Calls Try.prog 22 #[.pointer (some ⟨g, 0, none⟩), .int .u8 (c : Int)] w fun e w' => e = stopE 60 i ∧ Else g w w' := by
  have hcall := ps_take_n g S i d c w h hc
  have H := Lib.hid h
  clear h hc
  go_enter Try.func22, Try.ntmps22
  repeat' (first | go_values | go_skip | go_guarded | go_step | go_upon)
  refine Calls.mono (hcall) ?_
  rintro _ w1 ⟨rfl, hb⟩
  dsimp only
  have hf := ps_fail g S i d w1 (H.out.keep hb)
  have HB := Lib.hid (Else.of_below (g := g) hb)
  clear hcall hb H
  repeat' (first | go_values | go_skip | go_guarded | go_step | go_upon)
  refine Calls.mono hf ?_
  rintro _ w2 ⟨rfl, rfl⟩
  exact ⟨rfl, rfl, HB.out⟩
end Go.Proofs.Ytnbfifmnigeolaa
