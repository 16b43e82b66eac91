/- Walks: the parser's state and its small steps (is, take, must, fail). Conditions: a text of at most 512 bytes; a place within it. Walks: the parser's bytes (hex, escape, point) and numbers (digit, num). Conditions: a text of at most 512 bytes; a place within it. Walks: what stands behind a backslash (escape), an end of a range (point). Conditions: a text of at most 512 bytes; a place within it. Walks: a number of a bound (digit, num). Conditions: a text of at most 512 bytes; a place within it. Walks: a class by a letter (kind), the set of one byte (one). Conditions: a text of at most 512 bytes; a place within it. Walks: the tree of one byte (one); boxes that hold a tree's node. Condition: a byte. -/
import Derived.Test.YtnbfifmnigeolaaDoorInvA
import Derived.Test.YtnbfifmnigeolaaDoorReFunc
import Derived.Test.YtnbfifmnigeolaaDoorOwnRows
import Derived.Test.YtnbfifmnigeolaaDoorRegion
import Derived.WalkLawsBesides
import Derived.Test.YtnbfifmnigeolaaDoorShelf
import Derived.Deep.LoopGhost
import Derived.Test.YtnbfifmnigeolaaDoorAnyC
import Derived.Test.YtnbfifmnigeolaaDoorSetOps
import Derived.Test.YtnbfifmnigeolaaDoorSetRange
import Derived.Deep.CutBlock
namespace Go.Proofs.YtnbfifmnigeolaaDoor
open Go.RowKit Go.Lib
/-- the parser: its text, its place, how many brackets are open -/
def PsAt (w : World) (g : Nat) (S : ByteArray) (i d : Nat) : Prop := w.heap[g]? = some (.cells #[.string S, .int .i64 (i : Int), .int .i64 (d : Int)] 44 (0, 0))
section
variable {w : World} {g : Nat} {S : ByteArray} {i d : Nat}
theorem PsAt.c0 (h : PsAt w g S i d) : w.cell? ⟨g, 0, none⟩ = some (.string S) := by rw [cell_of_row w g 0 _ _ _ h]; rfl
theorem PsAt.c1 (h : PsAt w g S i d) : w.cell? ⟨g, 1, none⟩ = some (.int .i64 (i : Int)) := by rw [cell_of_row w g 1 _ _ _ h]; rfl
theorem PsAt.c2 (h : PsAt w g S i d) : w.cell? ⟨g, 2, none⟩ = some (.int .i64 (d : Int)) := by rw [cell_of_row w g 2 _ _ _ h]; rfl
theorem PsAt.c3 (h : PsAt w g S i d) (k : Nat) (hk : 3 ≤ k) : w.cell? ⟨g, k, none⟩ = none := by rw [cell_of_row w g k _ _ _ h]; exact Array.getElem?_eq_none hk
theorem PsAt.free (h : PsAt w g S i d) (k : Nat) : w.frozen? ⟨g, k, none⟩ = false := frozen_of_row _ _ _ _ _ h
theorem PsAt.lt (h : PsAt w g S i d) : g < w.heap.size := (Array.getElem?_eq_some_iff.1 h).1
theorem PsAt.keep {w' : World} (h : PsAt w g S i d) (hb : Below w.heap.size w w') : PsAt w' g S i d := by unfold PsAt; rw [hb.block g h.lt]; exact h
theorem PsAt.keepB {w' : World} {B : Nat} (h : PsAt w g S i d) (hb : Below B w w') (hB : g < B) : PsAt w' g S i d := by unfold PsAt; rw [hb.block g hB]; exact h
theorem PsAt.set1 (h : PsAt w g S i d) (x : Nat) : PsAt (w.setCell ⟨g, 1, none⟩ (.int .i64 (x : Int))) g S x d := by
  unfold PsAt; rw [setCell_eq_setRow _ _ _ _ _ _ _ h, setRow_heap _ _ _ _ _ _ h]; simp
theorem PsAt.set2 (h : PsAt w g S i d) (x : Nat) : PsAt (w.setCell ⟨g, 2, none⟩ (.int .i64 (x : Int))) g S i x := by
  unfold PsAt; rw [setCell_eq_setRow _ _ _ _ _ _ _ h, setRow_heap _ _ _ _ _ _ h]; simp
theorem PsAt.new (w : World) (S : ByteArray) : PsAt (w.alloc (.cells #[.string S, .int .i64 0, .int .i64 0] 44)) w.heap.size S 0 0 := Go.heap_alloc_new _ _
theorem PsAt.setOther {q o : Nat} {u : Value} (h : PsAt w g S i d) (hq : q ≠ g) : PsAt (w.setCell ⟨q, o, none⟩ u) g S i d := by
  unfold PsAt; rw [show (w.setCell ⟨q, o, none⟩ u).heap[g]? = w.heap[g]? from Below.heap_setCell _ _ _ _ (by dsimp only; omega)]; exact h
end
theorem byte_is (S : ByteArray) (i : Nat) (hi : i < S.size) (w : World) : (Instr.index 9 (.string S) (.int .i64 (i : Int))).run Tryd.prog w = .ok (.int .u8 ((bt S.data.toList i : Nat) : Int)) w := by
  have hl : i < S.data.toList.length := by rw [ba_len]; exact hi
  have hx : S.data.toList.getD i 0 = S.data.toList[i] := by rw [List.getD_eq_getElem?_getD, List.getElem?_eq_getElem hl]; rfl
  have hi' : 0 ≤ (i : Int) ∧ (i : Int) < (S.size : Int) := by omega
  unfold bt
  rw [run_index_string w _ _ _ _ Tryd.underlying9, dif_pos hi', hx]
  rfl
theorem bt_lt (s : List UInt8) (i : Nat) : bt s i < 256 := by unfold bt; exact UInt8.toNat_lt _
/-- what a failing of the parser is -/
def stopV (e i : Nat) : Value := .iface 41 (.agg #[.int .i64 (e : Int), .int .i64 (i : Int)])
def stopE (e i : Nat) : Ending := .panicked [{ v := stopV e i, recovered := false }]
set_option maxRecDepth 100000 in
theorem ps_fail (g : Nat) (S : ByteArray) (i d : Nat) (w : World) (h : PsAt w g S i d) :
    Calls Tryd.prog 16 #[.pointer (some ⟨g, 0, none⟩)] w fun e w' => e = stopE 60 i ∧ w' = w := by
  have c1 := h.c1
  go_enter Tryd.func16, Tryd.ntmps16
  repeat' (first | go_values | go_skip | go_guarded | go_step | go_upon)
  exact ⟨rfl, rfl, rfl⟩
set_option maxRecDepth 100000 in
theorem ps_is (g : Nat) (S : ByteArray) (i d c : Nat) (w : World) (h : PsAt w g S i d) :
    Calls Tryd.prog 50 #[.pointer (some ⟨g, 0, none⟩), .int .u8 (c : Int)] w fun e w' => e = .returned (.bool (decide (isC S.data.toList i c))) ∧ Below w.heap.size w w' := by
  have q0 : ∀ nq : WB w, nq.1.cell? ⟨g, 0, none⟩ = some (.string S) := fun nq => (h.keep nq.2).c0
  have q1 : ∀ nq : WB w, nq.1.cell? ⟨g, 1, none⟩ = some (.int .i64 (i : Int)) := fun nq => (h.keep nq.2).c1
  clear h
  obtain ⟨B, hB⟩ : ∃ B, decide (isC S.data.toList i c) = B := ⟨_, rfl⟩
  rw [hB]
  have HB := Lib.hid hB
  clear hB
  by_cases hlt : i < S.size
  · have hlt' : (i : Int) < S.size := by omega
    have hx := byte_is S i hlt
    have HB2 : Hid (((bt S.data.toList i : Nat) : Int) = c → B = true) := Lib.hid fun h => by rw [← HB.out]; exact decide_eq_true ⟨by rw [ba_len]; exact hlt, by omega⟩
    have HB3 : Hid (¬ ((bt S.data.toList i : Nat) : Int) = c → B = false) := Lib.hid fun h => by rw [← HB.out]; exact decide_eq_false fun q => h (by rw [q.2])
    generalize bt S.data.toList i = x at hx HB2 HB3
    clear HB hlt
    by_cases hc : (x : Int) = c
    · have hd : ((x : Int) == c) = true := by rw [beq_iff_eq]; exact hc
      have e := HB2.out hc
      subst e
      clear hc HB2 HB3
      go_enter Tryd.func50, Tryd.ntmps50
      repeat' (first | go_values | go_skip | go_guarded | go_step | go_upon)
      refine wp_region_wb (by kernel_rfl) (by kernel_rfl) w (Below.refl _ _) ?_
      repeat (go_big_quiet_step ((fail)))
      refine wpQuiet_nil ?_
      rintro _ ⟨nq, rfl⟩
      have hnq := nq.2
      repeat' (first | go_values | go_skip | go_guarded | go_step | go_upon)
      go_ret
      exact ⟨rfl, hnq⟩
    · have hd : ((x : Int) == c) = false := beq_false_of_ne hc
      have e := HB3.out hc
      subst e
      clear hc HB2 HB3
      go_enter Tryd.func50, Tryd.ntmps50
      repeat' (first | go_values | go_skip | go_guarded | go_step | go_upon)
      refine wp_region_wb (by kernel_rfl) (by kernel_rfl) w (Below.refl _ _) ?_
      repeat (go_big_quiet_step ((fail)))
      refine wpQuiet_nil ?_
      rintro _ ⟨nq, rfl⟩
      have hnq := nq.2
      repeat' (first | go_values | go_skip | go_guarded | go_step | go_upon)
      go_ret
      exact ⟨rfl, hnq⟩
  · have hlt' : ¬ (i : Int) < S.size := by omega
    have e : B = false := by rw [← HB.out]; exact decide_eq_false fun q => hlt (by have := q.1; rw [ba_len] at this; exact this)
    subst e
    clear HB hlt
    go_enter Tryd.func50, Tryd.ntmps50
    repeat' (first | go_values | go_skip | go_guarded | go_step | go_upon)
    refine wp_region_wb (by kernel_rfl) (by kernel_rfl) w (Below.refl _ _) ?_
    repeat (go_big_quiet_step ((fail)))
    refine wpQuiet_nil ?_
    rintro _ ⟨nq, rfl⟩
    have hnq := nq.2
    repeat' (first | go_values | go_skip | go_guarded | go_step | go_upon)
    go_ret
    exact ⟨rfl, hnq⟩
theorem ps_is_y (g : Nat) (S : ByteArray) (i d c : Nat) (w : World) (h : PsAt w g S i d) (hc : isC S.data.toList i c) :
    Calls Tryd.prog 50 #[.pointer (some ⟨g, 0, none⟩), .int .u8 (c : Int)] w fun e w' => e = .returned (.bool true) ∧ Below w.heap.size w w' := by
  have := ps_is g S i d c w h
  rwa [decide_eq_true hc] at this
theorem ps_is_n (g : Nat) (S : ByteArray) (i d c : Nat) (w : World) (h : PsAt w g S i d) (hc : ¬ isC S.data.toList i c) :
    Calls Tryd.prog 50 #[.pointer (some ⟨g, 0, none⟩), .int .u8 (c : Int)] w fun e w' => e = .returned (.bool false) ∧ Below w.heap.size w w' := by
  have := ps_is g S i d c w h
  rwa [decide_eq_false hc] at this
set_option maxRecDepth 100000 in
theorem ps_take_y (g : Nat) (S : ByteArray) (i d c : Nat) (hi : i ≤ 512) (w : World) (h : PsAt w g S i d) (hc : isC S.data.toList i c) :
    Calls Tryd.prog 29 #[.pointer (some ⟨g, 0, none⟩), .int .u8 (c : Int)] w fun e w' => e = .returned (.bool true) ∧ PsAt w' g S (i + 1) d ∧ Else g w w' := by
  have hcall := ps_is_y g S i d c w h hc
  have H := Lib.hid h
  clear h hc
  have hw : IntKind.i64.wrap ((i : Int) + 1) = ((i + 1 : Nat) : Int) := by rw [wi64 (by unfold I64; omega)]; omega
  obtain ⟨j, hj⟩ : ∃ j, i + 1 = j := ⟨_, rfl⟩
  rw [hj] at hw ⊢
  clear hj
  go_enter Tryd.func29, Tryd.ntmps29
  repeat' (first | go_values | go_skip | go_guarded | go_step | go_upon)
  refine Calls.mono (hcall) ?_
  rintro _ w1 ⟨rfl, hb⟩
  dsimp only
  have H1 := Lib.hid (H.out.keep hb)
  have He := Lib.hid (Else.of_below (g := g) hb)
  have c1 := H1.out.c1
  have f1 := H1.out.free 1
  clear hcall H hb
  repeat' (first | go_values | go_skip | go_guarded | go_step | go_upon)
  go_ret
  exact ⟨rfl, H1.out.set1 _, He.out.setCell _ _⟩
set_option maxRecDepth 100000 in
theorem ps_take_n (g : Nat) (S : ByteArray) (i d c : Nat) (w : World) (h : PsAt w g S i d) (hc : ¬ isC S.data.toList i c) :
    Calls Tryd.prog 29 #[.pointer (some ⟨g, 0, none⟩), .int .u8 (c : Int)] w fun e w' => e = .returned (.bool false) ∧ Below w.heap.size w w' := by
  have hcall := ps_is_n g S i d c w h hc
  clear h hc
  go_enter Tryd.func29, Tryd.ntmps29
  repeat' (first | go_values | go_skip | go_guarded | go_step | go_upon)
  refine Calls.mono (hcall) ?_
  rintro _ w1 ⟨rfl, hb⟩
  dsimp only
  have HB := Lib.hid hb
  clear hcall hb
  repeat' (first | go_values | go_skip | go_guarded | go_step | go_upon)
  go_ret
  exact ⟨rfl, HB.out⟩
set_option maxRecDepth 100000 in
theorem ps_must_y (g : Nat) (S : ByteArray) (i d c : Nat) (hi : i ≤ 512) (w : World) (h : PsAt w g S i d) (hc : isC S.data.toList i c) :
    Calls Tryd.prog 64 #[.pointer (some ⟨g, 0, none⟩), .int .u8 (c : Int)] w fun e w' => e = .returned (.tuple #[]) ∧ PsAt w' g S (i + 1) d ∧ Else g w w' := by
  have hcall := ps_take_y g S i d c hi w h hc
  clear h hc
  go_enter Tryd.func64, Tryd.ntmps64
  repeat' (first | go_values | go_skip | go_guarded | go_step | go_upon)
  refine Calls.mono (hcall) ?_
  rintro _ w1 ⟨rfl, hp, he⟩
  dsimp only
  have HP := Lib.hid hp
  have HE := Lib.hid he
  clear hcall hp he
  repeat' (first | go_values | go_skip | go_guarded | go_step | go_upon)
  go_end0
  exact ⟨rfl, HP.out, HE.out⟩
set_option maxRecDepth 100000 in
theorem ps_must_n (g : Nat) (S : ByteArray) (i d c : Nat) (w : World) (h : PsAt w g S i d) (hc : ¬ isC S.data.toList i c) :
    Calls Tryd.prog 64 #[.pointer (some ⟨g, 0, none⟩), .int .u8 (c : Int)] w fun e w' => e = stopE 60 i ∧ Else g w w' := by
  have hcall := ps_take_n g S i d c w h hc
  have H := Lib.hid h
  clear h hc
  go_enter Tryd.func64, Tryd.ntmps64
  repeat' (first | go_values | go_skip | go_guarded | go_step | go_upon)
  refine Calls.mono (hcall) ?_
  rintro _ w1 ⟨rfl, hb⟩
  dsimp only
  have hf := ps_fail g S i d w1 (H.out.keep hb)
  have HB := Lib.hid (Else.of_below (g := g) hb)
  clear hcall hb H
  repeat' (first | go_values | go_skip | go_guarded | go_step | go_upon)
  refine Calls.mono hf ?_
  rintro _ w2 ⟨rfl, rfl⟩
  exact ⟨rfl, rfl, HB.out⟩
end Go.Proofs.YtnbfifmnigeolaaDoor
namespace Go.Proofs.YtnbfifmnigeolaaDoor
open Go.RowKit Go.Lib
/-- what a step that reads tells: its byte, or why it can't go on -/
def BPost (g : Nat) (S : ByteArray) (d : Nat) (w : World) (x : PR Nat) (e : Ending) (w' : World) : Prop :=
  match x with
  | .ok a j => e = .returned (.int .u8 (a : Int)) ∧ PsAt w' g S j d ∧ Else g w w'
  | .bad e0 j => e = stopE e0 j ∧ Else g w w'
  | .out => False
theorem BPost.okI {g : Nat} {S : ByteArray} {d : Nat} {w : World} {x : PR Nat} {e : Ending} {w' : World} {a j : Nat} (hx : x = .ok a j) (h : e = .returned (.int .u8 (a : Int)) ∧ PsAt w' g S j d ∧ Else g w w') : BPost g S d w x e w' := by subst hx; exact h
theorem BPost.badI {g : Nat} {S : ByteArray} {d : Nat} {w : World} {x : PR Nat} {e : Ending} {w' : World} {a j : Nat} (hx : x = .bad a j) (h : e = stopE a j ∧ Else g w w') : BPost g S d w x e w' := by subst hx; exact h
set_option maxRecDepth 100000 in
theorem ix_hex : ∀ c : Fin 256, Lib.indexByte [48, 49, 50, 51, 52, 53, 54, 55, 56, 57, 97, 98, 99, 100, 101, 102] (((c.val : Nat) : Int)).toNat.toUInt8 = if 48 ≤ c.val ∧ c.val ≤ 57 then ((c.val - 48 : Nat) : Int) else if 97 ≤ c.val ∧ c.val ≤ 102 then ((c.val - 87 : Nat) : Int) else -1 := by decide
set_option maxRecDepth 100000 in
theorem ix_HEX : ∀ c : Fin 256, Lib.indexByte [65, 66, 67, 68, 69, 70] (((c.val : Nat) : Int)).toNat.toUInt8 = if 65 ≤ c.val ∧ c.val ≤ 70 then ((c.val - 65 : Nat) : Int) else -1 := by decide
set_option maxRecDepth 100000 in
theorem ix_sgn : ∀ c : Fin 256, decide (0 ≤ Lib.indexByte [92, 40, 41, 91, 93, 123, 125, 46, 42, 43, 63, 124, 94, 36] (((c.val : Nat) : Int)).toNat.toUInt8) = decide (c.val ∈ sgP) := by decide
set_option maxRecDepth 100000 in
theorem ix_esc : ∀ c : Fin 256, decide (0 ≤ Lib.indexByte [92, 40, 41, 91, 93, 123, 125, 46, 42, 43, 63, 124, 94, 36, 45, 47] (((c.val : Nat) : Int)).toNat.toUInt8) = decide (c.val ∈ sgP ∨ c.val = 45 ∨ c.val = 47) := by decide
set_option maxRecDepth 100000 in
theorem ps_hex (g : Nat) (S : ByteArray) (i d : Nat) (hi : i ≤ 512) (w : World) (h : PsAt w g S i d) :
    Calls Tryd.prog 86 #[.pointer (some ⟨g, 0, none⟩)] w (BPost g S d w (hexR S.data.toList i)) := by
  obtain ⟨X, hX⟩ : ∃ X, hexR S.data.toList i = X := ⟨_, rfl⟩
  rw [hX]
  unfold hexR at hX
  rw [ba_len] at hX
  have q0 : ∀ nq : WB w, nq.1.cell? ⟨g, 0, none⟩ = some (.string S) := fun nq => (h.keep nq.2).c0
  have q1 : ∀ nq : WB w, nq.1.cell? ⟨g, 1, none⟩ = some (.int .i64 (i : Int)) := fun nq => (h.keep nq.2).c1
  have H := Lib.hid h
  clear h
  by_cases hlt : i < S.size
  · have hlt' : ¬ (i : Int) ≥ S.size := by omega
    rw [if_pos hlt] at hX
    have hx := byte_is S i hlt
    have hb := bt_lt S.data.toList i
    generalize bt S.data.toList i = x at hx hX hb
    clear hlt
    have h1 : ∀ W, Calls Tryd.prog 59 #[.string ⟨#[48, 49, 50, 51, 52, 53, 54, 55, 56, 57, 97, 98, 99, 100, 101, 102]⟩, .int .u8 (x : Nat)] W fun e w' => e = .returned (.int .i64 (Lib.indexByte [48, 49, 50, 51, 52, 53, 54, 55, 56, 57, 97, 98, 99, 100, 101, 102] ((x : Nat) : Int).toNat.toUInt8)) ∧ w' = W := fun W => Tryd.strings_IndexByte ⟨#[48, 49, 50, 51, 52, 53, 54, 55, 56, 57, 97, 98, 99, 100, 101, 102]⟩ (x : Nat) W
    have h2 : ∀ W, Calls Tryd.prog 59 #[.string ⟨#[65, 66, 67, 68, 69, 70]⟩, .int .u8 (x : Nat)] W fun e w' => e = .returned (.int .i64 (Lib.indexByte [65, 66, 67, 68, 69, 70] ((x : Nat) : Int).toNat.toUInt8)) ∧ w' = W := fun W => Tryd.strings_IndexByte ⟨#[65, 66, 67, 68, 69, 70]⟩ (x : Nat) W
    have e1 := ix_hex ⟨x, hb⟩
    have e2 := ix_HEX ⟨x, hb⟩
    dsimp only at e1 e2
    generalize Lib.indexByte [48, 49, 50, 51, 52, 53, 54, 55, 56, 57, 97, 98, 99, 100, 101, 102] ((x : Nat) : Int).toNat.toUInt8 = v1 at h1 e1
    generalize Lib.indexByte [65, 66, 67, 68, 69, 70] ((x : Nat) : Int).toNat.toUInt8 = v2 at h2 e2
    have hw : IntKind.i64.wrap ((i : Int) + 1) = ((i + 1 : Nat) : Int) := by rw [wi64 (by unfold I64; omega)]; omega
    obtain ⟨j, hj⟩ : ∃ j, i + 1 = j := ⟨_, rfl⟩
    rw [hj] at hw hX
    clear hj hi
    have hcase : (∃ v : Nat, v < 16 ∧ v1 = (v : Int) ∧ Hid (X = .ok v j)) ∨ (v1 = -1 ∧ ((∃ v : Nat, v < 6 ∧ v2 = (v : Int) ∧ Hid (X = .ok (v + 10) j)) ∨ (v2 = -1 ∧ Hid (X = .bad 60 i)))) := by
      unfold hexV at hX
      by_cases a1 : 48 ≤ x ∧ x ≤ 57
      · rw [if_pos a1] at hX e1
        exact .inl ⟨x - 48, by omega, e1, Lib.hid hX.symm⟩
      · rw [if_neg a1] at hX e1
        by_cases a2 : 97 ≤ x ∧ x ≤ 102
        · rw [if_pos a2] at hX e1
          exact .inl ⟨x - 87, by omega, e1, Lib.hid hX.symm⟩
        · rw [if_neg a2] at hX e1
          refine .inr ⟨e1, ?_⟩
          by_cases a3 : 65 ≤ x ∧ x ≤ 70
          · rw [if_pos a3] at hX e2
            exact .inl ⟨x - 65, by omega, e2, Lib.hid (by rw [show x - 65 + 10 = x - 55 by omega]; exact hX.symm)⟩
          · rw [if_neg a3] at hX e2
            exact .inr ⟨e2, Lib.hid hX.symm⟩
    clear hX hb e1 e2
    rcases hcase with ⟨v, hv, rfl, HX⟩ | ⟨rfl, ⟨v, hv, rfl, HX⟩ | ⟨rfl, HX⟩⟩
    · have hv0 : ¬ (v : Int) < 0 := by omega
      have hv8 : IntKind.u8.wrap (v : Int) = v := by rw [IntKind.wrap_u8]; omega
      clear h2
      go_enter Tryd.func86, Tryd.ntmps86
      repeat' (first | go_values | go_skip | go_guarded | go_step | go_upon)
      refine wp_region_wb (by kernel_rfl) (by kernel_rfl) w (Below.refl _ _) ?_
      repeat (go_big_quiet_step ((fail)))
      refine wpQuiet_nil ?_
      rintro _ ⟨nq, rfl⟩
      have hnq := nq.2
      have r0 : ∀ nr : WB nq.1, nr.1.cell? ⟨g, 0, none⟩ = some (.string S) := fun nr => (H.out.keep (hnq.trans (nr.2.mono hnq.size))).c0
      have r1 : ∀ nr : WB nq.1, nr.1.cell? ⟨g, 1, none⟩ = some (.int .i64 (i : Int)) := fun nr => (H.out.keep (hnq.trans (nr.2.mono hnq.size))).c1
      have Hq := Lib.hid hnq
      clear q0 q1 hnq
      repeat' (first | go_values | go_skip | go_guarded | go_step | go_upon)
      refine wp_region_wb (by kernel_rfl) (by kernel_rfl) nq.1 (Below.refl _ _) ?_
      repeat (go_big_quiet_step ((go_at_call 59; exact calls_wb_same ((h1 _).mono fun _ _ ⟨he, hw⟩ => ⟨he, hw.symm⟩))))
      refine wpQuiet_nil ?_
      rintro _ ⟨nr, rfl⟩
      have Hr := Lib.hid (Hq.out.trans (nr.2.mono Hq.out.size))
      clear r0 r1 h1 Hq
      have Hb := Lib.hid Hr.out
      have H1 := Lib.hid (H.out.keep Hb.out)
      have He := Lib.hid (Else.of_below (g := g) Hb.out)
      have c1 := H1.out.c1
      have f1 := H1.out.free 1
      repeat' (first | go_values | go_skip | go_guarded | go_step | go_upon)
      go_ret
      exact BPost.okI HX.out ⟨rfl, H1.out.set1 _, He.out.setCell _ _⟩
    · have hv0 : ¬ (v : Int) < 0 := by omega
      have hw10 : IntKind.i64.wrap ((v : Int) + 10) = ((v + 10 : Nat) : Int) := by rw [wi64 (by unfold I64; omega)]; omega
      have hv8 : IntKind.u8.wrap ((v + 10 : Nat) : Int) = ((v + 10 : Nat) : Int) := by rw [IntKind.wrap_u8]; omega
      generalize v + 10 = v10 at hw10 hv8 HX
      go_enter Tryd.func86, Tryd.ntmps86
      repeat' (first | go_values | go_skip | go_guarded | go_step | go_upon)
      refine wp_region_wb (by kernel_rfl) (by kernel_rfl) w (Below.refl _ _) ?_
      repeat (go_big_quiet_step ((fail)))
      refine wpQuiet_nil ?_
      rintro _ ⟨nq, rfl⟩
      have hnq := nq.2
      have r0 : ∀ nr : WB nq.1, nr.1.cell? ⟨g, 0, none⟩ = some (.string S) := fun nr => (H.out.keep (hnq.trans (nr.2.mono hnq.size))).c0
      have r1 : ∀ nr : WB nq.1, nr.1.cell? ⟨g, 1, none⟩ = some (.int .i64 (i : Int)) := fun nr => (H.out.keep (hnq.trans (nr.2.mono hnq.size))).c1
      have Hq := Lib.hid hnq
      clear q0 q1 hnq
      repeat' (first | go_values | go_skip | go_guarded | go_step | go_upon)
      refine wp_region_wb (by kernel_rfl) (by kernel_rfl) nq.1 (Below.refl _ _) ?_
      repeat (go_big_quiet_step ((go_at_call 59; exact calls_wb_same ((h1 _).mono fun _ _ ⟨he, hw⟩ => ⟨he, hw.symm⟩))))
      refine wpQuiet_nil ?_
      rintro _ ⟨nr, rfl⟩
      have Hr := Lib.hid (Hq.out.trans (nr.2.mono Hq.out.size))
      clear r0 r1 h1 Hq
      have r0 : ∀ nt : WB nr.1, nt.1.cell? ⟨g, 0, none⟩ = some (.string S) := fun nt => (H.out.keep (Hr.out.trans (nt.2.mono Hr.out.size))).c0
      have r1 : ∀ nt : WB nr.1, nt.1.cell? ⟨g, 1, none⟩ = some (.int .i64 (i : Int)) := fun nt => (H.out.keep (Hr.out.trans (nt.2.mono Hr.out.size))).c1
      repeat' (first | go_values | go_skip | go_guarded | go_step | go_upon)
      refine wp_region_wb (by kernel_rfl) (by kernel_rfl) nr.1 (Below.refl _ _) ?_
      repeat (go_big_quiet_step ((go_at_call 59; exact calls_wb_same ((h2 _).mono fun _ _ ⟨he, hw⟩ => ⟨he, hw.symm⟩))))
      refine wpQuiet_nil ?_
      rintro _ ⟨nt, rfl⟩
      have Hb := Lib.hid (Hr.out.trans (nt.2.mono Hr.out.size))
      have H1 := Lib.hid (H.out.keep Hb.out)
      have He := Lib.hid (Else.of_below (g := g) Hb.out)
      have c1 := H1.out.c1
      have f1 := H1.out.free 1
      clear r0 r1 h2
      repeat' (first | go_values | go_skip | go_guarded | go_step | go_upon)
      go_ret
      exact BPost.okI HX.out ⟨rfl, H1.out.set1 _, He.out.setCell _ _⟩
    · go_enter Tryd.func86, Tryd.ntmps86
      repeat' (first | go_values | go_skip | go_guarded | go_step | go_upon)
      refine wp_region_wb (by kernel_rfl) (by kernel_rfl) w (Below.refl _ _) ?_
      repeat (go_big_quiet_step ((fail)))
      refine wpQuiet_nil ?_
      rintro _ ⟨nq, rfl⟩
      have hnq := nq.2
      have r0 : ∀ nr : WB nq.1, nr.1.cell? ⟨g, 0, none⟩ = some (.string S) := fun nr => (H.out.keep (hnq.trans (nr.2.mono hnq.size))).c0
      have r1 : ∀ nr : WB nq.1, nr.1.cell? ⟨g, 1, none⟩ = some (.int .i64 (i : Int)) := fun nr => (H.out.keep (hnq.trans (nr.2.mono hnq.size))).c1
      have Hq := Lib.hid hnq
      clear q0 q1 hnq
      repeat' (first | go_values | go_skip | go_guarded | go_step | go_upon)
      refine wp_region_wb (by kernel_rfl) (by kernel_rfl) nq.1 (Below.refl _ _) ?_
      repeat (go_big_quiet_step ((go_at_call 59; exact calls_wb_same ((h1 _).mono fun _ _ ⟨he, hw⟩ => ⟨he, hw.symm⟩))))
      refine wpQuiet_nil ?_
      rintro _ ⟨nr, rfl⟩
      have Hr := Lib.hid (Hq.out.trans (nr.2.mono Hq.out.size))
      clear r0 r1 h1 Hq
      have r0 : ∀ nt : WB nr.1, nt.1.cell? ⟨g, 0, none⟩ = some (.string S) := fun nt => (H.out.keep (Hr.out.trans (nt.2.mono Hr.out.size))).c0
      have r1 : ∀ nt : WB nr.1, nt.1.cell? ⟨g, 1, none⟩ = some (.int .i64 (i : Int)) := fun nt => (H.out.keep (Hr.out.trans (nt.2.mono Hr.out.size))).c1
      repeat' (first | go_values | go_skip | go_guarded | go_step | go_upon)
      refine wp_region_wb (by kernel_rfl) (by kernel_rfl) nr.1 (Below.refl _ _) ?_
      repeat (go_big_quiet_step ((go_at_call 59; exact calls_wb_same ((h2 _).mono fun _ _ ⟨he, hw⟩ => ⟨he, hw.symm⟩))))
      refine wpQuiet_nil ?_
      rintro _ ⟨nt, rfl⟩
      have Hb := Lib.hid (Hr.out.trans (nt.2.mono Hr.out.size))
      have H1 := Lib.hid (H.out.keep Hb.out)
      have He := Lib.hid (Else.of_below (g := g) Hb.out)
      have c1 := H1.out.c1
      have f1 := H1.out.free 1
      clear r0 r1 h2
      have hf := ps_fail g S i d nt.1 H1.out
      repeat' (first | go_values | go_skip | go_guarded | go_step | go_upon)
      refine Calls.mono hf ?_
      rintro _ w2 ⟨rfl, rfl⟩
      exact ⟨rfl, BPost.badI HX.out ⟨rfl, He.out⟩⟩
  · have hlt' : (i : Int) ≥ S.size := by omega
    rw [if_neg hlt] at hX
    have HX := Lib.hid hX
    clear hX
    go_enter Tryd.func86, Tryd.ntmps86
    repeat' (first | go_values | go_skip | go_guarded | go_step | go_upon)
    refine wp_region_wb (by kernel_rfl) (by kernel_rfl) w (Below.refl _ _) ?_
    repeat (go_big_quiet_step ((fail)))
    refine wpQuiet_nil ?_
    rintro _ ⟨nq, rfl⟩
    have hnq := nq.2
    have hf := ps_fail g S i d nq.1 (H.out.keep hnq)
    have HB := Lib.hid (Else.of_below (g := g) hnq)
    clear q0 q1 hnq H
    repeat' (first | go_values | go_skip | go_guarded | go_step | go_upon)
    refine Calls.mono hf ?_
    rintro _ w2 ⟨rfl, rfl⟩
    exact ⟨rfl, BPost.badI HX.out.symm ⟨rfl, HB.out⟩⟩
end Go.Proofs.YtnbfifmnigeolaaDoor
namespace Go.Proofs.YtnbfifmnigeolaaDoor
open Go.RowKit Go.Lib
theorem idx_ge (l : List UInt8) (c : UInt8) : -1 ≤ Lib.indexByte l c := Lib.indexByte_ge l c
theorem shl4 : ∀ a : Fin 16, ∀ b : Fin 16, bits .or .u8 ((a.val : Int) * 16) (b.val : Int) = ((16 * a.val + b.val : Nat) : Int) := by decide
theorem hexV_lt {c a : Nat} (h : hexV c = some a) : a < 16 := by
  unfold hexV at h
  split at h
  · simp only [Option.some.injEq] at h; omega
  split at h
  · simp only [Option.some.injEq] at h; omega
  split at h
  · simp only [Option.some.injEq] at h; omega
  · cases h
theorem hexR_lt {s : List UInt8} {i a j : Nat} (h : hexR s i = .ok a j) : a < 16 := by
  unfold hexR at h
  split at h
  · split at h
    · rename_i n hh
      simp only [PR.ok.injEq] at h
      obtain ⟨rfl, _⟩ := h
      exact hexV_lt hh
    · cases h
  · cases h
set_option maxRecDepth 100000 in
theorem ps_escape (g : Nat) (S : ByteArray) (i d : Nat) (hS : S.size ≤ 512) (hi : i ≤ S.size) (w : World) (h : PsAt w g S i d) :
    Calls Tryd.prog 75 #[.pointer (some ⟨g, 0, none⟩)] w (BPost g S d w (escR S.data.toList i)) := by
  obtain ⟨X, hX⟩ : ∃ X, escR S.data.toList i = X := ⟨_, rfl⟩
  rw [hX]
  unfold escR at hX
  rw [ba_len] at hX
  have q0 : ∀ nq : WB w, nq.1.cell? ⟨g, 0, none⟩ = some (.string S) := fun nq => (h.keep nq.2).c0
  have q1 : ∀ nq : WB w, nq.1.cell? ⟨g, 1, none⟩ = some (.int .i64 (i : Int)) := fun nq => (h.keep nq.2).c1
  have H := Lib.hid h
  clear h
  by_cases hlt : i < S.size
  · have hlt' : ¬ (i : Int) ≥ S.size := by omega
    rw [if_pos hlt] at hX
    have hx := byte_is S i hlt
    have hb := bt_lt S.data.toList i
    generalize bt S.data.toList i = x at hx hX hb
    have hw : IntKind.i64.wrap ((i : Int) + 1) = ((i + 1 : Nat) : Int) := by rw [wi64 (by unfold I64; omega)]; omega
    have hj5 : i + 1 ≤ 512 := by omega
    obtain ⟨j, hj⟩ : ∃ j, i + 1 = j := ⟨_, rfl⟩
    rw [hj] at hw hX hj5
    have HS := Lib.hid hS
    clear hj hi hS hlt
    by_cases h1 : x = 110
    · rw [if_pos h1] at hX
      subst h1
      have HX := Lib.hid hX.symm
      clear hX hb
      go_enter Tryd.func75, Tryd.ntmps75
      repeat' (first | go_values | go_skip | go_guarded | go_step | go_upon)
      refine wp_region_wb (by kernel_rfl) (by kernel_rfl) w (Below.refl _ _) ?_
      repeat (go_big_quiet_step ((fail)))
      refine wpQuiet_nil ?_
      rintro _ ⟨nq, rfl⟩
      have hnq := nq.2
      have r0 : ∀ nr : WB nq.1, nr.1.cell? ⟨g, 0, none⟩ = some (.string S) := fun nr => (H.out.keep (hnq.trans (nr.2.mono hnq.size))).c0
      have r1 : ∀ nr : WB nq.1, nr.1.cell? ⟨g, 1, none⟩ = some (.int .i64 (i : Int)) := fun nr => (H.out.keep (hnq.trans (nr.2.mono hnq.size))).c1
      have Hq := Lib.hid hnq
      clear q0 q1 hnq
      repeat' (first | go_values | go_skip | go_guarded | go_step | go_upon)
      refine wp_region_wb (by kernel_rfl) (by kernel_rfl) nq.1 (Below.refl _ _) ?_
      repeat (go_big_quiet_step (fail))
      refine wpQuiet_nil ?_
      rintro _ ⟨nr, rfl⟩
      have Hr := Lib.hid (Hq.out.trans (nr.2.mono Hq.out.size))
      have H1 := Lib.hid (H.out.keep Hr.out)
      have He := Lib.hid (Else.of_below (g := g) Hr.out)
      have c1 := H1.out.c1
      have f1 := H1.out.free 1
      clear r0 r1 Hq
      repeat' (first | go_values | go_skip | go_guarded | go_step | go_upon)
      go_ret
      exact BPost.okI HX.out ⟨rfl, H1.out.set1 _, He.out.setCell _ _⟩
    rw [if_neg h1] at hX
    have b1 : ((x : Int) == 110) = false := beq_false_of_ne (by omega)
    by_cases h2 : x = 116
    · rw [if_pos h2] at hX
      subst h2
      have HX := Lib.hid hX.symm
      clear hX hb
      go_enter Tryd.func75, Tryd.ntmps75
      repeat' (first | go_values | go_skip | go_guarded | go_step | go_upon)
      refine wp_region_wb (by kernel_rfl) (by kernel_rfl) w (Below.refl _ _) ?_
      repeat (go_big_quiet_step ((fail)))
      refine wpQuiet_nil ?_
      rintro _ ⟨nq, rfl⟩
      have hnq := nq.2
      have r0 : ∀ nr : WB nq.1, nr.1.cell? ⟨g, 0, none⟩ = some (.string S) := fun nr => (H.out.keep (hnq.trans (nr.2.mono hnq.size))).c0
      have r1 : ∀ nr : WB nq.1, nr.1.cell? ⟨g, 1, none⟩ = some (.int .i64 (i : Int)) := fun nr => (H.out.keep (hnq.trans (nr.2.mono hnq.size))).c1
      have Hq := Lib.hid hnq
      clear q0 q1 hnq
      repeat' (first | go_values | go_skip | go_guarded | go_step | go_upon)
      refine wp_region_wb (by kernel_rfl) (by kernel_rfl) nq.1 (Below.refl _ _) ?_
      repeat (go_big_quiet_step (fail))
      refine wpQuiet_nil ?_
      rintro _ ⟨nr, rfl⟩
      have Hr := Lib.hid (Hq.out.trans (nr.2.mono Hq.out.size))
      have H1 := Lib.hid (H.out.keep Hr.out)
      have He := Lib.hid (Else.of_below (g := g) Hr.out)
      have c1 := H1.out.c1
      have f1 := H1.out.free 1
      clear r0 r1 Hq
      repeat' (first | go_values | go_skip | go_guarded | go_step | go_upon)
      go_ret
      exact BPost.okI HX.out ⟨rfl, H1.out.set1 _, He.out.setCell _ _⟩
    rw [if_neg h2] at hX
    have b2 : ((x : Int) == 116) = false := beq_false_of_ne (by omega)
    by_cases h3 : x = 114
    · rw [if_pos h3] at hX
      subst h3
      have HX := Lib.hid hX.symm
      clear hX hb
      go_enter Tryd.func75, Tryd.ntmps75
      repeat' (first | go_values | go_skip | go_guarded | go_step | go_upon)
      refine wp_region_wb (by kernel_rfl) (by kernel_rfl) w (Below.refl _ _) ?_
      repeat (go_big_quiet_step ((fail)))
      refine wpQuiet_nil ?_
      rintro _ ⟨nq, rfl⟩
      have hnq := nq.2
      have r0 : ∀ nr : WB nq.1, nr.1.cell? ⟨g, 0, none⟩ = some (.string S) := fun nr => (H.out.keep (hnq.trans (nr.2.mono hnq.size))).c0
      have r1 : ∀ nr : WB nq.1, nr.1.cell? ⟨g, 1, none⟩ = some (.int .i64 (i : Int)) := fun nr => (H.out.keep (hnq.trans (nr.2.mono hnq.size))).c1
      have Hq := Lib.hid hnq
      clear q0 q1 hnq
      repeat' (first | go_values | go_skip | go_guarded | go_step | go_upon)
      refine wp_region_wb (by kernel_rfl) (by kernel_rfl) nq.1 (Below.refl _ _) ?_
      repeat (go_big_quiet_step (fail))
      refine wpQuiet_nil ?_
      rintro _ ⟨nr, rfl⟩
      have Hr := Lib.hid (Hq.out.trans (nr.2.mono Hq.out.size))
      have H1 := Lib.hid (H.out.keep Hr.out)
      have He := Lib.hid (Else.of_below (g := g) Hr.out)
      have c1 := H1.out.c1
      have f1 := H1.out.free 1
      clear r0 r1 Hq
      repeat' (first | go_values | go_skip | go_guarded | go_step | go_upon)
      go_ret
      exact BPost.okI HX.out ⟨rfl, H1.out.set1 _, He.out.setCell _ _⟩
    rw [if_neg h3] at hX
    have b3 : ((x : Int) == 114) = false := beq_false_of_ne (by omega)
    by_cases h4 : x = 120
    · rw [if_pos h4] at hX
      subst h4
      have HX := Lib.hid hX.symm
      clear hX hb
      go_enter Tryd.func75, Tryd.ntmps75
      repeat' (first | go_values | go_skip | go_guarded | go_step | go_upon)
      refine wp_region_wb (by kernel_rfl) (by kernel_rfl) w (Below.refl _ _) ?_
      repeat (go_big_quiet_step ((fail)))
      refine wpQuiet_nil ?_
      rintro _ ⟨nq, rfl⟩
      have hnq := nq.2
      have r0 : ∀ nr : WB nq.1, nr.1.cell? ⟨g, 0, none⟩ = some (.string S) := fun nr => (H.out.keep (hnq.trans (nr.2.mono hnq.size))).c0
      have r1 : ∀ nr : WB nq.1, nr.1.cell? ⟨g, 1, none⟩ = some (.int .i64 (i : Int)) := fun nr => (H.out.keep (hnq.trans (nr.2.mono hnq.size))).c1
      have Hq := Lib.hid hnq
      clear q0 q1 hnq
      repeat' (first | go_values | go_skip | go_guarded | go_step | go_upon)
      refine wp_region_wb (by kernel_rfl) (by kernel_rfl) nq.1 (Below.refl _ _) ?_
      repeat (go_big_quiet_step (fail))
      refine wpQuiet_nil ?_
      rintro _ ⟨nr, rfl⟩
      have Hr := Lib.hid (Hq.out.trans (nr.2.mono Hq.out.size))
      have H1 := Lib.hid (H.out.keep Hr.out)
      have He := Lib.hid (Else.of_below (g := g) Hr.out)
      have c1 := H1.out.c1
      have f1 := H1.out.free 1
      clear r0 r1 Hq
      have H2 := Lib.hid (H1.out.set1 j)
      have He2 := Lib.hid (He.out.setCell 1 (.int .i64 (j : Int)))
      clear H1 He
      repeat' (first | go_values | go_skip | go_guarded | go_step | go_upon)
      have hc := ps_hex g S j d hj5 _ H2.out
      cases ha : hexR S.data.toList j with
      | ok a k =>
        rw [ha] at hc
        have ha16 := hexR_lt ha
        have hk : k ≤ 512 := by
          unfold hexR at ha
          rw [ba_len] at ha
          split at ha
          · split at ha
            · simp only [PR.ok.injEq] at ha; have := HS.out; omega
            · cases ha
          · cases ha
        have HA := Lib.hid ha
        clear ha
        refine Calls.mono (hc) ?_
        rintro _ w3 ⟨rfl, hp, he⟩
        dsimp only
        have HP := Lib.hid hp
        have HE := Lib.hid (He2.out.trans he)
        clear hp he hc H2 He2 hx b1 b2 b3
        repeat' (first | go_values | go_skip | go_guarded | go_step | go_upon)
        have hc := ps_hex g S k d hk _ HP.out
        cases hb : hexR S.data.toList k with
        | ok b l =>
          rw [hb] at hc
          have hb16 := hexR_lt hb
          have HB := Lib.hid hb
          clear hb
          refine Calls.mono (hc) ?_
          rintro _ w4 ⟨rfl, hp, he⟩
          dsimp only
          have HP4 := Lib.hid hp
          have HE4 := Lib.hid (HE.out.trans he)
          have hor := shl4 ⟨a, ha16⟩ ⟨b, hb16⟩
          dsimp only at hor
          have HX2 : Hid (X = .ok (16 * a + b) l) := Lib.hid (HX.out.trans (by rw [HA.out]; simp only [PR.bind]; rw [HB.out]))
          generalize 16 * a + b = v at hor HX2
          clear hp he hc HP HE
          repeat' (first | go_values | go_skip | go_guarded | go_step | go_upon)
          go_ret
          exact BPost.okI HX2.out ⟨rfl, HP4.out, HE4.out⟩
        | bad e0 l =>
          rw [hb] at hc
          have HB := Lib.hid hb
          clear hb
          refine Calls.mono hc ?_
          rintro _ w4 ⟨rfl, he⟩
          exact ⟨rfl, BPost.badI (HX.out.trans (by rw [HA.out]; simp only [PR.bind]; rw [HB.out])) ⟨rfl, HE.out.trans he⟩⟩
        | out => exact absurd hb hexR_out
      | bad e0 k =>
        rw [ha] at hc
        have HA := Lib.hid ha
        clear ha
        refine Calls.mono hc ?_
        rintro _ w3 ⟨rfl, he⟩
        exact ⟨rfl, BPost.badI (HX.out.trans (by rw [HA.out]; rfl)) ⟨rfl, He2.out.trans he⟩⟩
      | out => exact absurd ha hexR_out
    rw [if_neg h4] at hX
    have b4 : ((x : Int) == 120) = false := beq_false_of_ne (by omega)
    have hI : ∀ W, Calls Tryd.prog 59 #[.string ⟨#[92, 40, 41, 91, 93, 123, 125, 46, 42, 43, 63, 124, 94, 36, 45, 47]⟩, .int .u8 (x : Nat)] W fun e w' => e = .returned (.int .i64 (Lib.indexByte [92, 40, 41, 91, 93, 123, 125, 46, 42, 43, 63, 124, 94, 36, 45, 47] ((x : Nat) : Int).toNat.toUInt8)) ∧ w' = W := fun W => Tryd.strings_IndexByte ⟨#[92, 40, 41, 91, 93, 123, 125, 46, 42, 43, 63, 124, 94, 36, 45, 47]⟩ (x : Nat) W
    have e1 := ix_esc ⟨x, hb⟩
    dsimp only at e1
    generalize Lib.indexByte [92, 40, 41, 91, 93, 123, 125, 46, 42, 43, 63, 124, 94, 36, 45, 47] ((x : Nat) : Int).toNat.toUInt8 = v1 at hI e1
    rw [decide_eq_decide] at e1
    by_cases h5 : x ∈ sgP ∨ x = 45 ∨ x = 47
    · rw [if_pos h5] at hX
      have hv : ¬ v1 < 0 := by have := e1.2 h5; omega
      have HX := Lib.hid hX.symm
      clear hX hb e1 h5 h1 h2 h3 h4
      go_enter Tryd.func75, Tryd.ntmps75
      repeat' (first | go_values | go_skip | go_guarded | go_step | go_upon)
      refine wp_region_wb (by kernel_rfl) (by kernel_rfl) w (Below.refl _ _) ?_
      repeat (go_big_quiet_step ((fail)))
      refine wpQuiet_nil ?_
      rintro _ ⟨nq, rfl⟩
      have hnq := nq.2
      have r0 : ∀ nr : WB nq.1, nr.1.cell? ⟨g, 0, none⟩ = some (.string S) := fun nr => (H.out.keep (hnq.trans (nr.2.mono hnq.size))).c0
      have r1 : ∀ nr : WB nq.1, nr.1.cell? ⟨g, 1, none⟩ = some (.int .i64 (i : Int)) := fun nr => (H.out.keep (hnq.trans (nr.2.mono hnq.size))).c1
      have Hq := Lib.hid hnq
      clear q0 q1 hnq
      repeat' (first | go_values | go_skip | go_guarded | go_step | go_upon)
      refine wp_region_wb (by kernel_rfl) (by kernel_rfl) nq.1 (Below.refl _ _) ?_
      repeat (go_big_quiet_step (fail))
      refine wpQuiet_nil ?_
      rintro _ ⟨nr, rfl⟩
      have Hr := Lib.hid (Hq.out.trans (nr.2.mono Hq.out.size))
      have H1 := Lib.hid (H.out.keep Hr.out)
      have He := Lib.hid (Else.of_below (g := g) Hr.out)
      have c1 := H1.out.c1
      have f1 := H1.out.free 1
      clear r0 r1 Hq
      repeat' (first | go_values | go_skip | go_guarded | go_step | go_upon)
      refine Calls.mono ((hI _)) ?_
      rintro _ w3 ⟨rfl, rfl⟩
      dsimp only
      repeat' (first | go_values | go_skip | go_guarded | go_step | go_upon)
      go_ret
      exact BPost.okI HX.out ⟨rfl, H1.out.set1 _, He.out.setCell _ _⟩
    · rw [if_neg h5] at hX
      have hv : v1 < 0 := by have := mt e1.1 h5; omega
      have HX := Lib.hid hX.symm
      clear hX hb e1 h5 h1 h2 h3 h4
      go_enter Tryd.func75, Tryd.ntmps75
      repeat' (first | go_values | go_skip | go_guarded | go_step | go_upon)
      refine wp_region_wb (by kernel_rfl) (by kernel_rfl) w (Below.refl _ _) ?_
      repeat (go_big_quiet_step ((fail)))
      refine wpQuiet_nil ?_
      rintro _ ⟨nq, rfl⟩
      have hnq := nq.2
      have r0 : ∀ nr : WB nq.1, nr.1.cell? ⟨g, 0, none⟩ = some (.string S) := fun nr => (H.out.keep (hnq.trans (nr.2.mono hnq.size))).c0
      have r1 : ∀ nr : WB nq.1, nr.1.cell? ⟨g, 1, none⟩ = some (.int .i64 (i : Int)) := fun nr => (H.out.keep (hnq.trans (nr.2.mono hnq.size))).c1
      have Hq := Lib.hid hnq
      clear q0 q1 hnq
      repeat' (first | go_values | go_skip | go_guarded | go_step | go_upon)
      refine wp_region_wb (by kernel_rfl) (by kernel_rfl) nq.1 (Below.refl _ _) ?_
      repeat (go_big_quiet_step (fail))
      refine wpQuiet_nil ?_
      rintro _ ⟨nr, rfl⟩
      have Hr := Lib.hid (Hq.out.trans (nr.2.mono Hq.out.size))
      have H1 := Lib.hid (H.out.keep Hr.out)
      have He := Lib.hid (Else.of_below (g := g) Hr.out)
      have c1 := H1.out.c1
      have f1 := H1.out.free 1
      clear r0 r1 Hq
      repeat' (first | go_values | go_skip | go_guarded | go_step | go_upon)
      refine Calls.mono ((hI _)) ?_
      rintro _ w3 ⟨rfl, rfl⟩
      dsimp only
      have hf := ps_fail g S i d nr.1 H1.out
      repeat' (first | go_values | go_skip | go_guarded | go_step | go_upon)
      refine Calls.mono hf ?_
      rintro _ w2 ⟨rfl, rfl⟩
      exact ⟨rfl, BPost.badI HX.out ⟨rfl, He.out⟩⟩
  · have hlt' : (i : Int) ≥ S.size := by omega
    rw [if_neg hlt] at hX
    have HX := Lib.hid hX
    clear hX
    go_enter Tryd.func75, Tryd.ntmps75
    repeat' (first | go_values | go_skip | go_guarded | go_step | go_upon)
    refine wp_region_wb (by kernel_rfl) (by kernel_rfl) w (Below.refl _ _) ?_
    repeat (go_big_quiet_step ((fail)))
    refine wpQuiet_nil ?_
    rintro _ ⟨nq, rfl⟩
    have hnq := nq.2
    have hf := ps_fail g S i d nq.1 (H.out.keep hnq)
    have HB := Lib.hid (Else.of_below (g := g) hnq)
    clear q0 q1 hnq H
    repeat' (first | go_values | go_skip | go_guarded | go_step | go_upon)
    refine Calls.mono hf ?_
    rintro _ w2 ⟨rfl, rfl⟩
    exact ⟨rfl, BPost.badI HX.out.symm ⟨rfl, HB.out⟩⟩
set_option maxRecDepth 100000 in
set_option maxHeartbeats 1000000 in
theorem ps_point (g : Nat) (S : ByteArray) (i d : Nat) (hS : S.size ≤ 512) (hi : i ≤ S.size) (w : World) (h : PsAt w g S i d) :
    Calls Tryd.prog 84 #[.pointer (some ⟨g, 0, none⟩)] w (BPost g S d w (pntR S.data.toList i)) := by
  obtain ⟨X, hX⟩ : ∃ X, pntR S.data.toList i = X := ⟨_, rfl⟩
  rw [hX]
  unfold pntR at hX
  rw [ba_len] at hX
  by_cases h92 : isC S.data.toList i 92
  · rw [if_pos h92] at hX
    have hlt := h92.1
    rw [ba_len] at hlt
    have hcall := ps_take_y g S i d 92 (by omega) w h h92
    have HX := Lib.hid hX
    have HL := Lib.hid hlt
    have HS := Lib.hid hS
    clear hX hlt hi hS h h92
    go_enter Tryd.func84, Tryd.ntmps84
    repeat' (first | go_values | go_skip | go_guarded | go_step | go_upon)
    refine Calls.mono (hcall) ?_
    rintro _ w1 ⟨rfl, hp, he⟩
    dsimp only
    have HE := Lib.hid he
    have hc := ps_escape g S (i + 1) d HS.out HL.out w1 hp
    rw [HX.out] at hc
    clear hcall hp he
    repeat' (first | go_values | go_skip | go_guarded | go_step | go_upon)
    cases X with
    | ok a j =>
      refine Calls.mono (hc) ?_
      rintro _ w2 ⟨rfl, hp, he⟩
      dsimp only
      have HP := Lib.hid hp
      have HE2 := Lib.hid (HE.out.trans he)
      clear hc hp he
      repeat' (first | go_values | go_skip | go_guarded | go_step | go_upon)
      go_ret
      exact BPost.okI rfl ⟨rfl, HP.out, HE2.out⟩
    | bad e0 j =>
      refine Calls.mono hc ?_
      rintro _ w2 ⟨rfl, he⟩
      exact ⟨rfl, BPost.badI rfl ⟨rfl, HE.out.trans he⟩⟩
    | out => exact absurd HX.out escR_out
  rw [if_neg h92] at hX
  have hcall := ps_take_n g S i d 92 w h h92
  have H := Lib.hid h
  clear h h92
  by_cases hlt : i < S.size
  · have hlt' : ¬ (i : Int) ≥ S.size := by omega
    have hx := byte_is S i hlt
    have hC : ∀ c, isC S.data.toList i c ↔ bt S.data.toList i = c := fun c => ⟨fun q => q.2, fun q => ⟨by rw [ba_len]; exact hlt, q⟩⟩
    have hw : IntKind.i64.wrap ((i : Int) + 1) = ((i + 1 : Nat) : Int) := by rw [wi64 (by unfold I64; omega)]; omega
    have hw2 : IntKind.i64.wrap (((i + 1 : Nat) : Int) - 1) = (i : Int) := by rw [wi64 (by unfold I64; omega)]; omega
    obtain ⟨j, hj⟩ : ∃ j, i + 1 = j := ⟨_, rfl⟩
    rw [hj] at hw hX hw2
    clear hj hi hS
    by_cases h93 : isC S.data.toList i 93
    · have HX : Hid (X = .bad 60 i) := Lib.hid (by rw [← hX, if_neg]; rintro ⟨_, q, _⟩; exact q h93.2)
      have HC := Lib.hid h93
      clear hX hC h93 hx hw hw2
      go_enter Tryd.func84, Tryd.ntmps84
      repeat' (first | go_values | go_skip | go_guarded | go_step | go_upon)
      refine Calls.mono (hcall) ?_
      rintro _ w1 ⟨rfl, hb⟩
      dsimp only
      have H1 := Lib.hid (H.out.keep hb)
      have HE := Lib.hid (Else.of_below (g := g) hb)
      clear hcall hb H
      have q0 : ∀ nq : WB w1, nq.1.cell? ⟨g, 0, none⟩ = some (.string S) := fun nq => (H1.out.keep nq.2).c0
      have q1 : ∀ nq : WB w1, nq.1.cell? ⟨g, 1, none⟩ = some (.int .i64 (i : Int)) := fun nq => (H1.out.keep nq.2).c1
      have k93 : ∀ n : WB w1, Calls Tryd.prog 50 #[.pointer (some ⟨g, 0, none⟩), .int .u8 93] n.1 (fun e w' => e = .returned (.bool true) ∧ Below n.1.heap.size n.1 w') := fun n => ps_is_y g S i d 93 n.1 (H1.out.keep n.2) HC.out
      skip
      repeat' (first | go_values | go_skip | go_guarded | go_step | go_upon)
      refine wp_region_wb (by kernel_rfl) (by kernel_rfl) w1 (Below.refl _ _) ?_
      repeat (go_big_quiet_step ((go_at_call 50; exact calls_wb (k93 _))))
      refine wpQuiet_nil ?_
      rintro _ ⟨nr, rfl⟩
      have HR := Lib.hid (H1.out.keep nr.2)
      have HE2 := Lib.hid (HE.out.trans (Else.of_below (g := g) nr.2))
      clear q0 q1 H1 HE
      have hf := ps_fail g S i d nr.1 HR.out
      repeat' (first | go_values | go_skip | go_guarded | go_step | go_upon)
      refine Calls.mono hf ?_
      rintro _ w2 ⟨rfl, rfl⟩
      exact ⟨rfl, BPost.badI HX.out ⟨rfl, HE2.out⟩⟩
    by_cases h45 : isC S.data.toList i 45
    · have HX : Hid (X = .bad 60 i) := Lib.hid (by rw [← hX, if_neg]; rintro ⟨_, _, q⟩; exact q h45.2)
      have HC := Lib.hid h93
      have HD := Lib.hid h45
      clear hX hC h93 h45 hx hw hw2
      go_enter Tryd.func84, Tryd.ntmps84
      repeat' (first | go_values | go_skip | go_guarded | go_step | go_upon)
      refine Calls.mono (hcall) ?_
      rintro _ w1 ⟨rfl, hb⟩
      dsimp only
      have H1 := Lib.hid (H.out.keep hb)
      have HE := Lib.hid (Else.of_below (g := g) hb)
      clear hcall hb H
      have q0 : ∀ nq : WB w1, nq.1.cell? ⟨g, 0, none⟩ = some (.string S) := fun nq => (H1.out.keep nq.2).c0
      have q1 : ∀ nq : WB w1, nq.1.cell? ⟨g, 1, none⟩ = some (.int .i64 (i : Int)) := fun nq => (H1.out.keep nq.2).c1
      have k93 : ∀ n : WB w1, Calls Tryd.prog 50 #[.pointer (some ⟨g, 0, none⟩), .int .u8 93] n.1 (fun e w' => e = .returned (.bool false) ∧ Below n.1.heap.size n.1 w') := fun n => ps_is_n g S i d 93 n.1 (H1.out.keep n.2) HC.out
      have k45 : ∀ n : WB w1, Calls Tryd.prog 50 #[.pointer (some ⟨g, 0, none⟩), .int .u8 45] n.1 (fun e w' => e = .returned (.bool true) ∧ Below n.1.heap.size n.1 w') := fun n => ps_is_y g S i d 45 n.1 (H1.out.keep n.2) HD.out
      repeat' (first | go_values | go_skip | go_guarded | go_step | go_upon)
      refine wp_region_wb (by kernel_rfl) (by kernel_rfl) w1 (Below.refl _ _) ?_
      repeat (go_big_quiet_step ((go_at_call 50; first|with_reducible exact calls_wb (k93 _)|with_reducible exact calls_wb (k45 _))))
      refine wpQuiet_nil ?_
      rintro _ ⟨nr, rfl⟩
      have HR := Lib.hid (H1.out.keep nr.2)
      have HE2 := Lib.hid (HE.out.trans (Else.of_below (g := g) nr.2))
      clear q0 q1 H1 HE
      have hf := ps_fail g S i d nr.1 HR.out
      repeat' (first | go_values | go_skip | go_guarded | go_step | go_upon)
      refine Calls.mono hf ?_
      rintro _ w2 ⟨rfl, rfl⟩
      exact ⟨rfl, BPost.badI HX.out ⟨rfl, HE2.out⟩⟩
    · have HX : Hid (X = .ok (bt S.data.toList i) j) := Lib.hid (by rw [← hX, if_pos]; exact ⟨hlt, fun q => h93 ((hC 93).2 q), fun q => h45 ((hC 45).2 q)⟩)
      have HC := Lib.hid h93
      have HD := Lib.hid h45
      clear hX hC h93 h45
      go_enter Tryd.func84, Tryd.ntmps84
      repeat' (first | go_values | go_skip | go_guarded | go_step | go_upon)
      refine Calls.mono (hcall) ?_
      rintro _ w1 ⟨rfl, hb⟩
      dsimp only
      have H1 := Lib.hid (H.out.keep hb)
      have HE := Lib.hid (Else.of_below (g := g) hb)
      clear hcall hb H
      have q0 : ∀ nq : WB w1, nq.1.cell? ⟨g, 0, none⟩ = some (.string S) := fun nq => (H1.out.keep nq.2).c0
      have q1 : ∀ nq : WB w1, nq.1.cell? ⟨g, 1, none⟩ = some (.int .i64 (i : Int)) := fun nq => (H1.out.keep nq.2).c1
      have k93 : ∀ n : WB w1, Calls Tryd.prog 50 #[.pointer (some ⟨g, 0, none⟩), .int .u8 93] n.1 (fun e w' => e = .returned (.bool false) ∧ Below n.1.heap.size n.1 w') := fun n => ps_is_n g S i d 93 n.1 (H1.out.keep n.2) HC.out
      have k45 : ∀ n : WB w1, Calls Tryd.prog 50 #[.pointer (some ⟨g, 0, none⟩), .int .u8 45] n.1 (fun e w' => e = .returned (.bool false) ∧ Below n.1.heap.size n.1 w') := fun n => ps_is_n g S i d 45 n.1 (H1.out.keep n.2) HD.out
      repeat' (first | go_values | go_skip | go_guarded | go_step | go_upon)
      refine wp_region_wb (by kernel_rfl) (by kernel_rfl) w1 (Below.refl _ _) ?_
      repeat (go_big_quiet_step ((go_at_call 50; first|with_reducible exact calls_wb (k93 _)|with_reducible exact calls_wb (k45 _))))
      refine wpQuiet_nil ?_
      rintro _ ⟨nr, rfl⟩
      have HR := Lib.hid (H1.out.keep nr.2)
      have HE2 := Lib.hid (HE.out.trans (Else.of_below (g := g) nr.2))
      clear q0 q1 H1 HE
      have c1 := HR.out.c1
      have f1 := HR.out.free 1
      repeat' (first | go_values | go_skip | go_guarded | go_step | go_upon)
      have HP := Lib.hid (HR.out.set1 j)
      have HE3 := Lib.hid (HE2.out.setCell 1 (.int .i64 (j : Int)))
      refine gen_wd (fun W => PsAt W g S j d ∧ Else g w W) ⟨HP.out, HE3.out⟩ ?_
      clear HP HE3 HR HE2 HC HD c1 f1
      rintro wx ⟨hp, he⟩
      have HP := Lib.hid hp
      have HE := Lib.hid he
      clear hp he
      have q0 : ∀ nq : WB wx, nq.1.cell? ⟨g, 0, none⟩ = some (.string S) := fun nq => (HP.out.keep nq.2).c0
      have q1 : ∀ nq : WB wx, nq.1.cell? ⟨g, 1, none⟩ = some (.int .i64 (j : Int)) := fun nq => (HP.out.keep nq.2).c1
      generalize bt S.data.toList i = x at hx HX
      refine wp_region_wb (by kernel_rfl) (by kernel_rfl) wx (Below.refl _ _) ?_
      repeat (go_big_quiet_step ((fail)))
      refine wpQuiet_nil ?_
      rintro _ ⟨nq, rfl⟩
      have hnq := nq.2
      have HP2 := Lib.hid (HP.out.keep hnq)
      have HE2 := Lib.hid (HE.out.trans (Else.of_below (g := g) hnq))
      clear q0 q1 hnq
      repeat' (first | go_values | go_skip | go_guarded | go_step | go_upon)
      go_ret
      exact BPost.okI HX.out ⟨rfl, HP2.out, HE2.out⟩
  · have hlt' : (i : Int) ≥ S.size := by omega
    have HX : Hid (X = .bad 60 i) := Lib.hid (by rw [← hX, if_neg]; rintro ⟨q, _⟩; exact hlt q)
    clear hX
    go_enter Tryd.func84, Tryd.ntmps84
    repeat' (first | go_values | go_skip | go_guarded | go_step | go_upon)
    refine Calls.mono (hcall) ?_
    rintro _ w1 ⟨rfl, hb⟩
    dsimp only
    have H1 := Lib.hid (H.out.keep hb)
    have HE := Lib.hid (Else.of_below (g := g) hb)
    clear hcall hb H
    have q0 : ∀ nq : WB w1, nq.1.cell? ⟨g, 0, none⟩ = some (.string S) := fun nq => (H1.out.keep nq.2).c0
    have q1 : ∀ nq : WB w1, nq.1.cell? ⟨g, 1, none⟩ = some (.int .i64 (i : Int)) := fun nq => (H1.out.keep nq.2).c1
    skip
    skip
    repeat' (first | go_values | go_skip | go_guarded | go_step | go_upon)
    refine wp_region_wb (by kernel_rfl) (by kernel_rfl) w1 (Below.refl _ _) ?_
    repeat (go_big_quiet_step ((fail)))
    refine wpQuiet_nil ?_
    rintro _ ⟨nr, rfl⟩
    have HR := Lib.hid (H1.out.keep nr.2)
    have HE2 := Lib.hid (HE.out.trans (Else.of_below (g := g) nr.2))
    clear q0 q1 H1 HE
    have hf := ps_fail g S i d nr.1 HR.out
    repeat' (first | go_values | go_skip | go_guarded | go_step | go_upon)
    refine Calls.mono hf ?_
    rintro _ w2 ⟨rfl, rfl⟩
    exact ⟨rfl, BPost.badI HX.out ⟨rfl, HE2.out⟩⟩
end Go.Proofs.YtnbfifmnigeolaaDoor
namespace Go.Proofs.YtnbfifmnigeolaaDoor
open Go.RowKit Go.Lib
/-- the number that the digits from i to a make -/
def nvl (s : List UInt8) (i a : Nat) : Nat := if a = i then 0 else if a = i + 1 then bt s i - 48 else 10 * (bt s i - 48) + (bt s (i + 1) - 48)
theorem nvl_next {s : List UInt8} {i a : Nat} (h1 : i ≤ a) (h2 : a < i + 2) : nvl s i (a + 1) = 10 * nvl s i a + (bt s a - 48) := by
  unfold nvl
  rcases (by omega : a = i ∨ a = i + 1) with rfl | rfl
  · rw [if_neg (by omega), if_pos rfl, if_pos rfl]; omega
  · rw [if_neg (by omega), if_neg (by omega), if_neg (by omega), if_pos rfl]
theorem nvl_le {s : List UInt8} {i a : Nat} (hd : ∀ j, i ≤ j → j < a → isD s j) (h1 : i ≤ a) : nvl s i a ≤ 99 := by
  unfold nvl
  split
  · omega
  split
  · have := (hd i (Nat.le_refl _) (by omega)).2; omega
  · have := (hd i (Nat.le_refl _) (by omega)).2
    have := (hd (i + 1) (by omega) (by omega)).2
    omega
theorem num_exit {s : List UInt8} {i a least : Nat} (h1 : i ≤ a) (h2 : a ≤ i + 2) (hd : ∀ j, i ≤ j → j < a → isD s j) (hx : a = i + 2 ∨ ¬ isD s a) :
    (a = i → numR s least i = .bad 60 i) ∧ (a ≠ i → (20 < nvl s i a ∨ nvl s i a < least → numR s least i = .bad 60 i) ∧ (¬ (20 < nvl s i a ∨ nvl s i a < least) → numR s least i = .ok (nvl s i a) a)) := by
  rcases (by omega : a = i ∨ a = i + 1 ∨ a = i + 2) with rfl | rfl | rfl
  · refine ⟨fun _ => ?_, fun h => absurd rfl h⟩
    have := hx.resolve_left (by omega)
    unfold numR; rw [if_neg this]
  · refine ⟨fun h => by omega, fun _ => ?_⟩
    have hn := hx.resolve_left (by omega)
    have hi := hd i (Nat.le_refl _) (by omega)
    have hb := hi.2
    unfold numR nvl
    rw [if_pos hi, if_neg hn, if_neg (by omega), if_pos rfl]
    exact ⟨fun h => if_pos (by omega), fun h => if_neg (by omega)⟩
  · refine ⟨fun h => by omega, fun _ => ?_⟩
    unfold numR nvl
    rw [if_pos (hd i (Nat.le_refl _) (by omega)), if_pos (hd (i + 1) (by omega) (by omega)), if_neg (by omega), if_neg (by omega)]
    exact ⟨fun h => if_pos h, fun h => if_neg h⟩
set_option maxRecDepth 100000 in
theorem ps_digit_y (x : Nat) (h : 48 ≤ x ∧ x ≤ 57) (w : World) : Calls Tryd.prog 76 #[.int .u8 (x : Int)] w fun e w' => e = .returned (.bool true) ∧ w = w' := by
  have h1 : (x : Int) ≥ 48 := by omega
  have h2 : (x : Int) ≤ 57 := by omega
  clear h
  go_enter Tryd.func76, Tryd.ntmps76
  repeat' (first | go_values | go_skip | go_guarded | go_step | go_upon)
  go_ret
  exact ⟨rfl, rfl⟩
set_option maxRecDepth 100000 in
theorem ps_digit_n (x : Nat) (h : ¬ (48 ≤ x ∧ x ≤ 57)) (w : World) : Calls Tryd.prog 76 #[.int .u8 (x : Int)] w fun e w' => e = .returned (.bool false) ∧ w = w' := by
  by_cases h0 : 48 ≤ x
  · have h1 : (x : Int) ≥ 48 := by omega
    have h2 : ¬ (x : Int) ≤ 57 := by omega
    clear h h0
    go_enter Tryd.func76, Tryd.ntmps76
    repeat' (first | go_values | go_skip | go_guarded | go_step | go_upon)
    go_ret
    exact ⟨rfl, rfl⟩
  · have h1 : ¬ (x : Int) ≥ 48 := by omega
    clear h h0
    go_enter Tryd.func76, Tryd.ntmps76
    repeat' (first | go_values | go_skip | go_guarded | go_step | go_upon)
    go_ret
    exact ⟨rfl, rfl⟩
/-- what a number's reading tells -/
def NPost (g : Nat) (S : ByteArray) (d : Nat) (w : World) (x : PR Nat) (e : Ending) (w' : World) : Prop :=
  match x with
  | .ok a j => e = .returned (.int .i64 (a : Int)) ∧ PsAt w' g S j d ∧ Else g w w'
  | .bad e0 j => e = stopE e0 j ∧ Else g w w'
  | .out => False
theorem NPost.okI {g : Nat} {S : ByteArray} {d : Nat} {w : World} {x : PR Nat} {e : Ending} {w' : World} {a j : Nat} (hx : x = .ok a j) (h : e = .returned (.int .i64 (a : Int)) ∧ PsAt w' g S j d ∧ Else g w w') : NPost g S d w x e w' := by subst hx; exact h
theorem NPost.badI {g : Nat} {S : ByteArray} {d : Nat} {w : World} {x : PR Nat} {e : Ending} {w' : World} {a j : Nat} (hx : x = .bad a j) (h : e = stopE a j ∧ Else g w w') : NPost g S d w x e w' := by subst hx; exact h
set_option maxRecDepth 100000 in
set_option maxHeartbeats 4000000 in
theorem ps_num (g : Nat) (S : ByteArray) (i d least : Nat) (hS : S.size ≤ 512) (hi : i ≤ S.size) (w : World) (h : PsAt w g S i d) :
    Calls Tryd.prog 63 #[.pointer (some ⟨g, 0, none⟩), .int .i64 (least : Int)] w (NPost g S d w (numR S.data.toList least i)) := by
  have hex := fun a => num_exit (s := S.data.toList) (i := i) (a := a) (least := least)
  obtain ⟨X, hX⟩ : ∃ X, numR S.data.toList least i = X := ⟨_, rfl⟩
  rw [hX] at hex ⊢
  have Hex := Lib.hid hex
  clear hX hex
  have H := Lib.hid h
  have c1 := h.c1
  clear h
  go_enter Tryd.func63, Tryd.ntmps63
  repeat' (first | go_values | go_skip | go_guarded | go_step | go_upon)
  go_loopg [6] 2 (fun gk s6 wr => ∃ a : Nat, s6 = .int .i64 (nvl S.data.toList i a : Nat) ∧ i ≤ a ∧ a + gk = i + 2 ∧ Hid (∀ j, i ≤ j → j < a → isD S.data.toList j) ∧ Hid (PsAt wr g S a d) ∧ Hid (Else g w wr))
  case atStart => exact ⟨i, by unfold nvl; rw [if_pos rfl]; rfl, Nat.le_refl _, rfl, Lib.hid (fun j h1 h2 => by omega), H, Lib.hid (Else.refl _ _)⟩
  case round =>
    clear H c1
    obtain ⟨a, rfl, hia, hag, HD, HP, HE⟩ := hrel
    have hN := nvl_le HD.out hia
    have Hnx := Lib.hid (fun h => nvl_next (s := S.data.toList) (i := i) (a := a) hia h)
    have HX := Lib.hid (Hex.out a hia (by omega) HD.out)
    obtain ⟨N, hNN⟩ : ∃ N, nvl S.data.toList i a = N := ⟨_, rfl⟩
    rw [hNN] at hN Hnx HX
    rw [hNN]
    have q0 : ∀ nq : WB wr, nq.1.cell? ⟨g, 0, none⟩ = some (.string S) := fun nq => (HP.out.keep nq.2).c0
    have q1 : ∀ nq : WB wr, nq.1.cell? ⟨g, 1, none⟩ = some (.int .i64 (a : Int)) := fun nq => (HP.out.keep nq.2).c1
    have hw2 : IntKind.i64.wrap ((i : Int) + 2) = (i : Int) + 2 := wi64 (by unfold I64; omega)
    by_cases hlt : a < S.size
    · have hlt' : (a : Int) < S.size := by omega
      have hx := byte_is S a hlt
      have hisD : isD S.data.toList a ↔ (48 ≤ bt S.data.toList a ∧ bt S.data.toList a ≤ 57) := ⟨fun q => q.2, fun q => ⟨by rw [ba_len]; exact hlt, q⟩⟩
      have hxb := bt_lt S.data.toList a
      have HnD := Lib.hid HD.out
      obtain ⟨x, hxx⟩ : ∃ x, bt S.data.toList a = x := ⟨_, rfl⟩
      rw [hxx] at hx hisD hxb Hnx
      have Hxx := Lib.hid hxx
      have HNN := Lib.hid hNN
      clear hxx hNN
      by_cases hdg : 48 ≤ x ∧ x ≤ 57
      · have kd := fun W => ps_digit_y x hdg W
        have hD : isD S.data.toList a := hisD.2 hdg
        clear hisD
        by_cases ha2 : a = i + 2
        · have HX := Lib.hid (HX.out (.inl ha2))
          have hge : ¬ (a : Int) < (i : Int) + 2 := by omega
          clear Hnx HD HnD hD hdg hxb hlt hag ha2
          repeat' (first | go_values | go_skip | go_guarded | go_step | go_upon)
          refine wp_region_wb (by kernel_rfl) (by kernel_rfl) wr (Below.refl _ _) ?_
          repeat (go_big_quiet_step ((go_at_call 76; exact calls_wb_same (kd _))))
          refine wpQuiet_nil ?_
          rintro _ ⟨nr, rfl⟩
          have HQ := Lib.hid (HP.out.keep nr.2)
          have HF := Lib.hid (HE.out.trans (Else.of_below (g := g) nr.2))
          have c1 := HQ.out.c1
          clear q0 q1 HP HE kd
          by_cases ha : a = i
          · have HY := Lib.hid (HX.out.1 ha)
            have hq : ((a : Int) == (i : Int)) = true := by rw [beq_iff_eq]; omega
            have Ha := Lib.hid ha
            clear HX ha
            repeat' (first | go_values | go_skip | go_guarded | go_step | go_upon)
            have hf := ps_fail g S a d nr.1 HQ.out
            refine Calls.mono hf ?_
            rintro _ w2 ⟨rfl, rfl⟩
            exact ⟨rfl, NPost.badI HY.out ⟨by rw [Ha.out]; rfl, HF.out⟩⟩
          · have HY := Lib.hid (HX.out.2 ha)
            have hq : ((a : Int) == (i : Int)) = false := beq_false_of_ne (by omega)
            clear HX ha
            by_cases hb : 20 < N
            · have HZ := Lib.hid (HY.out.1 (.inl hb))
              have hb' : (N : Int) > 20 := by omega
              clear HY hb
              repeat' (first | go_values | go_skip | go_guarded | go_step | go_upon)
              exact ⟨rfl, NPost.badI HZ.out ⟨rfl, HF.out⟩⟩
            · have hb' : ¬ (N : Int) > 20 := by omega
              by_cases hl : N < least
              · have HZ := Lib.hid (HY.out.1 (.inr hl))
                have hl' : (N : Int) < least := by omega
                clear HY hb hl
                repeat' (first | go_values | go_skip | go_guarded | go_step | go_upon)
                exact ⟨rfl, NPost.badI HZ.out ⟨rfl, HF.out⟩⟩
              · have HZ := Lib.hid (HY.out.2 (by omega))
                have hl' : ¬ (N : Int) < least := by omega
                clear HY hb hl
                repeat' (first | go_values | go_skip | go_guarded | go_step | go_upon)
                go_ret
                exact NPost.okI HZ.out ⟨rfl, HQ.out, HF.out⟩
        · have hge : (a : Int) < (i : Int) + 2 := by omega
          have HD2 : Hid (∀ j, i ≤ j → j < a + 1 → isD S.data.toList j) := Lib.hid fun j h1 h2 => by
            by_cases e : j = a
            · rw [e]; exact hD
            · exact HD.out j h1 (by omega)
          have Hnx := Lib.hid (Hnx.out (by omega))
          clear HX HD HnD hD hlt
          repeat' (first | go_values | go_skip | go_guarded | go_step | go_upon)
          refine wp_region_wb (by kernel_rfl) (by kernel_rfl) wr (Below.refl _ _) ?_
          repeat (go_big_quiet_step ((go_at_call 76; exact calls_wb_same (kd _))))
          refine wpQuiet_nil ?_
          rintro _ ⟨nr, rfl⟩
          have HQ := Lib.hid (HP.out.keep nr.2)
          have HF := Lib.hid (HE.out.trans (Else.of_below (g := g) nr.2))
          clear q0 q1 HP HE kd
          have q0 : ∀ nq : WB nr.1, nq.1.cell? ⟨g, 0, none⟩ = some (.string S) := fun nq => (HQ.out.keep nq.2).c0
          have q1 : ∀ nq : WB nr.1, nq.1.cell? ⟨g, 1, none⟩ = some (.int .i64 (a : Int)) := fun nq => (HQ.out.keep nq.2).c1
          have hm : IntKind.i64.wrap (10 * (N : Int)) = 10 * (N : Int) := wi64 (by unfold I64; omega)
          have hs : IntKind.u8.wrap ((x : Int) - 48) = ((x - 48 : Nat) : Int) := by rw [IntKind.wrap_u8]; omega
          obtain ⟨y, hy⟩ : ∃ y, x - 48 = y := ⟨_, rfl⟩
          rw [hy] at hs Hnx
          have hy9 : y ≤ 9 := by omega
          have hc : IntKind.i64.wrap (y : Int) = (y : Int) := wi64 (by unfold I64; omega)
          have hsum : IntKind.i64.wrap (10 * (N : Int) + (y : Int)) = ((10 * N + y : Nat) : Int) := by rw [wi64 (by unfold I64; omega)]; omega
          have hw1 : IntKind.i64.wrap ((a : Int) + 1) = ((a + 1 : Nat) : Int) := by rw [wi64 (by unfold I64; omega)]; omega
          obtain ⟨N2, hN2⟩ : ∃ N2, 10 * N + y = N2 := ⟨_, rfl⟩
          rw [hN2] at hsum Hnx
          obtain ⟨a2, ha2e⟩ : ∃ a2, a + 1 = a2 := ⟨_, rfl⟩
          rw [ha2e] at hw1
          have Ha2 := Lib.hid ha2e
          clear hy hN2 ha2e hw2
          repeat' (first | go_values | go_skip | go_guarded | go_step | go_upon)
          refine wp_region_wb (by kernel_rfl) (by kernel_rfl) nr.1 (Below.refl _ _) ?_
          repeat (go_big_quiet_step (fail))
          refine wpQuiet_nil ?_
          rintro _ ⟨nt, rfl⟩
          have HR := Lib.hid (HQ.out.keep nt.2)
          have HG := Lib.hid (HF.out.trans (Else.of_below (g := g) nt.2))
          have c1 := HR.out.c1
          have f1 := HR.out.free 1
          clear q0 q1 HQ HF
          repeat' (first | go_values | go_skip | go_guarded | go_step | go_upon)
          go_roundg (gk - 1)
          case rel => exact ⟨a + 1, by rw [Hnx.out], by omega, by omega, HD2, Lib.hid (by rw [Ha2.out]; exact HR.out.set1 _), Lib.hid (HG.out.setCell _ _)⟩
          case measure => omega
      · have kd := fun W => ps_digit_n x hdg W
        have HX := Lib.hid (HX.out (.inr fun q => hdg (hisD.1 q)))
        clear Hnx HD HnD hisD hdg hxb hlt hag
        repeat' (first | go_values | go_skip | go_guarded | go_step | go_upon)
        refine wp_region_wb (by kernel_rfl) (by kernel_rfl) wr (Below.refl _ _) ?_
        repeat (go_big_quiet_step ((go_at_call 76; exact calls_wb_same (kd _))))
        refine wpQuiet_nil ?_
        rintro _ ⟨nr, rfl⟩
        have HQ := Lib.hid (HP.out.keep nr.2)
        have HF := Lib.hid (HE.out.trans (Else.of_below (g := g) nr.2))
        have c1 := HQ.out.c1
        clear q0 q1 HP HE kd
        by_cases ha : a = i
        · have HY := Lib.hid (HX.out.1 ha)
          have hq : ((a : Int) == (i : Int)) = true := by rw [beq_iff_eq]; omega
          have Ha := Lib.hid ha
          clear HX ha
          repeat' (first | go_values | go_skip | go_guarded | go_step | go_upon)
          have hf := ps_fail g S a d nr.1 HQ.out
          refine Calls.mono hf ?_
          rintro _ w2 ⟨rfl, rfl⟩
          exact ⟨rfl, NPost.badI HY.out ⟨by rw [Ha.out]; rfl, HF.out⟩⟩
        · have HY := Lib.hid (HX.out.2 ha)
          have hq : ((a : Int) == (i : Int)) = false := beq_false_of_ne (by omega)
          clear HX ha
          by_cases hb : 20 < N
          · have HZ := Lib.hid (HY.out.1 (.inl hb))
            have hb' : (N : Int) > 20 := by omega
            clear HY hb
            repeat' (first | go_values | go_skip | go_guarded | go_step | go_upon)
            exact ⟨rfl, NPost.badI HZ.out ⟨rfl, HF.out⟩⟩
          · have hb' : ¬ (N : Int) > 20 := by omega
            by_cases hl : N < least
            · have HZ := Lib.hid (HY.out.1 (.inr hl))
              have hl' : (N : Int) < least := by omega
              clear HY hb hl
              repeat' (first | go_values | go_skip | go_guarded | go_step | go_upon)
              exact ⟨rfl, NPost.badI HZ.out ⟨rfl, HF.out⟩⟩
            · have HZ := Lib.hid (HY.out.2 (by omega))
              have hl' : ¬ (N : Int) < least := by omega
              clear HY hb hl
              repeat' (first | go_values | go_skip | go_guarded | go_step | go_upon)
              go_ret
              exact NPost.okI HZ.out ⟨rfl, HQ.out, HF.out⟩
    · have hlt' : ¬ (a : Int) < S.size := by omega
      have HX := Lib.hid (HX.out (.inr fun q => hlt (by have := q.1; rw [ba_len] at this; exact this)))
      have kd := True.intro
      have HNN := Lib.hid hNN
      clear Hnx HD hlt hag hNN
      repeat' (first | go_values | go_skip | go_guarded | go_step | go_upon)
      refine wp_region_wb (by kernel_rfl) (by kernel_rfl) wr (Below.refl _ _) ?_
      repeat (go_big_quiet_step ((go_at_call 76; exact calls_wb_same (kd _))))
      refine wpQuiet_nil ?_
      rintro _ ⟨nr, rfl⟩
      have HQ := Lib.hid (HP.out.keep nr.2)
      have HF := Lib.hid (HE.out.trans (Else.of_below (g := g) nr.2))
      have c1 := HQ.out.c1
      clear q0 q1 HP HE kd
      by_cases ha : a = i
      · have HY := Lib.hid (HX.out.1 ha)
        have hq : ((a : Int) == (i : Int)) = true := by rw [beq_iff_eq]; omega
        have Ha := Lib.hid ha
        clear HX ha
        repeat' (first | go_values | go_skip | go_guarded | go_step | go_upon)
        have hf := ps_fail g S a d nr.1 HQ.out
        refine Calls.mono hf ?_
        rintro _ w2 ⟨rfl, rfl⟩
        exact ⟨rfl, NPost.badI HY.out ⟨by rw [Ha.out]; rfl, HF.out⟩⟩
      · have HY := Lib.hid (HX.out.2 ha)
        have hq : ((a : Int) == (i : Int)) = false := beq_false_of_ne (by omega)
        clear HX ha
        by_cases hb : 20 < N
        · have HZ := Lib.hid (HY.out.1 (.inl hb))
          have hb' : (N : Int) > 20 := by omega
          clear HY hb
          repeat' (first | go_values | go_skip | go_guarded | go_step | go_upon)
          exact ⟨rfl, NPost.badI HZ.out ⟨rfl, HF.out⟩⟩
        · have hb' : ¬ (N : Int) > 20 := by omega
          by_cases hl : N < least
          · have HZ := Lib.hid (HY.out.1 (.inr hl))
            have hl' : (N : Int) < least := by omega
            clear HY hb hl
            repeat' (first | go_values | go_skip | go_guarded | go_step | go_upon)
            exact ⟨rfl, NPost.badI HZ.out ⟨rfl, HF.out⟩⟩
          · have HZ := Lib.hid (HY.out.2 (by omega))
            have hl' : ¬ (N : Int) < least := by omega
            clear HY hb hl
            repeat' (first | go_values | go_skip | go_guarded | go_step | go_upon)
            go_ret
            exact NPost.okI HZ.out ⟨rfl, HQ.out, HF.out⟩
end Go.Proofs.YtnbfifmnigeolaaDoor
namespace Go.Proofs.YtnbfifmnigeolaaDoor
open Go.RowKit Go.Lib
theorem of_one (c : Nat) (hc : c < 256) : ofL [u8 c] = oneB c := by
  funext b
  unfold ofL oneB
  simp only [List.any_cons, List.any_nil, Bool.or_false]
  rw [u8_toNat_lt hc]
theorem k_dig (W : World) : Calls Tryd.prog 85 #[.int .u8 48, .int .u8 57] W fun e w' => e = .returned (vS (rngB 48 57)) ∧ Below W.heap.size W w' := set_Range 48 57 (by omega) (by omega) W
theorem k_upp (W : World) : Calls Tryd.prog 85 #[.int .u8 65, .int .u8 90] W fun e w' => e = .returned (vS (rngB 65 90)) ∧ Below W.heap.size W w' := set_Range 65 90 (by omega) (by omega) W
theorem k_low (W : World) : Calls Tryd.prog 85 #[.int .u8 97, .int .u8 122] W fun e w' => e = .returned (vS (rngB 97 122)) ∧ Below W.heap.size W w' := set_Range 97 122 (by omega) (by omega) W
theorem k_spc (W : World) : Calls Tryd.prog 85 #[.int .u8 9, .int .u8 13] W fun e w' => e = .returned (vS (rngB 9 13)) ∧ Below W.heap.size W w' := set_Range 9 13 (by omega) (by omega) W
theorem k_of (c : Nat) (hc : c < 256) (W : World) : Calls Tryd.prog 46 #[.string ⟨#[u8 c]⟩] W fun e w' => e = .returned (vS (oneB c)) ∧ Below W.heap.size W w' := by
  have h := set_Of ⟨#[u8 c]⟩ (by show 1 ≤ _; omega) W
  rw [show (⟨#[u8 c]⟩ : ByteArray).data.toList = [u8 c] from rfl, of_one c hc] at h
  exact h
theorem k_und (W : World) : Calls Tryd.prog 46 #[.string ⟨#[95]⟩] W fun e w' => e = .returned (vS (oneB 95)) ∧ Below W.heap.size W w' := k_of 95 (by omega) W
theorem k_sp (W : World) : Calls Tryd.prog 46 #[.string ⟨#[32]⟩] W fun e w' => e = .returned (vS (oneB 32)) ∧ Below W.heap.size W w' := k_of 32 (by omega) W
theorem k_ln (W : World) : Calls Tryd.prog 46 #[.string ⟨#[10]⟩] W fun e w' => e = .returned (vS (oneB 10)) ∧ Below W.heap.size W w' := k_of 10 (by omega) W
theorem k_join (p q : Nat → Bool) (W : World) : Calls Tryd.prog 83 #[vS p, vS q] W fun e w' => e = .returned (vS (orB p q)) ∧ Below W.heap.size W w' := set_Join p q W
theorem k_not (p : Nat → Bool) (W : World) : Calls Tryd.prog 45 #[vS p] W fun e w' => e = .returned (vS (notB p)) ∧ Below W.heap.size W w' := set_Not p W
theorem results_set_tmp {fn : Func} {p' q' : Tmp} (h : fn.results = #[.cell p' 25, .tmp q']) (tmps : Array Value) (w : World) (g : Nat) (p : Nat → Bool) (hp : tmps.getD p' undef = .pointer (some ⟨g, 0, none⟩)) (hs : SetAt w g p) :
    (results fn tmps).run Tryd.prog w = .ok (.tuple #[vS p, tmps.getD q' undef]) w := by
  have hp' : tmps[p']?.getD undef = .pointer (some ⟨g, 0, none⟩) := by simpa using hp
  simp [results, h, hp', asAddr, run_loadVar_row w g 25 25 (sc p) (0, 0) _ hs Tryd.underlying25 rfl (by rw [sc_size]; exact info_set)]
/-- what 'kind' tells -/
def KPost (g : Nat) (S : ByteArray) (i d : Nat) (w : World) (x : Option (Nat → Bool)) (e : Ending) (w' : World) : Prop :=
  match x with
  | some p => e = .returned (.tuple #[vS p, .bool true]) ∧ PsAt w' g S (i + 1) d ∧ Else g w w'
  | none => e = .returned (.tuple #[vS (fun _ => false), .bool false]) ∧ PsAt w' g S i d ∧ Else g w w'
theorem KPost.someI {g : Nat} {S : ByteArray} {i d : Nat} {w : World} {x : Option (Nat → Bool)} {e : Ending} {w' : World} {p : Nat → Bool} (hx : x = some p) (h : e = .returned (.tuple #[vS p, .bool true]) ∧ PsAt w' g S (i + 1) d ∧ Else g w w') : KPost g S i d w x e w' := by subst hx; exact h
theorem KPost.noneI {g : Nat} {S : ByteArray} {i d : Nat} {w : World} {x : Option (Nat → Bool)} {e : Ending} {w' : World} (hx : x = none) (h : e = .returned (.tuple #[vS (fun _ => false), .bool false]) ∧ PsAt w' g S i d ∧ Else g w w') : KPost g S i d w x e w' := by subst hx; exact h
/-- the two sets' boxes, the parser, all else as it was -/
structure KW (w : World) (B g b4 : Nat) (S : ByteArray) (i d : Nat) (p : Nat → Bool) (W : World) : Prop where
  s2 : SetAt W B (fun _ => false)
  s4 : SetAt W b4 p
  ps : PsAt W g S i d
  els : Below B w W
  lt : g < B ∧ B < b4
  sz : w.heap.size = B
theorem KW.keep {w W W' : World} {B g b4 : Nat} {S : ByteArray} {i d : Nat} {p : Nat → Bool} (h : KW w B g b4 S i d p W) (hb : Below W.heap.size W W') : KW w B g b4 S i d p W' :=
  ⟨h.s2.keep hb, h.s4.keep hb, h.ps.keep hb, h.els.trans (hb.mono (by have := h.s4.lt; have := h.lt.2; omega)), h.lt, h.sz⟩
theorem KW.put {w W : World} {B g b4 : Nat} {S : ByteArray} {i d : Nat} {p : Nat → Bool} (h : KW w B g b4 S i d p W) (q : Nat → Bool) : KW w B g b4 S i d q (W.setRow b4 (sc q)) :=
  ⟨h.s2.other (by have := h.lt; omega), h.s4.set, by unfold PsAt; rw [setRow_other _ _ _ _ (by have := h.lt; omega)]; exact h.ps, Below.row h.els (by have := h.lt; omega) _, h.lt, h.sz⟩
theorem KW.new {w W : World} {B g : Nat} {S : ByteArray} {i d : Nat} (hs : SetAt W B (fun _ => false)) (hp : PsAt W g S i d) (hb : Below B w W) (hg : g < B) (hz : w.heap.size = B) : KW w B g W.heap.size S i d (fun _ => false) (W.alloc (.cells #[.int .u64 0, .int .u64 0, .int .u64 0, .int .u64 0] 25)) :=
  ⟨hs.keep ((Below.refl _ _).alloc (Nat.le_refl _) _), SetAt.zero W, hp.keep ((Below.refl _ _).alloc (Nat.le_refl _) _), hb.trans (((Below.refl _ W).alloc (Nat.le_refl _) _).mono (Nat.le_of_lt hs.lt)), ⟨hg, hs.lt⟩, hz⟩
theorem KW.done {w W : World} {B g b4 : Nat} {S : ByteArray} {i d j : Nat} {p : Nat → Bool} (h : KW w B g b4 S i d p W) : SetAt ((W.setCell ⟨g, 1, none⟩ (.int .i64 (j : Int))).setRow B (sc p)) B p ∧ PsAt ((W.setCell ⟨g, 1, none⟩ (.int .i64 (j : Int))).setRow B (sc p)) g S j d ∧ Else g w ((W.setCell ⟨g, 1, none⟩ (.int .i64 (j : Int))).setRow B (sc p)) := by
  have hgB := h.lt
  have h1 : SetAt (W.setCell ⟨g, 1, none⟩ (.int .i64 (j : Int))) B (fun _ => false) := h.s2.cellOther (by omega)
  refine ⟨h1.set, by unfold PsAt; rw [setRow_other _ _ _ _ (by omega)]; exact h.ps.set1 j, ?_⟩
  have he : Else g w (W.setCell ⟨g, 1, none⟩ (.int .i64 (j : Int))) := (Else.of_below (by rw [h.sz]; exact h.els)).setCell _ _
  exact ⟨he.os, he.tape, he.output, by simpa using he.size, fun k hk hne => by rw [setRow_other _ _ _ _ (by have := h.sz; omega)]; exact he.block k hk hne⟩
theorem vS_none : vS (fun _ => false) = .agg #[.int .u64 0, .int .u64 0, .int .u64 0, .int .u64 0] := by unfold vS; simp [W_none]
theorem store_set0 {o : Oper} {a : Act} {w : World} {K : Act → World → Prop} {Q : Exit → Act → World → Prop} {g : Nat} {p : Nat → Bool} (hs : SetAt w g p) (x y : Operand) (ho : o.op = .store 25 x y)
    (hx : a.eval x = .pointer (some ⟨g, 0, none⟩)) (hy : a.eval y = .agg #[.int .u64 0, .int .u64 0, .int .u64 0, .int .u64 0]) (h : K (a.put o.dst undef) (w.setRow g (sc fun _ => false))) : o.wp Tryd.prog a w K Q :=
  store_set1 hs _ x y ho hx (hy.trans vS_none.symm) h
theorem KW.none {w W : World} {B g b4 : Nat} {S : ByteArray} {i d : Nat} {p : Nat → Bool} (h : KW w B g b4 S i d p W) : SetAt (W.setRow B (sc fun _ => false)) B (fun _ => false) ∧ PsAt (W.setRow B (sc fun _ => false)) g S i d ∧ Else g w (W.setRow B (sc fun _ => false)) := by
  have hgB := h.lt
  refine ⟨h.s2.set, by unfold PsAt; rw [setRow_other _ _ _ _ (by omega)]; exact h.ps, ?_⟩
  have he : Else g w W := Else.of_below (by rw [h.sz]; exact h.els)
  exact ⟨he.os, he.tape, he.output, by simpa using he.size, fun k hk hne => by rw [setRow_other _ _ _ _ (by have := h.sz; omega)]; exact he.block k hk hne⟩
set_option maxRecDepth 100000 in
theorem or_some : ∀ c : Fin 256, (c.val ≠ 100 ∧ c.val ≠ 68 ∧ c.val ≠ 119 ∧ c.val ≠ 87 ∧ c.val ≠ 115 ∧ c.val ≠ 83) → bits .or .u8 (c.val : Int) 32 ≠ 100 ∧ bits .or .u8 (c.val : Int) 32 ≠ 119 ∧ bits .or .u8 (c.val : Int) 32 ≠ 115 := by decide
set_option maxRecDepth 100000 in
set_option maxHeartbeats 4000000 in
theorem ps_kind (g : Nat) (S : ByteArray) (i d : Nat) (hi : i ≤ 512) (w : World) (h : PsAt w g S i d) :
    Calls Tryd.prog 73 #[.pointer (some ⟨g, 0, none⟩)] w (KPost g S i d w (kndR S.data.toList i)) := by
  obtain ⟨X, hX⟩ : ∃ X, kndR S.data.toList i = X := ⟨_, rfl⟩
  rw [hX]
  unfold kndR at hX
  rw [ba_len] at hX
  have HA : Hid (SetAt (w.alloc (.cells #[.int .u64 0, .int .u64 0, .int .u64 0, .int .u64 0] 25)) w.heap.size (fun _ => false) ∧ PsAt (w.alloc (.cells #[.int .u64 0, .int .u64 0, .int .u64 0, .int .u64 0] 25)) g S i d ∧ Below w.heap.size w (w.alloc (.cells #[.int .u64 0, .int .u64 0, .int .u64 0, .int .u64 0] 25)) ∧ g < w.heap.size) :=
    Lib.hid ⟨SetAt.zero w, h.keep ((Below.refl _ _).alloc (Nat.le_refl _) _), (Below.refl _ _).alloc (Nat.le_refl _) _, h.lt⟩
  clear h
  by_cases hlt : i < S.size
  · have hlt' : ¬ (i : Int) ≥ S.size := by omega
    rw [if_pos hlt] at hX
    have hx := byte_is S i hlt
    have hb := bt_lt S.data.toList i
    generalize bt S.data.toList i = x at hx hX hb
    have hw : IntKind.i64.wrap ((i : Int) + 1) = ((i + 1 : Nat) : Int) := by rw [wi64 (by unfold I64; omega)]; omega
    obtain ⟨j, hj⟩ : ∃ j, i + 1 = j := ⟨_, rfl⟩
    rw [hj] at hw
    have HJ := Lib.hid hj
    clear hj hi hlt
    unfold kndC at hX
    by_cases hn : x = 100
    · rw [if_pos hn] at hX
      subst hn
      have HX := Lib.hid hX.symm
      clear hX hb
      have hor : bits .or .u8 (100 : Int) 32 = 100 := by decide
      go_enter Tryd.func73, Tryd.ntmps73
      repeat' (first | go_values | go_skip | go_guarded | go_step | go_upon)
      generalize hB : w.heap.size = B at HA ⊢
      refine gen_wd (fun W => SetAt W B (fun _ => false) ∧ PsAt W g S i d ∧ Below B w W ∧ g < B) HA.out ?_
      clear HA
      rintro w1 ⟨hs, hp, hb, hz⟩
      have HS := Lib.hid hs
      have HP := Lib.hid hp
      have HB := Lib.hid hb
      have Hz := Lib.hid hz
      have H2 := Lib.hid hB
      clear hs hp hb hz hB
      have q0 : ∀ nq : WB w1, nq.1.cell? ⟨g, 0, none⟩ = some (.string S) := fun nq => (HP.out.keep nq.2).c0
      have q1 : ∀ nq : WB w1, nq.1.cell? ⟨g, 1, none⟩ = some (.int .i64 (i : Int)) := fun nq => (HP.out.keep nq.2).c1
      refine wp_region_wb (by kernel_rfl) (by kernel_rfl) w1 (Below.refl _ _) ?_
      repeat (go_big_quiet_step ((fail)))
      refine wpQuiet_nil ?_
      rintro _ ⟨nq, rfl⟩
      have hnq := nq.2
      have HK : Hid (KW w B g nq.1.heap.size S i d (fun _ => false) (nq.1.alloc (.cells #[.int .u64 0, .int .u64 0, .int .u64 0, .int .u64 0] 25))) := Lib.hid (KW.new (HS.out.keep hnq) (HP.out.keep hnq) (HB.out.trans (hnq.mono (by have := HS.out.lt; omega))) Hz.out H2.out)
      clear q0 q1 hnq HS HB HP Hz H2
      repeat' (first | go_values | go_skip | go_guarded | go_step | go_upon)
      generalize nq.1.heap.size = b4 at HK ⊢
      refine gen_wd (fun W => KW w B g b4 S i d (fun _ => false) W) HK.out ?_
      clear HK
      rintro w2 hk
      have HW := Lib.hid hk
      clear hk
      have q0 : ∀ nq : WB w2, nq.1.cell? ⟨g, 0, none⟩ = some (.string S) := fun nq => (HW.out.keep nq.2).ps.c0
      have q1 : ∀ nq : WB w2, nq.1.cell? ⟨g, 1, none⟩ = some (.int .i64 (i : Int)) := fun nq => (HW.out.keep nq.2).ps.c1
      refine wp_region_wb (by kernel_rfl) (by kernel_rfl) w2 (Below.refl _ _) ?_
      repeat (go_big_quiet_step (fail))
      refine wpQuiet_nil ?_
      rintro _ ⟨nr, rfl⟩
      have HV := Lib.hid (HW.out.keep nr.2)
      clear q0 q1 HW
      repeat' (first | go_values | go_skip | go_guarded | go_step | go_upon)
      refine Calls.mono ((k_dig _)) ?_
      rintro _ wc ⟨rfl, hbc⟩
      dsimp only
      have HV := Lib.hid (HV.out.keep hbc)
      clear hbc
      repeat' (first | (with_reducible refine store_set1 HV.out.s4 _ _ _ rfl rfl rfl ?_; dsimp only [Act.put]) | go_values | go_skip | go_guarded | go_step | go_upon)
      have HV2 := Lib.hid (HV.out.put (rngB 48 57))
      refine gen_wd (fun W => KW w B g b4 S i d (rngB 48 57) W) HV2.out ?_
      clear HV HV2
      rintro w3 hk
      have HW := Lib.hid hk
      clear hk
      repeat' (first | go_values | go_skip | go_guarded | go_step | go_upon)
      have q0 : ∀ nq : WB w3, nq.1.cell? ⟨g, 0, none⟩ = some (.string S) := fun nq => (HW.out.keep nq.2).ps.c0
      have q1 : ∀ nq : WB w3, nq.1.cell? ⟨g, 1, none⟩ = some (.int .i64 (i : Int)) := fun nq => (HW.out.keep nq.2).ps.c1
      refine wp_region_wb (by kernel_rfl) (by kernel_rfl) w3 (Below.refl _ _) ?_
      repeat (go_big_quiet_step (fail))
      refine wpQuiet_nil ?_
      rintro _ ⟨nt, rfl⟩
      have HV := Lib.hid (HW.out.keep nt.2)
      clear q0 q1 HW
      have c1 := HV.out.ps.c1
      have f1 := HV.out.ps.free 1
      have HL := Lib.hid (show SetAt (World.setCell nt.1 ⟨g, 1, none⟩ (.int .i64 (j : Int))) b4 (rngB 48 57) from HV.out.s4.cellOther (by have := HV.out.lt; omega))
      have HM := Lib.hid (show SetAt (World.setCell nt.1 ⟨g, 1, none⟩ (.int .i64 (j : Int))) B (fun _ => false) from HV.out.s2.cellOther (by have := HV.out.lt; omega))
      have HD := Lib.hid (HV.out.done (j := j))
      repeat' (first | (fail) | (with_reducible refine load_set1 HL.out _ rfl rfl ?_; dsimp only [Act.put]) | (with_reducible refine store_set1 HM.out _ _ _ rfl rfl rfl ?_; dsimp only [Act.put]) | go_values | go_skip | go_guarded | go_step | go_upon)
      refine bodyPost_ret (results_set_tmp rfl _ _ _ _ rfl HD.out.1) rfl ?_
      exact KPost.someI HX.out ⟨rfl, by rw [HJ.out]; exact HD.out.2.1, HD.out.2.2⟩
    rw [if_neg hn] at hX
    have n100 := Lib.hid hn
    clear hn
    by_cases hn : x = 68
    · rw [if_pos hn] at hX
      subst hn
      have HX := Lib.hid hX.symm
      clear hX hb
      have hor : bits .or .u8 (68 : Int) 32 = 100 := by decide
      go_enter Tryd.func73, Tryd.ntmps73
      repeat' (first | go_values | go_skip | go_guarded | go_step | go_upon)
      generalize hB : w.heap.size = B at HA ⊢
      refine gen_wd (fun W => SetAt W B (fun _ => false) ∧ PsAt W g S i d ∧ Below B w W ∧ g < B) HA.out ?_
      clear HA
      rintro w1 ⟨hs, hp, hb, hz⟩
      have HS := Lib.hid hs
      have HP := Lib.hid hp
      have HB := Lib.hid hb
      have Hz := Lib.hid hz
      have H2 := Lib.hid hB
      clear hs hp hb hz hB
      have q0 : ∀ nq : WB w1, nq.1.cell? ⟨g, 0, none⟩ = some (.string S) := fun nq => (HP.out.keep nq.2).c0
      have q1 : ∀ nq : WB w1, nq.1.cell? ⟨g, 1, none⟩ = some (.int .i64 (i : Int)) := fun nq => (HP.out.keep nq.2).c1
      refine wp_region_wb (by kernel_rfl) (by kernel_rfl) w1 (Below.refl _ _) ?_
      repeat (go_big_quiet_step ((fail)))
      refine wpQuiet_nil ?_
      rintro _ ⟨nq, rfl⟩
      have hnq := nq.2
      have HK : Hid (KW w B g nq.1.heap.size S i d (fun _ => false) (nq.1.alloc (.cells #[.int .u64 0, .int .u64 0, .int .u64 0, .int .u64 0] 25))) := Lib.hid (KW.new (HS.out.keep hnq) (HP.out.keep hnq) (HB.out.trans (hnq.mono (by have := HS.out.lt; omega))) Hz.out H2.out)
      clear q0 q1 hnq HS HB HP Hz H2
      repeat' (first | go_values | go_skip | go_guarded | go_step | go_upon)
      generalize nq.1.heap.size = b4 at HK ⊢
      refine gen_wd (fun W => KW w B g b4 S i d (fun _ => false) W) HK.out ?_
      clear HK
      rintro w2 hk
      have HW := Lib.hid hk
      clear hk
      have q0 : ∀ nq : WB w2, nq.1.cell? ⟨g, 0, none⟩ = some (.string S) := fun nq => (HW.out.keep nq.2).ps.c0
      have q1 : ∀ nq : WB w2, nq.1.cell? ⟨g, 1, none⟩ = some (.int .i64 (i : Int)) := fun nq => (HW.out.keep nq.2).ps.c1
      refine wp_region_wb (by kernel_rfl) (by kernel_rfl) w2 (Below.refl _ _) ?_
      repeat (go_big_quiet_step (fail))
      refine wpQuiet_nil ?_
      rintro _ ⟨nr, rfl⟩
      have HV := Lib.hid (HW.out.keep nr.2)
      clear q0 q1 HW
      repeat' (first | go_values | go_skip | go_guarded | go_step | go_upon)
      refine Calls.mono ((k_dig _)) ?_
      rintro _ wc ⟨rfl, hbc⟩
      dsimp only
      have HV := Lib.hid (HV.out.keep hbc)
      clear hbc
      repeat' (first | (with_reducible refine store_set1 HV.out.s4 _ _ _ rfl rfl rfl ?_; dsimp only [Act.put]) | go_values | go_skip | go_guarded | go_step | go_upon)
      have HV2 := Lib.hid (HV.out.put (rngB 48 57))
      refine gen_wd (fun W => KW w B g b4 S i d (rngB 48 57) W) HV2.out ?_
      clear HV HV2
      rintro w3 hk
      have HW := Lib.hid hk
      clear hk
      repeat' (first | go_values | go_skip | go_guarded | go_step | go_upon)
      have q0 : ∀ nq : WB w3, nq.1.cell? ⟨g, 0, none⟩ = some (.string S) := fun nq => (HW.out.keep nq.2).ps.c0
      have q1 : ∀ nq : WB w3, nq.1.cell? ⟨g, 1, none⟩ = some (.int .i64 (i : Int)) := fun nq => (HW.out.keep nq.2).ps.c1
      refine wp_region_wb (by kernel_rfl) (by kernel_rfl) w3 (Below.refl _ _) ?_
      repeat (go_big_quiet_step (fail))
      refine wpQuiet_nil ?_
      rintro _ ⟨nt, rfl⟩
      have HV := Lib.hid (HW.out.keep nt.2)
      clear q0 q1 HW
      have HL := Lib.hid HV.out.s4
      repeat' (first | (with_reducible refine load_set1 HL.out _ rfl rfl ?_; dsimp only [Act.put]) | go_values | go_skip | go_guarded | go_step | go_upon)
      refine Calls.mono ((k_not _ _)) ?_
      rintro _ w5 ⟨rfl, hb5⟩
      dsimp only
      have HV := Lib.hid (HV.out.keep hb5)
      clear hb5 HL
      have H4 := Lib.hid HV.out.s4
      have HV := Lib.hid (HV.out.put (notB (rngB 48 57)))
      have c1 := HV.out.ps.c1
      have f1 := HV.out.ps.free 1
      have HL := Lib.hid (show SetAt (World.setCell (w5.setRow b4 (sc (notB (rngB 48 57)))) ⟨g, 1, none⟩ (.int .i64 (j : Int))) b4 (notB (rngB 48 57)) from HV.out.s4.cellOther (by have := HV.out.lt; omega))
      have HM := Lib.hid (show SetAt (World.setCell (w5.setRow b4 (sc (notB (rngB 48 57)))) ⟨g, 1, none⟩ (.int .i64 (j : Int))) B (fun _ => false) from HV.out.s2.cellOther (by have := HV.out.lt; omega))
      have HD := Lib.hid (HV.out.done (j := j))
      repeat' (first | (with_reducible refine store_set1 H4.out _ _ _ rfl rfl rfl ?_; dsimp only [Act.put]) | (with_reducible refine load_set1 HL.out _ rfl rfl ?_; dsimp only [Act.put]) | (with_reducible refine store_set1 HM.out _ _ _ rfl rfl rfl ?_; dsimp only [Act.put]) | go_values | go_skip | go_guarded | go_step | go_upon)
      refine bodyPost_ret (results_set_tmp rfl _ _ _ _ rfl HD.out.1) rfl ?_
      exact KPost.someI HX.out ⟨rfl, by rw [HJ.out]; exact HD.out.2.1, HD.out.2.2⟩
    rw [if_neg hn] at hX
    have n68 := Lib.hid hn
    clear hn
    by_cases hn : x = 119
    · rw [if_pos hn] at hX
      subst hn
      have HX := Lib.hid hX.symm
      clear hX hb
      have hor : bits .or .u8 (119 : Int) 32 = 119 := by decide
      go_enter Tryd.func73, Tryd.ntmps73
      repeat' (first | go_values | go_skip | go_guarded | go_step | go_upon)
      generalize hB : w.heap.size = B at HA ⊢
      refine gen_wd (fun W => SetAt W B (fun _ => false) ∧ PsAt W g S i d ∧ Below B w W ∧ g < B) HA.out ?_
      clear HA
      rintro w1 ⟨hs, hp, hb, hz⟩
      have HS := Lib.hid hs
      have HP := Lib.hid hp
      have HB := Lib.hid hb
      have Hz := Lib.hid hz
      have H2 := Lib.hid hB
      clear hs hp hb hz hB
      have q0 : ∀ nq : WB w1, nq.1.cell? ⟨g, 0, none⟩ = some (.string S) := fun nq => (HP.out.keep nq.2).c0
      have q1 : ∀ nq : WB w1, nq.1.cell? ⟨g, 1, none⟩ = some (.int .i64 (i : Int)) := fun nq => (HP.out.keep nq.2).c1
      refine wp_region_wb (by kernel_rfl) (by kernel_rfl) w1 (Below.refl _ _) ?_
      repeat (go_big_quiet_step ((fail)))
      refine wpQuiet_nil ?_
      rintro _ ⟨nq, rfl⟩
      have hnq := nq.2
      have HK : Hid (KW w B g nq.1.heap.size S i d (fun _ => false) (nq.1.alloc (.cells #[.int .u64 0, .int .u64 0, .int .u64 0, .int .u64 0] 25))) := Lib.hid (KW.new (HS.out.keep hnq) (HP.out.keep hnq) (HB.out.trans (hnq.mono (by have := HS.out.lt; omega))) Hz.out H2.out)
      clear q0 q1 hnq HS HB HP Hz H2
      repeat' (first | go_values | go_skip | go_guarded | go_step | go_upon)
      generalize nq.1.heap.size = b4 at HK ⊢
      refine gen_wd (fun W => KW w B g b4 S i d (fun _ => false) W) HK.out ?_
      clear HK
      rintro w2 hk
      have HW := Lib.hid hk
      clear hk
      have q0 : ∀ nq : WB w2, nq.1.cell? ⟨g, 0, none⟩ = some (.string S) := fun nq => (HW.out.keep nq.2).ps.c0
      have q1 : ∀ nq : WB w2, nq.1.cell? ⟨g, 1, none⟩ = some (.int .i64 (i : Int)) := fun nq => (HW.out.keep nq.2).ps.c1
      refine wp_region_wb (by kernel_rfl) (by kernel_rfl) w2 (Below.refl _ _) ?_
      repeat (go_big_quiet_step (fail))
      refine wpQuiet_nil ?_
      rintro _ ⟨nr, rfl⟩
      have HV := Lib.hid (HW.out.keep nr.2)
      clear q0 q1 HW
      repeat' (first | go_values | go_skip | go_guarded | go_step | go_upon)
      refine Calls.mono ((k_dig _)) ?_
      rintro _ wc ⟨rfl, hbc⟩
      dsimp only
      have HV := Lib.hid (HV.out.keep hbc)
      clear hbc
      repeat' (first | (with_reducible refine store_set1 HV.out.s4 _ _ _ rfl rfl rfl ?_; dsimp only [Act.put]) | go_values | go_skip | go_guarded | go_step | go_upon)
      refine Calls.mono ((k_upp _)) ?_
      rintro _ wc ⟨rfl, hbc⟩
      dsimp only
      have HV := Lib.hid (HV.out.keep hbc)
      clear hbc
      repeat' (first | (with_reducible refine store_set1 HV.out.s4 _ _ _ rfl rfl rfl ?_; dsimp only [Act.put]) | go_values | go_skip | go_guarded | go_step | go_upon)
      refine Calls.mono ((k_join _ _ _)) ?_
      rintro _ wc ⟨rfl, hbc⟩
      dsimp only
      have HV := Lib.hid (HV.out.keep hbc)
      clear hbc
      repeat' (first | (with_reducible refine store_set1 HV.out.s4 _ _ _ rfl rfl rfl ?_; dsimp only [Act.put]) | go_values | go_skip | go_guarded | go_step | go_upon)
      refine Calls.mono ((k_low _)) ?_
      rintro _ wc ⟨rfl, hbc⟩
      dsimp only
      have HV := Lib.hid (HV.out.keep hbc)
      clear hbc
      repeat' (first | (with_reducible refine store_set1 HV.out.s4 _ _ _ rfl rfl rfl ?_; dsimp only [Act.put]) | go_values | go_skip | go_guarded | go_step | go_upon)
      refine Calls.mono ((k_und _)) ?_
      rintro _ wc ⟨rfl, hbc⟩
      dsimp only
      have HV := Lib.hid (HV.out.keep hbc)
      clear hbc
      repeat' (first | (with_reducible refine store_set1 HV.out.s4 _ _ _ rfl rfl rfl ?_; dsimp only [Act.put]) | go_values | go_skip | go_guarded | go_step | go_upon)
      refine Calls.mono ((k_join _ _ _)) ?_
      rintro _ wc ⟨rfl, hbc⟩
      dsimp only
      have HV := Lib.hid (HV.out.keep hbc)
      clear hbc
      repeat' (first | (with_reducible refine store_set1 HV.out.s4 _ _ _ rfl rfl rfl ?_; dsimp only [Act.put]) | go_values | go_skip | go_guarded | go_step | go_upon)
      refine Calls.mono ((k_join _ _ _)) ?_
      rintro _ wc ⟨rfl, hbc⟩
      dsimp only
      have HV := Lib.hid (HV.out.keep hbc)
      clear hbc
      repeat' (first | (with_reducible refine store_set1 HV.out.s4 _ _ _ rfl rfl rfl ?_; dsimp only [Act.put]) | go_values | go_skip | go_guarded | go_step | go_upon)
      have HV2 := Lib.hid (HV.out.put (orB (orB (rngB 48 57) (rngB 65 90)) (orB (rngB 97 122) (oneB 95))))
      refine gen_wd (fun W => KW w B g b4 S i d (orB (orB (rngB 48 57) (rngB 65 90)) (orB (rngB 97 122) (oneB 95))) W) HV2.out ?_
      clear HV HV2
      rintro w3 hk
      have HW := Lib.hid hk
      clear hk
      repeat' (first | go_values | go_skip | go_guarded | go_step | go_upon)
      have q0 : ∀ nq : WB w3, nq.1.cell? ⟨g, 0, none⟩ = some (.string S) := fun nq => (HW.out.keep nq.2).ps.c0
      have q1 : ∀ nq : WB w3, nq.1.cell? ⟨g, 1, none⟩ = some (.int .i64 (i : Int)) := fun nq => (HW.out.keep nq.2).ps.c1
      refine wp_region_wb (by kernel_rfl) (by kernel_rfl) w3 (Below.refl _ _) ?_
      repeat (go_big_quiet_step (fail))
      refine wpQuiet_nil ?_
      rintro _ ⟨nt, rfl⟩
      have HV := Lib.hid (HW.out.keep nt.2)
      clear q0 q1 HW
      have c1 := HV.out.ps.c1
      have f1 := HV.out.ps.free 1
      have HL := Lib.hid (show SetAt (World.setCell nt.1 ⟨g, 1, none⟩ (.int .i64 (j : Int))) b4 (orB (orB (rngB 48 57) (rngB 65 90)) (orB (rngB 97 122) (oneB 95))) from HV.out.s4.cellOther (by have := HV.out.lt; omega))
      have HM := Lib.hid (show SetAt (World.setCell nt.1 ⟨g, 1, none⟩ (.int .i64 (j : Int))) B (fun _ => false) from HV.out.s2.cellOther (by have := HV.out.lt; omega))
      have HD := Lib.hid (HV.out.done (j := j))
      repeat' (first | (fail) | (with_reducible refine load_set1 HL.out _ rfl rfl ?_; dsimp only [Act.put]) | (with_reducible refine store_set1 HM.out _ _ _ rfl rfl rfl ?_; dsimp only [Act.put]) | go_values | go_skip | go_guarded | go_step | go_upon)
      refine bodyPost_ret (results_set_tmp rfl _ _ _ _ rfl HD.out.1) rfl ?_
      exact KPost.someI HX.out ⟨rfl, by rw [HJ.out]; exact HD.out.2.1, HD.out.2.2⟩
    rw [if_neg hn] at hX
    have n119 := Lib.hid hn
    clear hn
    by_cases hn : x = 87
    · rw [if_pos hn] at hX
      subst hn
      have HX := Lib.hid hX.symm
      clear hX hb
      have hor : bits .or .u8 (87 : Int) 32 = 119 := by decide
      go_enter Tryd.func73, Tryd.ntmps73
      repeat' (first | go_values | go_skip | go_guarded | go_step | go_upon)
      generalize hB : w.heap.size = B at HA ⊢
      refine gen_wd (fun W => SetAt W B (fun _ => false) ∧ PsAt W g S i d ∧ Below B w W ∧ g < B) HA.out ?_
      clear HA
      rintro w1 ⟨hs, hp, hb, hz⟩
      have HS := Lib.hid hs
      have HP := Lib.hid hp
      have HB := Lib.hid hb
      have Hz := Lib.hid hz
      have H2 := Lib.hid hB
      clear hs hp hb hz hB
      have q0 : ∀ nq : WB w1, nq.1.cell? ⟨g, 0, none⟩ = some (.string S) := fun nq => (HP.out.keep nq.2).c0
      have q1 : ∀ nq : WB w1, nq.1.cell? ⟨g, 1, none⟩ = some (.int .i64 (i : Int)) := fun nq => (HP.out.keep nq.2).c1
      refine wp_region_wb (by kernel_rfl) (by kernel_rfl) w1 (Below.refl _ _) ?_
      repeat (go_big_quiet_step ((fail)))
      refine wpQuiet_nil ?_
      rintro _ ⟨nq, rfl⟩
      have hnq := nq.2
      have HK : Hid (KW w B g nq.1.heap.size S i d (fun _ => false) (nq.1.alloc (.cells #[.int .u64 0, .int .u64 0, .int .u64 0, .int .u64 0] 25))) := Lib.hid (KW.new (HS.out.keep hnq) (HP.out.keep hnq) (HB.out.trans (hnq.mono (by have := HS.out.lt; omega))) Hz.out H2.out)
      clear q0 q1 hnq HS HB HP Hz H2
      repeat' (first | go_values | go_skip | go_guarded | go_step | go_upon)
      generalize nq.1.heap.size = b4 at HK ⊢
      refine gen_wd (fun W => KW w B g b4 S i d (fun _ => false) W) HK.out ?_
      clear HK
      rintro w2 hk
      have HW := Lib.hid hk
      clear hk
      have q0 : ∀ nq : WB w2, nq.1.cell? ⟨g, 0, none⟩ = some (.string S) := fun nq => (HW.out.keep nq.2).ps.c0
      have q1 : ∀ nq : WB w2, nq.1.cell? ⟨g, 1, none⟩ = some (.int .i64 (i : Int)) := fun nq => (HW.out.keep nq.2).ps.c1
      refine wp_region_wb (by kernel_rfl) (by kernel_rfl) w2 (Below.refl _ _) ?_
      repeat (go_big_quiet_step (fail))
      refine wpQuiet_nil ?_
      rintro _ ⟨nr, rfl⟩
      have HV := Lib.hid (HW.out.keep nr.2)
      clear q0 q1 HW
      repeat' (first | go_values | go_skip | go_guarded | go_step | go_upon)
      refine Calls.mono ((k_dig _)) ?_
      rintro _ wc ⟨rfl, hbc⟩
      dsimp only
      have HV := Lib.hid (HV.out.keep hbc)
      clear hbc
      repeat' (first | (with_reducible refine store_set1 HV.out.s4 _ _ _ rfl rfl rfl ?_; dsimp only [Act.put]) | go_values | go_skip | go_guarded | go_step | go_upon)
      refine Calls.mono ((k_upp _)) ?_
      rintro _ wc ⟨rfl, hbc⟩
      dsimp only
      have HV := Lib.hid (HV.out.keep hbc)
      clear hbc
      repeat' (first | (with_reducible refine store_set1 HV.out.s4 _ _ _ rfl rfl rfl ?_; dsimp only [Act.put]) | go_values | go_skip | go_guarded | go_step | go_upon)
      refine Calls.mono ((k_join _ _ _)) ?_
      rintro _ wc ⟨rfl, hbc⟩
      dsimp only
      have HV := Lib.hid (HV.out.keep hbc)
      clear hbc
      repeat' (first | (with_reducible refine store_set1 HV.out.s4 _ _ _ rfl rfl rfl ?_; dsimp only [Act.put]) | go_values | go_skip | go_guarded | go_step | go_upon)
      refine Calls.mono ((k_low _)) ?_
      rintro _ wc ⟨rfl, hbc⟩
      dsimp only
      have HV := Lib.hid (HV.out.keep hbc)
      clear hbc
      repeat' (first | (with_reducible refine store_set1 HV.out.s4 _ _ _ rfl rfl rfl ?_; dsimp only [Act.put]) | go_values | go_skip | go_guarded | go_step | go_upon)
      refine Calls.mono ((k_und _)) ?_
      rintro _ wc ⟨rfl, hbc⟩
      dsimp only
      have HV := Lib.hid (HV.out.keep hbc)
      clear hbc
      repeat' (first | (with_reducible refine store_set1 HV.out.s4 _ _ _ rfl rfl rfl ?_; dsimp only [Act.put]) | go_values | go_skip | go_guarded | go_step | go_upon)
      refine Calls.mono ((k_join _ _ _)) ?_
      rintro _ wc ⟨rfl, hbc⟩
      dsimp only
      have HV := Lib.hid (HV.out.keep hbc)
      clear hbc
      repeat' (first | (with_reducible refine store_set1 HV.out.s4 _ _ _ rfl rfl rfl ?_; dsimp only [Act.put]) | go_values | go_skip | go_guarded | go_step | go_upon)
      refine Calls.mono ((k_join _ _ _)) ?_
      rintro _ wc ⟨rfl, hbc⟩
      dsimp only
      have HV := Lib.hid (HV.out.keep hbc)
      clear hbc
      repeat' (first | (with_reducible refine store_set1 HV.out.s4 _ _ _ rfl rfl rfl ?_; dsimp only [Act.put]) | go_values | go_skip | go_guarded | go_step | go_upon)
      have HV2 := Lib.hid (HV.out.put (orB (orB (rngB 48 57) (rngB 65 90)) (orB (rngB 97 122) (oneB 95))))
      refine gen_wd (fun W => KW w B g b4 S i d (orB (orB (rngB 48 57) (rngB 65 90)) (orB (rngB 97 122) (oneB 95))) W) HV2.out ?_
      clear HV HV2
      rintro w3 hk
      have HW := Lib.hid hk
      clear hk
      repeat' (first | go_values | go_skip | go_guarded | go_step | go_upon)
      have q0 : ∀ nq : WB w3, nq.1.cell? ⟨g, 0, none⟩ = some (.string S) := fun nq => (HW.out.keep nq.2).ps.c0
      have q1 : ∀ nq : WB w3, nq.1.cell? ⟨g, 1, none⟩ = some (.int .i64 (i : Int)) := fun nq => (HW.out.keep nq.2).ps.c1
      refine wp_region_wb (by kernel_rfl) (by kernel_rfl) w3 (Below.refl _ _) ?_
      repeat (go_big_quiet_step (fail))
      refine wpQuiet_nil ?_
      rintro _ ⟨nt, rfl⟩
      have HV := Lib.hid (HW.out.keep nt.2)
      clear q0 q1 HW
      have HL := Lib.hid HV.out.s4
      repeat' (first | (with_reducible refine load_set1 HL.out _ rfl rfl ?_; dsimp only [Act.put]) | go_values | go_skip | go_guarded | go_step | go_upon)
      refine Calls.mono ((k_not _ _)) ?_
      rintro _ w5 ⟨rfl, hb5⟩
      dsimp only
      have HV := Lib.hid (HV.out.keep hb5)
      clear hb5 HL
      have H4 := Lib.hid HV.out.s4
      have HV := Lib.hid (HV.out.put (notB (orB (orB (rngB 48 57) (rngB 65 90)) (orB (rngB 97 122) (oneB 95)))))
      have c1 := HV.out.ps.c1
      have f1 := HV.out.ps.free 1
      have HL := Lib.hid (show SetAt (World.setCell (w5.setRow b4 (sc (notB (orB (orB (rngB 48 57) (rngB 65 90)) (orB (rngB 97 122) (oneB 95)))))) ⟨g, 1, none⟩ (.int .i64 (j : Int))) b4 (notB (orB (orB (rngB 48 57) (rngB 65 90)) (orB (rngB 97 122) (oneB 95)))) from HV.out.s4.cellOther (by have := HV.out.lt; omega))
      have HM := Lib.hid (show SetAt (World.setCell (w5.setRow b4 (sc (notB (orB (orB (rngB 48 57) (rngB 65 90)) (orB (rngB 97 122) (oneB 95)))))) ⟨g, 1, none⟩ (.int .i64 (j : Int))) B (fun _ => false) from HV.out.s2.cellOther (by have := HV.out.lt; omega))
      have HD := Lib.hid (HV.out.done (j := j))
      repeat' (first | (with_reducible refine store_set1 H4.out _ _ _ rfl rfl rfl ?_; dsimp only [Act.put]) | (with_reducible refine load_set1 HL.out _ rfl rfl ?_; dsimp only [Act.put]) | (with_reducible refine store_set1 HM.out _ _ _ rfl rfl rfl ?_; dsimp only [Act.put]) | go_values | go_skip | go_guarded | go_step | go_upon)
      refine bodyPost_ret (results_set_tmp rfl _ _ _ _ rfl HD.out.1) rfl ?_
      exact KPost.someI HX.out ⟨rfl, by rw [HJ.out]; exact HD.out.2.1, HD.out.2.2⟩
    rw [if_neg hn] at hX
    have n87 := Lib.hid hn
    clear hn
    by_cases hn : x = 115
    · rw [if_pos hn] at hX
      subst hn
      have HX := Lib.hid hX.symm
      clear hX hb
      have hor : bits .or .u8 (115 : Int) 32 = 115 := by decide
      go_enter Tryd.func73, Tryd.ntmps73
      repeat' (first | go_values | go_skip | go_guarded | go_step | go_upon)
      generalize hB : w.heap.size = B at HA ⊢
      refine gen_wd (fun W => SetAt W B (fun _ => false) ∧ PsAt W g S i d ∧ Below B w W ∧ g < B) HA.out ?_
      clear HA
      rintro w1 ⟨hs, hp, hb, hz⟩
      have HS := Lib.hid hs
      have HP := Lib.hid hp
      have HB := Lib.hid hb
      have Hz := Lib.hid hz
      have H2 := Lib.hid hB
      clear hs hp hb hz hB
      have q0 : ∀ nq : WB w1, nq.1.cell? ⟨g, 0, none⟩ = some (.string S) := fun nq => (HP.out.keep nq.2).c0
      have q1 : ∀ nq : WB w1, nq.1.cell? ⟨g, 1, none⟩ = some (.int .i64 (i : Int)) := fun nq => (HP.out.keep nq.2).c1
      refine wp_region_wb (by kernel_rfl) (by kernel_rfl) w1 (Below.refl _ _) ?_
      repeat (go_big_quiet_step ((fail)))
      refine wpQuiet_nil ?_
      rintro _ ⟨nq, rfl⟩
      have hnq := nq.2
      have HK : Hid (KW w B g nq.1.heap.size S i d (fun _ => false) (nq.1.alloc (.cells #[.int .u64 0, .int .u64 0, .int .u64 0, .int .u64 0] 25))) := Lib.hid (KW.new (HS.out.keep hnq) (HP.out.keep hnq) (HB.out.trans (hnq.mono (by have := HS.out.lt; omega))) Hz.out H2.out)
      clear q0 q1 hnq HS HB HP Hz H2
      repeat' (first | go_values | go_skip | go_guarded | go_step | go_upon)
      generalize nq.1.heap.size = b4 at HK ⊢
      refine gen_wd (fun W => KW w B g b4 S i d (fun _ => false) W) HK.out ?_
      clear HK
      rintro w2 hk
      have HW := Lib.hid hk
      clear hk
      have q0 : ∀ nq : WB w2, nq.1.cell? ⟨g, 0, none⟩ = some (.string S) := fun nq => (HW.out.keep nq.2).ps.c0
      have q1 : ∀ nq : WB w2, nq.1.cell? ⟨g, 1, none⟩ = some (.int .i64 (i : Int)) := fun nq => (HW.out.keep nq.2).ps.c1
      refine wp_region_wb (by kernel_rfl) (by kernel_rfl) w2 (Below.refl _ _) ?_
      repeat (go_big_quiet_step (fail))
      refine wpQuiet_nil ?_
      rintro _ ⟨nr, rfl⟩
      have HV := Lib.hid (HW.out.keep nr.2)
      clear q0 q1 HW
      repeat' (first | go_values | go_skip | go_guarded | go_step | go_upon)
      refine Calls.mono ((k_spc _)) ?_
      rintro _ wc ⟨rfl, hbc⟩
      dsimp only
      have HV := Lib.hid (HV.out.keep hbc)
      clear hbc
      repeat' (first | (with_reducible refine store_set1 HV.out.s4 _ _ _ rfl rfl rfl ?_; dsimp only [Act.put]) | go_values | go_skip | go_guarded | go_step | go_upon)
      refine Calls.mono ((k_sp _)) ?_
      rintro _ wc ⟨rfl, hbc⟩
      dsimp only
      have HV := Lib.hid (HV.out.keep hbc)
      clear hbc
      repeat' (first | (with_reducible refine store_set1 HV.out.s4 _ _ _ rfl rfl rfl ?_; dsimp only [Act.put]) | go_values | go_skip | go_guarded | go_step | go_upon)
      refine Calls.mono ((k_join _ _ _)) ?_
      rintro _ wc ⟨rfl, hbc⟩
      dsimp only
      have HV := Lib.hid (HV.out.keep hbc)
      clear hbc
      repeat' (first | (with_reducible refine store_set1 HV.out.s4 _ _ _ rfl rfl rfl ?_; dsimp only [Act.put]) | go_values | go_skip | go_guarded | go_step | go_upon)
      have HV2 := Lib.hid (HV.out.put (orB (rngB 9 13) (oneB 32)))
      refine gen_wd (fun W => KW w B g b4 S i d (orB (rngB 9 13) (oneB 32)) W) HV2.out ?_
      clear HV HV2
      rintro w3 hk
      have HW := Lib.hid hk
      clear hk
      repeat' (first | go_values | go_skip | go_guarded | go_step | go_upon)
      have q0 : ∀ nq : WB w3, nq.1.cell? ⟨g, 0, none⟩ = some (.string S) := fun nq => (HW.out.keep nq.2).ps.c0
      have q1 : ∀ nq : WB w3, nq.1.cell? ⟨g, 1, none⟩ = some (.int .i64 (i : Int)) := fun nq => (HW.out.keep nq.2).ps.c1
      refine wp_region_wb (by kernel_rfl) (by kernel_rfl) w3 (Below.refl _ _) ?_
      repeat (go_big_quiet_step (fail))
      refine wpQuiet_nil ?_
      rintro _ ⟨nt, rfl⟩
      have HV := Lib.hid (HW.out.keep nt.2)
      clear q0 q1 HW
      have c1 := HV.out.ps.c1
      have f1 := HV.out.ps.free 1
      have HL := Lib.hid (show SetAt (World.setCell nt.1 ⟨g, 1, none⟩ (.int .i64 (j : Int))) b4 (orB (rngB 9 13) (oneB 32)) from HV.out.s4.cellOther (by have := HV.out.lt; omega))
      have HM := Lib.hid (show SetAt (World.setCell nt.1 ⟨g, 1, none⟩ (.int .i64 (j : Int))) B (fun _ => false) from HV.out.s2.cellOther (by have := HV.out.lt; omega))
      have HD := Lib.hid (HV.out.done (j := j))
      repeat' (first | (fail) | (with_reducible refine load_set1 HL.out _ rfl rfl ?_; dsimp only [Act.put]) | (with_reducible refine store_set1 HM.out _ _ _ rfl rfl rfl ?_; dsimp only [Act.put]) | go_values | go_skip | go_guarded | go_step | go_upon)
      refine bodyPost_ret (results_set_tmp rfl _ _ _ _ rfl HD.out.1) rfl ?_
      exact KPost.someI HX.out ⟨rfl, by rw [HJ.out]; exact HD.out.2.1, HD.out.2.2⟩
    rw [if_neg hn] at hX
    have n115 := Lib.hid hn
    clear hn
    by_cases hn : x = 83
    · rw [if_pos hn] at hX
      subst hn
      have HX := Lib.hid hX.symm
      clear hX hb
      have hor : bits .or .u8 (83 : Int) 32 = 115 := by decide
      go_enter Tryd.func73, Tryd.ntmps73
      repeat' (first | go_values | go_skip | go_guarded | go_step | go_upon)
      generalize hB : w.heap.size = B at HA ⊢
      refine gen_wd (fun W => SetAt W B (fun _ => false) ∧ PsAt W g S i d ∧ Below B w W ∧ g < B) HA.out ?_
      clear HA
      rintro w1 ⟨hs, hp, hb, hz⟩
      have HS := Lib.hid hs
      have HP := Lib.hid hp
      have HB := Lib.hid hb
      have Hz := Lib.hid hz
      have H2 := Lib.hid hB
      clear hs hp hb hz hB
      have q0 : ∀ nq : WB w1, nq.1.cell? ⟨g, 0, none⟩ = some (.string S) := fun nq => (HP.out.keep nq.2).c0
      have q1 : ∀ nq : WB w1, nq.1.cell? ⟨g, 1, none⟩ = some (.int .i64 (i : Int)) := fun nq => (HP.out.keep nq.2).c1
      refine wp_region_wb (by kernel_rfl) (by kernel_rfl) w1 (Below.refl _ _) ?_
      repeat (go_big_quiet_step ((fail)))
      refine wpQuiet_nil ?_
      rintro _ ⟨nq, rfl⟩
      have hnq := nq.2
      have HK : Hid (KW w B g nq.1.heap.size S i d (fun _ => false) (nq.1.alloc (.cells #[.int .u64 0, .int .u64 0, .int .u64 0, .int .u64 0] 25))) := Lib.hid (KW.new (HS.out.keep hnq) (HP.out.keep hnq) (HB.out.trans (hnq.mono (by have := HS.out.lt; omega))) Hz.out H2.out)
      clear q0 q1 hnq HS HB HP Hz H2
      repeat' (first | go_values | go_skip | go_guarded | go_step | go_upon)
      generalize nq.1.heap.size = b4 at HK ⊢
      refine gen_wd (fun W => KW w B g b4 S i d (fun _ => false) W) HK.out ?_
      clear HK
      rintro w2 hk
      have HW := Lib.hid hk
      clear hk
      have q0 : ∀ nq : WB w2, nq.1.cell? ⟨g, 0, none⟩ = some (.string S) := fun nq => (HW.out.keep nq.2).ps.c0
      have q1 : ∀ nq : WB w2, nq.1.cell? ⟨g, 1, none⟩ = some (.int .i64 (i : Int)) := fun nq => (HW.out.keep nq.2).ps.c1
      refine wp_region_wb (by kernel_rfl) (by kernel_rfl) w2 (Below.refl _ _) ?_
      repeat (go_big_quiet_step (fail))
      refine wpQuiet_nil ?_
      rintro _ ⟨nr, rfl⟩
      have HV := Lib.hid (HW.out.keep nr.2)
      clear q0 q1 HW
      repeat' (first | go_values | go_skip | go_guarded | go_step | go_upon)
      refine Calls.mono ((k_spc _)) ?_
      rintro _ wc ⟨rfl, hbc⟩
      dsimp only
      have HV := Lib.hid (HV.out.keep hbc)
      clear hbc
      repeat' (first | (with_reducible refine store_set1 HV.out.s4 _ _ _ rfl rfl rfl ?_; dsimp only [Act.put]) | go_values | go_skip | go_guarded | go_step | go_upon)
      refine Calls.mono ((k_sp _)) ?_
      rintro _ wc ⟨rfl, hbc⟩
      dsimp only
      have HV := Lib.hid (HV.out.keep hbc)
      clear hbc
      repeat' (first | (with_reducible refine store_set1 HV.out.s4 _ _ _ rfl rfl rfl ?_; dsimp only [Act.put]) | go_values | go_skip | go_guarded | go_step | go_upon)
      refine Calls.mono ((k_join _ _ _)) ?_
      rintro _ wc ⟨rfl, hbc⟩
      dsimp only
      have HV := Lib.hid (HV.out.keep hbc)
      clear hbc
      repeat' (first | (with_reducible refine store_set1 HV.out.s4 _ _ _ rfl rfl rfl ?_; dsimp only [Act.put]) | go_values | go_skip | go_guarded | go_step | go_upon)
      have HV2 := Lib.hid (HV.out.put (orB (rngB 9 13) (oneB 32)))
      refine gen_wd (fun W => KW w B g b4 S i d (orB (rngB 9 13) (oneB 32)) W) HV2.out ?_
      clear HV HV2
      rintro w3 hk
      have HW := Lib.hid hk
      clear hk
      repeat' (first | go_values | go_skip | go_guarded | go_step | go_upon)
      have q0 : ∀ nq : WB w3, nq.1.cell? ⟨g, 0, none⟩ = some (.string S) := fun nq => (HW.out.keep nq.2).ps.c0
      have q1 : ∀ nq : WB w3, nq.1.cell? ⟨g, 1, none⟩ = some (.int .i64 (i : Int)) := fun nq => (HW.out.keep nq.2).ps.c1
      refine wp_region_wb (by kernel_rfl) (by kernel_rfl) w3 (Below.refl _ _) ?_
      repeat (go_big_quiet_step (fail))
      refine wpQuiet_nil ?_
      rintro _ ⟨nt, rfl⟩
      have HV := Lib.hid (HW.out.keep nt.2)
      clear q0 q1 HW
      have HL := Lib.hid HV.out.s4
      repeat' (first | (with_reducible refine load_set1 HL.out _ rfl rfl ?_; dsimp only [Act.put]) | go_values | go_skip | go_guarded | go_step | go_upon)
      refine Calls.mono ((k_not _ _)) ?_
      rintro _ w5 ⟨rfl, hb5⟩
      dsimp only
      have HV := Lib.hid (HV.out.keep hb5)
      clear hb5 HL
      have H4 := Lib.hid HV.out.s4
      have HV := Lib.hid (HV.out.put (notB (orB (rngB 9 13) (oneB 32))))
      have c1 := HV.out.ps.c1
      have f1 := HV.out.ps.free 1
      have HL := Lib.hid (show SetAt (World.setCell (w5.setRow b4 (sc (notB (orB (rngB 9 13) (oneB 32))))) ⟨g, 1, none⟩ (.int .i64 (j : Int))) b4 (notB (orB (rngB 9 13) (oneB 32))) from HV.out.s4.cellOther (by have := HV.out.lt; omega))
      have HM := Lib.hid (show SetAt (World.setCell (w5.setRow b4 (sc (notB (orB (rngB 9 13) (oneB 32))))) ⟨g, 1, none⟩ (.int .i64 (j : Int))) B (fun _ => false) from HV.out.s2.cellOther (by have := HV.out.lt; omega))
      have HD := Lib.hid (HV.out.done (j := j))
      repeat' (first | (with_reducible refine store_set1 H4.out _ _ _ rfl rfl rfl ?_; dsimp only [Act.put]) | (with_reducible refine load_set1 HL.out _ rfl rfl ?_; dsimp only [Act.put]) | (with_reducible refine store_set1 HM.out _ _ _ rfl rfl rfl ?_; dsimp only [Act.put]) | go_values | go_skip | go_guarded | go_step | go_upon)
      refine bodyPost_ret (results_set_tmp rfl _ _ _ _ rfl HD.out.1) rfl ?_
      exact KPost.someI HX.out ⟨rfl, by rw [HJ.out]; exact HD.out.2.1, HD.out.2.2⟩
    rw [if_neg hn] at hX
    have n83 := Lib.hid hn
    clear hn
    have hor := or_some ⟨x, hb⟩ ⟨n100.out, n68.out, n119.out, n87.out, n115.out, n83.out⟩
    dsimp only at hor
    generalize hy : bits .or .u8 (x : Int) 32 = y at hor
    have y1 : (y == 100) = false := beq_false_of_ne hor.1
    have y2 : (y == 119) = false := beq_false_of_ne hor.2.1
    have y3 : (y == 115) = false := beq_false_of_ne hor.2.2
    have HX := Lib.hid hX.symm
    clear hX hb hor n100 n68 n119 n87 n115 n83
    go_enter Tryd.func73, Tryd.ntmps73
    repeat' (first | go_values | go_skip | go_guarded | go_step | go_upon)
    generalize hB : w.heap.size = B at HA ⊢
    refine gen_wd (fun W => SetAt W B (fun _ => false) ∧ PsAt W g S i d ∧ Below B w W ∧ g < B) HA.out ?_
    clear HA
    rintro w1 ⟨hs, hp, hb, hz⟩
    have HS := Lib.hid hs
    have HP := Lib.hid hp
    have HB := Lib.hid hb
    have Hz := Lib.hid hz
    have H2 := Lib.hid hB
    clear hs hp hb hz hB
    have q0 : ∀ nq : WB w1, nq.1.cell? ⟨g, 0, none⟩ = some (.string S) := fun nq => (HP.out.keep nq.2).c0
    have q1 : ∀ nq : WB w1, nq.1.cell? ⟨g, 1, none⟩ = some (.int .i64 (i : Int)) := fun nq => (HP.out.keep nq.2).c1
    refine wp_region_wb (by kernel_rfl) (by kernel_rfl) w1 (Below.refl _ _) ?_
    repeat (go_big_quiet_step ((fail)))
    refine wpQuiet_nil ?_
    rintro _ ⟨nq, rfl⟩
    have hnq := nq.2
    have HK : Hid (KW w B g nq.1.heap.size S i d (fun _ => false) (nq.1.alloc (.cells #[.int .u64 0, .int .u64 0, .int .u64 0, .int .u64 0] 25))) := Lib.hid (KW.new (HS.out.keep hnq) (HP.out.keep hnq) (HB.out.trans (hnq.mono (by have := HS.out.lt; omega))) Hz.out H2.out)
    clear q0 q1 hnq HS HB HP Hz H2
    repeat' (first | go_values | go_skip | go_guarded | go_step | go_upon)
    generalize nq.1.heap.size = b4 at HK ⊢
    refine gen_wd (fun W => KW w B g b4 S i d (fun _ => false) W) HK.out ?_
    clear HK
    rintro w2 hk
    have HW := Lib.hid hk
    clear hk
    have q0 : ∀ nq : WB w2, nq.1.cell? ⟨g, 0, none⟩ = some (.string S) := fun nq => (HW.out.keep nq.2).ps.c0
    have q1 : ∀ nq : WB w2, nq.1.cell? ⟨g, 1, none⟩ = some (.int .i64 (i : Int)) := fun nq => (HW.out.keep nq.2).ps.c1
    refine wp_region_wb (by kernel_rfl) (by kernel_rfl) w2 (Below.refl _ _) ?_
    repeat (go_big_quiet_step (fail))
    refine wpQuiet_nil ?_
    rintro _ ⟨nr, rfl⟩
    have HV := Lib.hid (HW.out.keep nr.2)
    clear q0 q1 HW
    have HD := Lib.hid HV.out.none
    have HM := Lib.hid HV.out.s2
    repeat' (first | (refine store_set0 HM.out (.tmp 2) (.tmp 26) rfl rfl rfl ?_; dsimp only [Act.put]) | go_values | go_skip | go_guarded | go_step | go_upon)
    refine bodyPost_ret (results_set_tmp rfl _ _ _ _ rfl HD.out.1) rfl ?_
    exact KPost.noneI HX.out ⟨rfl, HD.out.2.1, HD.out.2.2⟩
  · have hlt' : (i : Int) ≥ S.size := by omega
    rw [if_neg hlt] at hX
    have HX := Lib.hid hX.symm
    clear hX hlt
    go_enter Tryd.func73, Tryd.ntmps73
    repeat' (first | go_values | go_skip | go_guarded | go_step | go_upon)
    generalize hB : w.heap.size = B at HA ⊢
    refine gen_wd (fun W => SetAt W B (fun _ => false) ∧ PsAt W g S i d ∧ Below B w W ∧ g < B) HA.out ?_
    clear HA
    rintro w1 ⟨hs, hp, hb, hz⟩
    have HS := Lib.hid hs
    have HP := Lib.hid hp
    have HB := Lib.hid hb
    have Hz := Lib.hid hz
    have H2 := Lib.hid hB
    clear hs hp hb hz hB
    have q0 : ∀ nq : WB w1, nq.1.cell? ⟨g, 0, none⟩ = some (.string S) := fun nq => (HP.out.keep nq.2).c0
    have q1 : ∀ nq : WB w1, nq.1.cell? ⟨g, 1, none⟩ = some (.int .i64 (i : Int)) := fun nq => (HP.out.keep nq.2).c1
    refine wp_region_wb (by kernel_rfl) (by kernel_rfl) w1 (Below.refl _ _) ?_
    repeat (go_big_quiet_step ((fail)))
    refine wpQuiet_nil ?_
    rintro _ ⟨nq, rfl⟩
    have hnq := nq.2
    have HM := Lib.hid (HS.out.keep hnq)
    have HP2 := Lib.hid (HP.out.keep hnq)
    have HB2 := Lib.hid (HB.out.trans (hnq.mono (by have := HS.out.lt; omega)))
    clear q0 q1 hnq
    repeat' (first | (with_reducible refine store_set0 HM.out _ _ rfl rfl rfl ?_; dsimp only [Act.put]) | go_values | go_skip | go_guarded | go_step | go_upon)
    refine bodyPost_ret (results_set_tmp rfl _ _ _ _ rfl HM.out.set) rfl ?_
    refine KPost.noneI HX.out ⟨rfl, ?_, ?_⟩
    · unfold PsAt; rw [setRow_other _ _ _ _ (by have := Hz.out; omega)]; exact HP2.out
    · have he : Else g w nq.1 := Else.of_below (by rw [H2.out]; exact HB2.out)
      exact ⟨he.os, he.tape, he.output, by simpa using he.size, fun k hk hne => by rw [setRow_other _ _ _ _ (by have := H2.out; omega)]; exact he.block k hk hne⟩
end Go.Proofs.YtnbfifmnigeolaaDoor
namespace Go.Proofs.YtnbfifmnigeolaaDoor
open Go.RowKit Go.Lib
/-- a variable of the call's own that holds a node -/
def ReBox (w : World) (b : Nat) (r : RN) : Prop := w.heap[b]? = some (.cells (reC r).toArray 28 (0, 0))
def reZ : RN := ⟨0, (0, 0, 0, 0), 0, 0, .slice none 0 0⟩
noncomputable def setN (p : Nat → Bool) : RN := ⟨1, wS p, 0, 0, .slice none 0 0⟩
section
variable {w w' : World} {b : Nat} {r r0 : RN}
theorem ReBox.lt (h : ReBox w b r) : b < w.heap.size := (Array.getElem?_eq_some_iff.1 h).1
theorem ReBox.keep (h : ReBox w b r) (hb : Below w.heap.size w w') : ReBox w' b r := by unfold ReBox; rw [hb.block b h.lt]; exact h
theorem ReBox.els {g : Nat} (h : ReBox w b r) (he : Else g w w') (hne : b ≠ g) : ReBox w' b r := he.row h hne
theorem ReBox.new (w : World) (r : RN) : ReBox (w.alloc (.cells (reC r).toArray 28)) w.heap.size r := Go.heap_alloc_new _ _
theorem ReBox.zero (w : World) : ReBox (w.alloc (.cells #[.int .i64 0, .int .u64 0, .int .u64 0, .int .u64 0, .int .u64 0, .int .i64 0, .int .i64 0, .slice none 0 0] 28)) w.heap.size reZ := Go.heap_alloc_new _ _
theorem ReBox.set (h : ReBox w b r0) (r : RN) : ReBox (w.setRow b (reC r).toArray) b r := setRow_heap _ _ _ _ _ _ h
theorem ReBox.other {q : Nat} {cs : Array Value} (h : ReBox w b r) (hq : b ≠ q) : ReBox (w.setRow q cs) b r := by unfold ReBox; rw [setRow_other _ _ _ _ hq]; exact h
theorem ReBox.cellOther {q o : Nat} {u : Value} (h : ReBox w b r) (hq : b ≠ q) : ReBox (w.setCell ⟨q, o, none⟩ u) b r := by
  unfold ReBox; rw [show (w.setCell ⟨q, o, none⟩ u).heap[b]? = w.heap[b]? from Below.heap_setCell _ _ _ _ (by dsimp only; omega)]; exact h
theorem store_box {o : Oper} {a : Act} {K : Act → World → Prop} {Q : Exit → Act → World → Prop} (hs : ReBox w b r0) (r : RN) (hr : r.v.oneCell' = true) (x y : Operand) (ho : o.op = .store 28 x y)
    (hx : a.eval x = .pointer (some ⟨b, 0, none⟩)) (hy : a.eval y = reV r) (h : K (a.put o.dst undef) (w.setRow b (reC r).toArray)) : o.wp Tryd.prog a w K Q :=
  wp_store_row _ x y ho b (reC r).toArray hx hy 28 _ hs info_re rfl (re_one hr) h
theorem load_box {o : Oper} {a : Act} {K : Act → World → Prop} {Q : Exit → Act → World → Prop} (hs : ReBox w b r) (x : Operand) (ho : o.op = .load 28 x)
    (hx : a.eval x = .pointer (some ⟨b, 0, none⟩)) (h : K (a.put o.dst (reV r)) w) : o.wp Tryd.prog a w K Q :=
  wp_load_row _ x ho b hx 28 (reC r).toArray (0, 0) _ hs Tryd.underlying28 rfl info_re h
theorem results_re {fn : Func} {p' : Tmp} (h : fn.results = #[.cell p' 28]) (tmps : Array Value) (w : World) (b : Nat) (r : RN) (hp : tmps.getD p' undef = .pointer (some ⟨b, 0, none⟩)) (hs : ReBox w b r) :
    (results fn tmps).run Tryd.prog w = .ok (reV r) w :=
  results_cell_row h tmps w b 28 (reC r).toArray (0, 0) _ hp hs Tryd.underlying28 rfl info_re
theorem PsAt.row {w : World} {g q : Nat} {S : ByteArray} {i d : Nat} {cs : Array Value} (h : PsAt w g S i d) (hq : g ≠ q) : PsAt (w.setRow q cs) g S i d := by unfold PsAt; rw [setRow_other _ _ _ _ hq]; exact h
theorem Else.rowNew {w w' : World} {g q : Nat} (h : Else g w w') (hq : w.heap.size ≤ q) (cs : Array Value) : Else g w (w'.setRow q cs) :=
  ⟨h.os, h.tape, h.output, by simpa using h.size, fun k hk hne => by rw [setRow_other _ _ _ _ (by omega)]; exact h.block k hk hne⟩
end
theorem set_re (w : World) (p : Nat → Bool) : ReAt w 1 (setN p) (setT p) :=
  ⟨⟨rfl, rfl, rfl, rfl⟩, ⟨by unfold I64; omega, by unfold I64; omega, by unfold I64; omega⟩, Nat.zero_le _, [], ⟨none, 0, rfl, Nat.le_refl _, Nat.zero_le _, rfl, .inl rfl⟩, rfl, fun i r t h => by simp at h⟩
set_option maxRecDepth 100000 in
theorem ps_one (c : Nat) (hc : c < 256) (w : World) : Calls Tryd.prog 74 #[.int .u8 (c : Int)] w fun e w' => e = .returned (reV (setN (oneB c))) ∧ Below w.heap.size w w' := by
  have HA : Hid (ReBox (w.alloc (.cells #[.int .i64 0, .int .u64 0, .int .u64 0, .int .u64 0, .int .u64 0, .int .i64 0, .int .i64 0, .slice none 0 0] 28)) w.heap.size reZ ∧ Below w.heap.size w (w.alloc (.cells #[.int .i64 0, .int .u64 0, .int .u64 0, .int .u64 0, .int .u64 0, .int .i64 0, .int .i64 0, .slice none 0 0] 28))) := Lib.hid ⟨ReBox.zero w, (Below.refl _ _).alloc (Nat.le_refl _) _⟩
  have kc := fun W => k_of c hc W
  go_enter Tryd.func74, Tryd.ntmps74
  repeat' (go_not_at_region 1; first | go_values | go_skip | go_guarded | go_step | go_upon)
  generalize hB : w.heap.size = B at HA ⊢
  refine gen_wd (fun W => ReBox W B reZ ∧ Below B w W) HA.out ?_
  clear HA
  rintro w1 ⟨hr, hb⟩
  have HR := Lib.hid hr
  have HB := Lib.hid hb
  have hz := hr.lt
  clear hr hb
  repeat' (first | (with_reducible refine wp_conv_lit1 Tryd.underlying62 Tryd.underlying5 Tryd.underlying9 rfl _ rfl rfl ?_) | go_values | go_skip | go_guarded | go_step | go_upon)
  refine Calls.mono ((kc _)) ?_
  rintro _ w2 ⟨rfl, hb⟩
  dsimp only
  have hal := (Below.refl w1.heap.size w1).alloc (Nat.le_refl _) (.cells #[.int .u8 (c : Int)] 5)
  have HX := Lib.hid ((HR.out.keep hal).keep hb)
  have HY := Lib.hid ((HB.out.trans (hal.mono (Nat.le_of_lt hz))).trans (hb.mono (Nat.le_trans (Nat.le_of_lt hz) hal.size)))
  have HQ := Lib.hid hB
  clear hal hb HR HB kc hB hz
  repeat' (first | (refine store_box HX.out (setN (oneB c)) rfl _ _ rfl rfl rfl ?_; dsimp only [Act.put]) | go_values | go_skip | go_guarded | go_step | go_upon)
  refine bodyPost_ret (results_re rfl _ _ _ _ rfl (HX.out.set _)) rfl ?_
  exact ⟨rfl, by rw [HQ.out]; exact Below.row HY.out (Nat.le_refl _) _⟩
end Go.Proofs.YtnbfifmnigeolaaDoor
