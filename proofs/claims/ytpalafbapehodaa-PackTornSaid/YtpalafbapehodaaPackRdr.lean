/- Walks: the reader of a pack (number, text, must). Conditions: the text is of at most 10^15 bytes; the place is an int. -/
import Derived.Test.YtpalafbapehodaaPackPut
import Derived.Test.YtpalafbapehodaaOwnRows
namespace Go.Proofs.Ytpalafbapehodaa
open Go.RowKit
/-- a reader: its text, its place, what is wrong -/
def RdrAt (w : World) (g : Nat) (s : List UInt8) (at' bad : Int) : Prop := w.heap[g]? = some (.cells #[.string ⟨s.toArray⟩, .int .i64 at', .int .i64 bad] 56 (0, 0))
section
variable {w : World} {g : Nat} {s : List UInt8} {at' bad : Int}
theorem RdrAt.c0 (h : RdrAt w g s at' bad) : w.cell? ⟨g, 0, none⟩ = some (.string ⟨s.toArray⟩) := by rw [cell_of_row w g 0 _ _ _ h]; rfl
theorem RdrAt.c1 (h : RdrAt w g s at' bad) : w.cell? ⟨g, 1, none⟩ = some (.int .i64 at') := by rw [cell_of_row w g 1 _ _ _ h]; rfl
theorem RdrAt.c2 (h : RdrAt w g s at' bad) : w.cell? ⟨g, 2, none⟩ = some (.int .i64 bad) := by rw [cell_of_row w g 2 _ _ _ h]; rfl
theorem RdrAt.free (h : RdrAt w g s at' bad) (k : Nat) : w.frozen? ⟨g, k, none⟩ = false := frozen_of_row _ _ _ _ _ h
theorem RdrAt.lt (h : RdrAt w g s at' bad) : g < w.heap.size := (Array.getElem?_eq_some_iff.1 h).1
theorem RdrAt.keep {w' : World} (h : RdrAt w g s at' bad) (hb : Below w.heap.size w w') : RdrAt w' g s at' bad := by unfold RdrAt; rw [hb.block g h.lt]; exact h
theorem RdrAt.set1 (h : RdrAt w g s at' bad) (x : Int) : RdrAt (w.setCell ⟨g, 1, none⟩ (.int .i64 x)) g s x bad := by
  unfold RdrAt; rw [setCell_eq_setRow _ _ _ _ _ _ _ h, setRow_heap _ _ _ _ _ _ h]; simp
theorem RdrAt.set2 (h : RdrAt w g s at' bad) (x : Int) : RdrAt (w.setCell ⟨g, 2, none⟩ (.int .i64 x)) g s at' x := by
  unfold RdrAt; rw [setCell_eq_setRow _ _ _ _ _ _ _ h, setRow_heap _ _ _ _ _ _ h]; simp
end
set_option maxRecDepth 100000 in
set_option maxHeartbeats 400000 in
theorem rdr_number (g : Nat) (s : List UInt8) (hs : s.length ≤ 1000000000000000) (at' bad : Int) (ha : I64 at') (w : World) (h : RdrAt w g s at' bad) :
    Calls Try.prog 29 #[.pointer (some ⟨g, 0, none⟩)] w fun e w' => e = .returned (.int .u64 ((rdNum s at' bad).1 : Nat)) ∧ RdrAt w' g s (rdNum s at' bad).2.1 (rdNum s at' bad).2.2 ∧ Else g w w' := by
  unfold rdNum
  by_cases h0 : bad = 0
  · subst h0
    rw [if_neg (by simp)]
    have hc := wire_Get ⟨s.toArray⟩ (by rw [ba_size]; exact hs) at' ha
    have hd : (⟨s.toArray⟩ : ByteArray).data.toList = s := rfl
    rw [hd] at hc
    clear hd
    generalize vget s at' = r at hc ⊢
    obtain ⟨r1, r2, r3⟩ := r
    dsimp only at hc ⊢
    have Hc := Lib.hid hc; clear hc
    have c2 := h.c2
    have q0 : ∀ nq : WB w, nq.1.cell? ⟨g, 0, none⟩ = some (.string ⟨s.toArray⟩) := fun nq => (h.keep nq.2).c0
    have q1 : ∀ nq : WB w, nq.1.cell? ⟨g, 1, none⟩ = some (.int .i64 at') := fun nq => (h.keep nq.2).c1
    have H := Lib.hid h; clear h
    go_enter Try.func29, Try.ntmps29
    repeat' (first | go_values | go_skip | go_guarded | go_step | go_upon)
    refine wp_region_wb (by kernel_rfl) (by kernel_rfl) w (Below.refl _ _) ?_
    repeat (go_big_quiet_step ((go_at_call 39; exact calls_wb_same (Hc.out _))))
    refine wpQuiet_nil ?_
    rintro _ ⟨nq, rfl⟩
    have hnq := nq.2
    clear q0 q1
    have Hn := Lib.hid (H.out.keep hnq)
    have n1 := Hn.out.c1
    have n2 := Hn.out.c2
    have f1 := Hn.out.free 1
    have f2 := Hn.out.free 2
    have He := Lib.hid (Else.of_below (g := g) hnq)
    clear hnq c2 H
    repeat' (first | go_values | go_skip | go_guarded | go_step | go_upon)
    go_ret
    exact ⟨rfl, (Hn.out.set1 _).set2 _, (He.out.setCell _ _).setCell _ _⟩
  · rw [if_pos h0]
    have c2 := h.c2
    have h0' : (bad == 0) = false := by simpa using h0
    have h0'' : (bad != 0) = true := by simpa using h0
    have H := Lib.hid h; clear h
    go_enter Try.func29, Try.ntmps29
    repeat' (first | go_values | go_skip | go_guarded | go_step | go_upon)
    go_ret
    exact ⟨rfl, H.out, Else.refl _ _⟩
set_option maxRecDepth 100000 in
set_option maxHeartbeats 400000 in
theorem rdr_text (g : Nat) (s : List UInt8) (hs : s.length ≤ 1000000000000000) (at' bad : Int) (ha : I64 at') (w : World) (h : RdrAt w g s at' bad) :
    Calls Try.prog 30 #[.pointer (some ⟨g, 0, none⟩)] w fun e w' => e = .returned (.string ⟨(rdText s at' bad).1.toArray⟩) ∧ RdrAt w' g s (rdText s at' bad).2.1 (rdText s at' bad).2.2 ∧ Else g w w' := by
  unfold rdText
  by_cases h0 : bad = 0
  · subst h0
    rw [if_neg (by simp)]
    have hc := wire_GetText ⟨s.toArray⟩ (by rw [ba_size]; exact hs) at' ha 8388608 (i64_small (by omega))
    have hd : (⟨s.toArray⟩ : ByteArray).data.toList = s := rfl
    rw [hd] at hc
    clear hd
    generalize gett s at' 8388608 = r at hc ⊢
    obtain ⟨r1, r2, r3⟩ := r
    dsimp only at hc ⊢
    have Hc := Lib.hid hc; clear hc
    have c2 := h.c2
    have q0 : ∀ nq : WB w, nq.1.cell? ⟨g, 0, none⟩ = some (.string ⟨s.toArray⟩) := fun nq => (h.keep nq.2).c0
    have q1 : ∀ nq : WB w, nq.1.cell? ⟨g, 1, none⟩ = some (.int .i64 at') := fun nq => (h.keep nq.2).c1
    have H := Lib.hid h; clear h
    go_enter Try.func30, Try.ntmps30
    repeat' (first | go_values | go_skip | go_guarded | go_step | go_upon)
    refine wp_region_wb (by kernel_rfl) (by kernel_rfl) w (Below.refl _ _) ?_
    repeat (go_big_quiet_step ((go_at_call 40; exact calls_wb_same (Hc.out _))))
    refine wpQuiet_nil ?_
    rintro _ ⟨nq, rfl⟩
    have hnq := nq.2
    clear q0 q1
    have Hn := Lib.hid (H.out.keep hnq)
    have n1 := Hn.out.c1
    have n2 := Hn.out.c2
    have f1 := Hn.out.free 1
    have f2 := Hn.out.free 2
    have He := Lib.hid (Else.of_below (g := g) hnq)
    clear hnq c2 H
    repeat' (first | go_values | go_skip | go_guarded | go_step | go_upon)
    go_ret
    exact ⟨rfl, (Hn.out.set1 _).set2 _, (He.out.setCell _ _).setCell _ _⟩
  · rw [if_pos h0]
    have c2 := h.c2
    have h0' : (bad == 0) = false := by simpa using h0
    have h0'' : (bad != 0) = true := by simpa using h0
    have H := Lib.hid h; clear h
    go_enter Try.func30, Try.ntmps30
    repeat' (first | go_values | go_skip | go_guarded | go_step | go_upon)
    go_ret
    exact ⟨rfl, H.out, Else.refl _ _⟩
set_option maxRecDepth 100000 in
set_option maxHeartbeats 400000 in
theorem rdr_must (g : Nat) (s : List UInt8) (at' bad : Int) (ok : Bool) (x : Int) (w : World) (h : RdrAt w g s at' bad) :
    Calls Try.prog 31 #[.pointer (some ⟨g, 0, none⟩), .bool ok, .int .i64 x] w fun e w' => e = .returned (.tuple #[]) ∧ RdrAt w' g s at' (rdMust ok x bad) ∧ Else g w w' := by
  unfold rdMust
  have c2 := h.c2
  have f2 := h.free 2
  have H := Lib.hid h; clear h
  by_cases h0 : bad = 0
  · subst h0
    cases ok
    · rw [if_pos ⟨rfl, rfl⟩]
      go_enter Try.func31, Try.ntmps31
      repeat' (first | go_values | go_skip | go_guarded | go_step | go_upon)
      go_end0
      exact ⟨rfl, H.out.set2 _, (Else.refl _ _).setCell _ _⟩
    · rw [if_neg (by simp)]
      go_enter Try.func31, Try.ntmps31
      repeat' (first | go_values | go_skip | go_guarded | go_step | go_upon)
      go_end0
      exact ⟨rfl, H.out, Else.refl _ _⟩
  · rw [if_neg (by simp [h0])]
    have h0' : (bad == 0) = false := by simpa using h0
    go_enter Try.func31, Try.ntmps31
    repeat' (first | go_values | go_skip | go_guarded | go_step | go_upon)
    go_end0
    exact ⟨rfl, H.out, Else.refl _ _⟩
end Go.Proofs.Ytpalafbapehodaa
