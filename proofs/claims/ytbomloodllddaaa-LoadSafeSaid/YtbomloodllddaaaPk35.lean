/- Walks: the reader of a section (load.reader: count, number, list, ints, text). Conditions: the text is of at most 10^15 bytes; the place is an int. -/
import Derived.Test.YtbomloodllddaaaPk34
import Derived.Test.YtbomloodllddaaaPk24
import Derived.Test.YtbomloodllddaaaPk15
import Derived.Test.YtbomloodllddaaaPk07
import Derived.Test.YtbomloodllddaaaPk20
import Derived.Test.YtbomloodllddaaaPk05
import Derived.Deep.Cut
import Derived.Deep.CutRange
namespace Go.Proofs.Ytbomloodllddaaa
open Go.RowKit
/-- a reader: its text, its place, what is wrong, was a number too wide? -/
def RdAt (w : World) (g : Nat) (s : List UInt8) (at' bad : Int) (wd : Bool) : Prop := w.heap[g]? = some (.cells #[.string ⟨s.toArray⟩, .int .i64 at', .int .i64 bad, .bool wd] 83 (0, 0))
section
variable {w : World} {g : Nat} {s : List UInt8} {at' bad : Int} {wd : Bool}
theorem RdAt.c0 (h : RdAt w g s at' bad wd) : w.cell? ⟨g, 0, none⟩ = some (.string ⟨s.toArray⟩) := by rw [cell_of_row w g 0 _ _ _ h]; rfl
theorem RdAt.c1 (h : RdAt w g s at' bad wd) : w.cell? ⟨g, 1, none⟩ = some (.int .i64 at') := by rw [cell_of_row w g 1 _ _ _ h]; rfl
theorem RdAt.c2 (h : RdAt w g s at' bad wd) : w.cell? ⟨g, 2, none⟩ = some (.int .i64 bad) := by rw [cell_of_row w g 2 _ _ _ h]; rfl
theorem RdAt.c3 (h : RdAt w g s at' bad wd) : w.cell? ⟨g, 3, none⟩ = some (.bool wd) := by rw [cell_of_row w g 3 _ _ _ h]; rfl
theorem RdAt.free (h : RdAt w g s at' bad wd) (k : Nat) : w.frozen? ⟨g, k, none⟩ = false := frozen_of_row _ _ _ _ _ h
theorem RdAt.lt (h : RdAt w g s at' bad wd) : g < w.heap.size := (Array.getElem?_eq_some_iff.1 h).1
theorem RdAt.keep {w' : World} (h : RdAt w g s at' bad wd) (hb : Below w.heap.size w w') : RdAt w' g s at' bad wd := by unfold RdAt; rw [hb.block g h.lt]; exact h
theorem RdAt.keepB {w' : World} {B : Nat} (h : RdAt w g s at' bad wd) (hb : Below B w w') (hB : g < B) : RdAt w' g s at' bad wd := by unfold RdAt; rw [hb.block g hB]; exact h
theorem RdAt.set1 (h : RdAt w g s at' bad wd) (x : Int) : RdAt (w.setCell ⟨g, 1, none⟩ (.int .i64 x)) g s x bad wd := by
  unfold RdAt; rw [setCell_eq_setRow _ _ _ _ _ _ _ h, setRow_heap _ _ _ _ _ _ h]; simp
theorem RdAt.set2 (h : RdAt w g s at' bad wd) (x : Int) : RdAt (w.setCell ⟨g, 2, none⟩ (.int .i64 x)) g s at' x wd := by
  unfold RdAt; rw [setCell_eq_setRow _ _ _ _ _ _ _ h, setRow_heap _ _ _ _ _ _ h]; simp
theorem RdAt.set3 (h : RdAt w g s at' bad wd) (x : Bool) : RdAt (w.setCell ⟨g, 3, none⟩ (.bool x)) g s at' bad x := by
  unfold RdAt; rw [setCell_eq_setRow _ _ _ _ _ _ _ h, setRow_heap _ _ _ _ _ _ h]; simp
theorem RdAt.new (w : World) (s : List UInt8) : RdAt (w.alloc (.cells #[.string ⟨s.toArray⟩, .int .i64 0, .int .i64 0, .bool false] 83)) w.heap.size s 0 0 false := Go.heap_alloc_new _ _
end
theorem Else.after {g : Nat} {w w' w'' : World} (h : Else g w w') (hb : Below w'.heap.size w' w'') : Else g w w'' := h.trans (Else.of_below hb)
theorem ElseC.setCell {C g : Nat} {w w' : World} (h : ElseC C g w w') (o : Nat) (u : Value) : ElseC C g w (w'.setCell ⟨g, o, none⟩ u) :=
  ⟨h.os, h.tape, h.output, by have := h.size; simpa [World.setCell] using this, fun k hk hne => by rw [show (w'.setCell ⟨g, o, none⟩ u).heap[k]? = w'.heap[k]? from Below.heap_setCell _ _ _ _ (by dsimp only; omega)]; exact h.block k hk hne⟩
theorem Else.ofC {g : Nat} {w w' w'' : World} (h : Else g w w') (hc : ElseC w'.heap.size g w' w'') : Else g w w'' :=
  h.trans ⟨hc.os, hc.tape, hc.output, hc.size, hc.block⟩
theorem OwnI.setG {B : Nat} {e : TypeId} {k : IntKind} {w : World} {v : Value} {l : List Int} {g o : Nat} {u : Value} (h : OwnI B e k w v l) (hg : g < B) : OwnI B e k (w.setCell ⟨g, o, none⟩ u) v l :=
  OwnC.block h fun q hq => Below.heap_setCell _ _ _ _ (by have := h.below hq; dsimp only; omega)
theorem cut_min (n : Nat) : cutI n = min (n : Int) 4611686018427387904 := by unfold cutI W62; omega
set_option maxRecDepth 100000 in
set_option maxHeartbeats 400000 in
theorem rd_text (g : Nat) (s : List UInt8) (hs : s.length ≤ 1000000000000000) (at' : Int) (wd : Bool) (ha : I64 at') (w : World) (h : RdAt w g s at' 0 wd) :
    Calls Try.prog 84 #[.pointer (some ⟨g, 0, none⟩)] w fun e w' => e = .returned (.string ⟨(gett s at' 4096).1.toArray⟩) ∧ RdAt w' g s (gett s at' 4096).2.1 (gett s at' 4096).2.2 wd ∧ Else g w w' := by
  have hc := wire_GetText ⟨s.toArray⟩ (by rw [ba_size]; exact hs) at' ha 4096 (i64_small (by omega))
  have hd : (⟨s.toArray⟩ : ByteArray).data.toList = s := rfl
  rw [hd] at hc
  clear hd
  generalize gett s at' 4096 = r at hc ⊢
  obtain ⟨r1, r2, r3⟩ := r
  dsimp only at hc ⊢
  have Hc := Lib.hid hc; clear hc
  have c2 := h.c2
  have q0 : ∀ nq : WB w, nq.1.cell? ⟨g, 0, none⟩ = some (.string ⟨s.toArray⟩) := fun nq => (h.keep nq.2).c0
  have q1 : ∀ nq : WB w, nq.1.cell? ⟨g, 1, none⟩ = some (.int .i64 at') := fun nq => (h.keep nq.2).c1
  have H := Lib.hid h; clear h
  go_enter Try.func84, Try.ntmps84
  repeat' (first | go_values | go_skip | go_guarded | go_step | go_upon)
  refine wp_region_wb (by kernel_rfl) (by kernel_rfl) w (Below.refl _ _) ?_
  repeat (go_big_quiet_step ((go_at_call 108; exact calls_wb_same (Hc.out _))))
  refine wpQuiet_nil ?_
  rintro _ ⟨nq, rfl⟩
  have hnq := nq.2
  clear q0 q1
  have Hn := Lib.hid (H.out.keep hnq)
  have n1 := Hn.out.c1
  have n2 := Hn.out.c2
  have f1 := Hn.out.free 1
  have f2 := Hn.out.free 2
  have He := Lib.hid (Else.of_below (g := g) hnq)
  clear hnq c2 H
  repeat' (first | go_values | go_skip | go_guarded | go_step | go_upon)
  go_ret
  exact ⟨rfl, (Hn.out.set1 _).set2 _, (He.out.setCell _ _).setCell _ _⟩
set_option maxRecDepth 100000 in
set_option maxHeartbeats 400000 in
theorem rd_number (g : Nat) (s : List UInt8) (hs : s.length ≤ 1000000000000000) (at' : Int) (wd : Bool) (ha : I64 at') (w : World) (h : RdAt w g s at' 0 wd) :
    Calls Try.prog 82 #[.pointer (some ⟨g, 0, none⟩)] w fun e w' => e = .returned (.int .i64 (cutI (vget s at').1)) ∧ RdAt w' g s (vget s at').2.1 (vget s at').2.2 (wd || decide (W62 < (vget s at').1)) ∧ Else g w w' := by
  have hc := wire_Get ⟨s.toArray⟩ (by rw [ba_size]; exact hs) at' ha
  have hd : (⟨s.toArray⟩ : ByteArray).data.toList = s := rfl
  rw [hd] at hc
  clear hd
  have hu := vgetI_u64 s at'
  generalize vget s at' = r at hc hu ⊢
  obtain ⟨r1, r2, r3⟩ := r
  dsimp only at hc hu ⊢
  have Hc := Lib.hid hc; clear hc
  have c2 := h.c2
  have q0 : ∀ nq : WB w, nq.1.cell? ⟨g, 0, none⟩ = some (.string ⟨s.toArray⟩) := fun nq => (h.keep nq.2).c0
  have q1 : ∀ nq : WB w, nq.1.cell? ⟨g, 1, none⟩ = some (.int .i64 at') := fun nq => (h.keep nq.2).c1
  have H := Lib.hid h; clear h
  obtain ⟨V, hV⟩ : ∃ V, V = cutI r1 := ⟨_, rfl⟩
  obtain ⟨D, hD⟩ : ∃ D, D = (wd || decide (W62 < r1)) := ⟨_, rfl⟩
  rw [← hV, ← hD]
  have HV : Hid (V = min (r1 : Int) 4611686018427387904) := Lib.hid (by rw [hV]; exact cut_min r1)
  have hcase : ((4611686018427387904 : Int) < r1 ∧ Hid (D = true)) ∨ (¬ (4611686018427387904 : Int) < r1 ∧ Hid (D = wd)) := by
    by_cases hbig : 4611686018427387904 < r1
    · exact .inl ⟨by omega, Lib.hid (by rw [hD]; unfold W62; simp [hbig])⟩
    · exact .inr ⟨by omega, Lib.hid (by rw [hD]; unfold W62; simp [hbig])⟩
  have Hu := Lib.hid hu
  clear hV hD hu
  rcases hcase with ⟨hb1, HD⟩ | ⟨hb1, HD⟩
  all_goals
    go_enter Try.func82, Try.ntmps82
    repeat' (first | go_values | go_skip | go_guarded | go_step | go_upon)
    refine wp_region_wb (by kernel_rfl) (by kernel_rfl) w (Below.refl _ _) ?_
    repeat (go_big_quiet_step ((go_at_call 107; exact calls_wb_same (Hc.out _))))
    refine wpQuiet_nil ?_
    rintro _ ⟨nq, rfl⟩
    have hnq := nq.2
    clear q0 q1
    have Hn := Lib.hid (H.out.keep hnq)
    have n1 := Hn.out.c1
    have n2 := Hn.out.c2
    have n3 := Hn.out.c3
    have f1 := Hn.out.free 1
    have f2 := Hn.out.free 2
    have f3 := Hn.out.free 3
    have He := Lib.hid (Else.of_below (g := g) hnq)
    clear hnq c2 H
    cases wd
    all_goals
      repeat' (first | go_values | go_skip | go_guarded | go_step | go_upon)
      go_ret
      exact ⟨ret_i HV.out.symm, by rw [HD.out]; exact ((Hn.out.set1 _).set2 _).set3 _, ((He.out.setCell _ _).setCell _ _).setCell _ _⟩
set_option maxRecDepth 100000 in
set_option maxHeartbeats 400000 in
theorem rd_count (g : Nat) (s : List UInt8) (hs : s.length ≤ 1000000000000000) (most : Nat) (hm : most ≤ 1000000) (w : World) (h : RdAt w g s 0 0 false) :
    Calls Try.prog 81 #[.pointer (some ⟨g, 0, none⟩), .int .i64 most] w fun e w' => e = .returned (.int .i64 ((rdC s most).1 : Nat)) ∧ RdAt w' g s (rdC s most).2.1 (rdC s most).2.2 false ∧ Else g w w' := by
  have hc := wire_Get ⟨s.toArray⟩ (by rw [ba_size]; exact hs) 0 (i64_small (by omega))
  have hd : (⟨s.toArray⟩ : ByteArray).data.toList = s := rfl
  rw [hd] at hc
  clear hd
  obtain ⟨R, hR⟩ : ∃ R, R = rdC s most := ⟨_, rfl⟩
  rw [← hR]
  unfold rdC at hR
  generalize vget s 0 = r at hc hR
  obtain ⟨r1, r2, r3⟩ := r
  dsimp only at hc hR
  have Hc := Lib.hid hc; clear hc
  have c2 := h.c2
  have q0 : ∀ nq : WB w, nq.1.cell? ⟨g, 0, none⟩ = some (.string ⟨s.toArray⟩) := fun nq => (h.keep nq.2).c0
  have q1 : ∀ nq : WB w, nq.1.cell? ⟨g, 1, none⟩ = some (.int .i64 0) := fun nq => (h.keep nq.2).c1
  have H := Lib.hid h; clear h
  have hcase : (r3 ≠ 0 ∧ Hid (R = (0, 0, r3))) ∨ (r3 = 0 ∧ most < r1 ∧ Hid (R = (0, 0, 2))) ∨ (r3 = 0 ∧ r1 ≤ most ∧ Hid (R = (r1, r2, 0))) := by
    by_cases h0 : r3 = 0
    · rw [if_neg (by simpa using h0)] at hR
      by_cases h1 : most < r1
      · rw [if_pos h1] at hR; exact .inr (.inl ⟨h0, h1, Lib.hid hR⟩)
      · rw [if_neg h1, h0] at hR; exact .inr (.inr ⟨h0, by omega, Lib.hid hR⟩)
    · rw [if_pos h0] at hR; exact .inl ⟨h0, Lib.hid hR⟩
  have hw : IntKind.u64.wrap (most : Int) = most := wu64 (by omega) (u64_small (by omega))
  clear hR
  rcases hcase with ⟨h0, HR⟩ | ⟨rfl, h1, HR⟩ | ⟨rfl, h1, HR⟩
  · have e1 : (r3 == 0) = false := beq_false_of_ne h0
    have e2 : (r3 != 0) = true := by rw [bne_iff_ne]; exact h0
    clear h0
    go_enter Try.func81, Try.ntmps81
    repeat' (first | go_values | go_skip | go_guarded | go_step | go_upon)
    refine wp_region_wb (by kernel_rfl) (by kernel_rfl) w (Below.refl _ _) ?_
    repeat (go_big_quiet_step ((go_at_call 107; exact calls_wb_same (Hc.out _))))
    refine wpQuiet_nil ?_
    rintro _ ⟨nq, rfl⟩
    have hnq := nq.2
    clear q0 q1
    have Hn := Lib.hid (H.out.keep hnq)
    have n1 := Hn.out.c1
    have n2 := Hn.out.c2
    have f1 := Hn.out.free 1
    have f2 := Hn.out.free 2
    have He := Lib.hid (Else.of_below (g := g) hnq)
    clear hnq c2 H
    repeat' (first | go_values | go_skip | go_guarded | go_step | go_upon)
    go_ret
    exact ⟨ret_i (by rw [HR.out]; rfl), by rw [HR.out]; exact Hn.out.set2 _, He.out.setCell _ _⟩
  · have h2 : (most : Int) < r1 := by omega
    clear h1
    go_enter Try.func81, Try.ntmps81
    repeat' (first | go_values | go_skip | go_guarded | go_step | go_upon)
    refine wp_region_wb (by kernel_rfl) (by kernel_rfl) w (Below.refl _ _) ?_
    repeat (go_big_quiet_step ((go_at_call 107; exact calls_wb_same (Hc.out _))))
    refine wpQuiet_nil ?_
    rintro _ ⟨nq, rfl⟩
    have hnq := nq.2
    clear q0 q1
    have Hn := Lib.hid (H.out.keep hnq)
    have n1 := Hn.out.c1
    have n2 := Hn.out.c2
    have f1 := Hn.out.free 1
    have f2 := Hn.out.free 2
    have He := Lib.hid (Else.of_below (g := g) hnq)
    clear hnq c2 H
    repeat' (first | go_values | go_skip | go_guarded | go_step | go_upon)
    go_ret
    exact ⟨ret_i (by rw [HR.out]; rfl), by rw [HR.out]; exact Hn.out.set2 _, He.out.setCell _ _⟩
  · have h2 : ¬ (most : Int) < r1 := by omega
    have h3 : r1 ≤ 1000000 := by omega
    clear h1
    go_enter Try.func81, Try.ntmps81
    repeat' (first | go_values | go_skip | go_guarded | go_step | go_upon)
    refine wp_region_wb (by kernel_rfl) (by kernel_rfl) w (Below.refl _ _) ?_
    repeat (go_big_quiet_step ((go_at_call 107; exact calls_wb_same (Hc.out _))))
    refine wpQuiet_nil ?_
    rintro _ ⟨nq, rfl⟩
    have hnq := nq.2
    clear q0 q1
    have Hn := Lib.hid (H.out.keep hnq)
    have n1 := Hn.out.c1
    have n2 := Hn.out.c2
    have f1 := Hn.out.free 1
    have f2 := Hn.out.free 2
    have He := Lib.hid (Else.of_below (g := g) hnq)
    clear hnq c2 H
    repeat' (first | go_values | go_skip | go_guarded | go_step | go_upon)
    go_ret
    exact ⟨ret_i (by rw [HR.out]), by rw [HR.out]; exact (Hn.out.set2 _).set1 _, (He.out.setCell _ _).setCell _ _⟩
set_option maxRecDepth 100000 in
set_option maxHeartbeats 400000 in
theorem rd_list (g : Nat) (s : List UInt8) (hs : s.length ≤ 1000000000000000) (at' bad : Int) (wd : Bool) (ha : I64 at') (most : Nat) (hm : most ≤ 1000000) (w : World) (h : RdAt w g s at' bad wd) :
    Calls Try.prog 86 #[.pointer (some ⟨g, 0, none⟩), .int .i64 most] w fun e w' => ∃ v, e = .returned v ∧ OwnI w.heap.size 66 .u64 w' v (nats (rdL s at' bad most).1) ∧ RdAt w' g s (rdL s at' bad most).2.1 (rdL s at' bad most).2.2 wd ∧ Else g w w' := by
  unfold rdL
  by_cases h0 : bad = 0
  · subst h0
    rw [if_neg (by simp)]
    have hc := wire_GetAll ⟨s.toArray⟩ (by rw [ba_size]; exact hs) at' ha most (i64_small (by omega)) (.inr (by omega)) w.drew
    have hd : (⟨s.toArray⟩ : ByteArray).data.toList = s := rfl
    rw [hd] at hc
    clear hd
    generalize geta s at' most = r at hc ⊢
    obtain ⟨r1, r2, r3⟩ := r
    dsimp only at hc ⊢
    have Hc := Lib.hid hc; clear hc
    have c2 := h.c2
    have q0 : ∀ nq : WB w, nq.1.cell? ⟨g, 0, none⟩ = some (.string ⟨s.toArray⟩) := fun nq => (h.keep nq.2).c0
    have q1 : ∀ nq : WB w, nq.1.cell? ⟨g, 1, none⟩ = some (.int .i64 at') := fun nq => (h.keep nq.2).c1
    have H := Lib.hid h; clear h
    go_enter Try.func86, Try.ntmps86
    repeat' (go_not_at_region 3; first | go_values | go_skip | go_guarded | go_step | go_upon)
    refine wp_region_anyC (by kernel_rfl) w ?_
    refine tkC 0 rfl ?_
    refine tkC 1 rfl ?_
    refine tkC 2 rfl ?_
    refine tkC 3 rfl ?_
    refine tkC 4 rfl ?_
    refine tkC 5 rfl ?_
    refine tkC 6 rfl ?_
    refine tkC 7 rfl ?_
    refine tkC 8 rfl ?_
    clear q0 q1
    refine wpAnyC_ready (CW.of ((Below.refl _ _).drew)) (rs := [9]) (by kernel_rfl) (by simp) ?_
    refine (AllReadyC.cons rfl (fun K hK => ?_) AllReadyC.nil)
    go_simp
    refine Calls.mono (Hc.out) ?_
    rintro _ W1 ⟨v, rfl, ho, hb⟩
    dsimp only
    refine hK _ _ ?_
    clear hK K
    have Hb : Hid (Below w.heap.size w W1) := Lib.hid (((Below.refl _ _).drew).trans hb)
    have Ho : Hid (OwnI w.heap.size 66 .u64 W1 v (nats r1)) := Lib.hid ho
    clear hb ho Hc c2
    refine tkC 10 rfl ?_
    refine tkC 11 rfl ?_
    refine tkC 12 rfl ?_
    refine tkC 13 rfl ?_
    refine tkC 14 rfl ?_
    refine tkC 15 rfl ?_
    refine tkC 16 rfl ?_
    refine wpAnyC_done (by kernel_rfl) (CW.of (Hb.out)) (by go_simp <;> with_reducible rfl) ?_
    have Hn := Lib.hid (H.out.keep Hb.out)
    have n1 := Hn.out.c1
    have n2 := Hn.out.c2
    have f1 := Hn.out.free 1
    have f2 := Hn.out.free 2
    have He := Lib.hid (Else.of_below (g := g) Hb.out)
    have hg := H.out.lt
    repeat' (first | go_values | go_skip | go_guarded | go_step | go_upon)
    go_ret
    exact ⟨_, rfl, (Ho.out.setG hg).setG hg, (Hn.out.set1 _).set2 _, (He.out.setCell _ _).setCell _ _⟩
  · rw [if_pos h0]
    have c2 := h.c2
    have h0' : (bad == 0) = false := by simpa using h0
    have h0'' : (bad != 0) = true := by simpa using h0
    have H := Lib.hid h; clear h
    go_enter Try.func86, Try.ntmps86
    repeat' (first | go_values | go_skip | go_guarded | go_step | go_upon)
    go_ret
    exact ⟨_, rfl, OwnI.nil _ _ _ _, H.out, Else.refl _ _⟩
end Go.Proofs.Ytbomloodllddaaa
/- Walk: the reader of a section: ints. Conditions: the text is of at most 10^15 bytes; the place is an int. -/
namespace Go.Proofs.Ytbomloodllddaaa
open Go.RowKit
theorem ElseC.cell {C g : Nat} {w w' : World} (h : ElseC C g w w') {b o : Nat} (hb : b < C) (hne : b ≠ g) : w'.cell? ⟨b, o, none⟩ = w.cell? ⟨b, o, none⟩ := by
  unfold World.cell?
  rw [show (⟨b, o, none⟩ : Addr).block = b from rfl, h.block b hb hne]
theorem info_i64R : (Try.prog.info? 3).map (fun i => (i.zero, i.size, i.bytes)) = some (some (.int .i64 0), 1, 8) := by kernel_rfl
theorem cutL_take (l : List Nat) (k : Nat) (x : Nat) (h : l[k]? = some x) : cutL (l.take (k + 1)) = cutL (l.take k) ++ [cutI x] := by
  have hk := (List.getElem?_eq_some_iff.1 h)
  unfold cutL
  rw [List.take_succ_eq_append_getElem hk.1, List.map_append, hk.2]; rfl
theorem wideL_take (l : List Nat) (k : Nat) (x : Nat) (h : l[k]? = some x) : wideL (l.take (k + 1)) = (wideL (l.take k) || decide (W62 < x)) := by
  have hk := (List.getElem?_eq_some_iff.1 h)
  unfold wideL
  rw [List.take_succ_eq_append_getElem hk.1, List.any_append, hk.2]; simp
theorem getn_len (s : List UInt8) : ∀ (n : Nat) (a : Int), (getn s n a).1.length ≤ n
  | 0, a => Nat.zero_le _
  | n + 1, a => by
    rw [getn]
    split
    · exact Nat.zero_le _
    · split
      · exact Nat.zero_le _
      · have := getn_len s n (vget s a).2.1
        dsimp only
        rw [List.length_cons]; omega
theorem geta_len (s : List UInt8) (a : Int) (most : Nat) : (geta s a most).1.length ≤ most := by
  unfold geta
  split
  · exact Nat.zero_le _
  · split
    · exact Nat.zero_le _
    · rename_i h
      have := getn_len s (vget s a).1 (vget s a).2.1
      omega
theorem rdL_len (s : List UInt8) (a bad : Int) (most : Nat) : (rdL s a bad most).1.length ≤ most := by
  unfold rdL
  split
  · exact Nat.zero_le _
  · exact geta_len s a most
set_option maxRecDepth 100000 in
set_option maxHeartbeats 1000000 in
theorem rd_ints (g : Nat) (s : List UInt8) (hs : s.length ≤ 1000000000000000) (at' bad : Int) (wd : Bool) (ha : I64 at') (most : Nat) (hm : most ≤ 1000000) (w : World) (h : RdAt w g s at' bad wd) :
    Calls Try.prog 77 #[.pointer (some ⟨g, 0, none⟩), .int .i64 most] w fun e w' => ∃ v, e = .returned v ∧ OwnI w.heap.size 3 .i64 w' v (cutL (rdL s at' bad most).1) ∧ RdAt w' g s (rdL s at' bad most).2.1 (rdL s at' bad most).2.2 (wd || wideL (rdL s at' bad most).1) ∧ Else g w w' := by
  have Hc := Lib.hid (rd_list g s hs at' bad wd ha most hm w h)
  have hl := rdL_len s at' bad most
  have hg := h.lt
  generalize rdL s at' bad most = r at Hc hl ⊢
  obtain ⟨l, r2, r3⟩ := r
  dsimp only at Hc hl ⊢
  clear h
  obtain ⟨n, hn⟩ : ∃ n, n = l.length := ⟨_, rfl⟩
  have hnm : n ≤ 1000000 := by omega
  go_enter Try.func77, Try.ntmps77
  repeat' (first | go_values | go_skip | go_guarded | go_step | go_upon)
  refine Calls.mono (Hc.out) ?_
  rintro _ w1 ⟨vl, rfl, ho1, hr1, he1⟩
  dsimp only
  obtain ⟨al, cl, rfl, hcap, hcell⟩ := ho1.rd
  rw [nats_len] at hcap hcell
  rw [nats_len]
  have hbl : ∀ b off, al = some ⟨b, off, none⟩ → w.heap.size ≤ b := fun b off e => ho1.below (by rw [e]; rfl)
  rw [← hn] at hcap hcell ⊢
  have hw1 : w.heap.size ≤ w1.heap.size := he1.size
  have Hcell : Hid (∀ k x, k < n → l[k]? = some x → ∃ b off, al = some ⟨b, off, none⟩ ∧ b < w1.heap.size ∧ w.heap.size ≤ b ∧ w1.cell? ⟨b, off + k, none⟩ = some (.int .u64 (x : Nat))) := Lib.hid fun k x hk hx => by
    rcases hcell with h0 | ⟨b, off, e, hb, hc⟩
    · have := congrArg List.length h0; rw [nats_len, ← hn] at this; simp at this; omega
    · refine ⟨b, off, e, hb, hbl b off e, ?_⟩
      rw [hc k hk, nats_getD l k (by omega)]
      rw [List.getElem?_eq_getElem (by omega)] at hx
      injection hx with hx
      rw [hx]
  have HT : Hid (∀ k x, l[k]? = some x → cutL (l.take (k + 1)) = cutL (l.take k) ++ [cutI x] ∧ wideL (l.take (k + 1)) = (wideL (l.take k) || decide (W62 < x))) := Lib.hid fun k x h => ⟨cutL_take l k x h, wideL_take l k x h⟩
  have HL : Hid (∀ k, k ≤ n → (cutL (l.take k)).length = k) := Lib.hid fun k hk => by rw [cutL_len, List.length_take]; omega
  have HA : Hid (l.take n = l) := Lib.hid (by rw [hn]; exact List.take_length)
  have HX : Hid (∀ k, k < n → ∃ x, l[k]? = some x) := Lib.hid fun k hk => ⟨_, List.getElem?_eq_getElem (by omega)⟩
  have He1 := Lib.hid he1
  have HR1 : Hid (RdAt w1 g s r2 r3 (wd || wideL (l.take 0))) := Lib.hid (by simpa [wideL] using hr1)
  clear hcell hbl ho1 hl hn he1 hr1 Hc
  repeat' (first | go_values | go_skip | go_guarded | go_step | go_upon)
  go_loopw [5, 12] (fun s5 s12 wr => ∃ k : Nat, s12 = .int .i64 k ∧ k ≤ n ∧ Hid (OwnI w1.heap.size 3 .i64 wr s5 (cutL (l.take k))) ∧ Hid (RdAt wr g s r2 r3 (wd || wideL (l.take k))) ∧ Hid (ElseC w1.heap.size g w1 wr)) (fun _ s12 _ => n - (intOf s12).toNat)
  case atStart => exact ⟨0, rfl, Nat.zero_le _, Lib.hid (OwnI.nil _ _ _ _), HR1, Lib.hid (ElseC.refl _ _ _)⟩
  case round =>
    clear HR1
    obtain ⟨k, rfl, hk, Ho, HR, He⟩ := hrel
    have hsz := He.out.size
    by_cases hlt : k < n
    · obtain ⟨x, hx⟩ := HX.out k hlt
      obtain ⟨b, off, rfl, hb, hbw, hc⟩ := Hcell.out k x hlt hx
      obtain ⟨hT1, hT2⟩ := HT.out k x hx
      have hc' : wr.cell? ⟨b, off + k, none⟩ = some (.int .u64 (x : Nat)) := by rw [He.out.cell hb (by omega)]; exact hc
      have c3 := HR.out.c3
      have f3 := HR.out.free 3
      have hLen := HL.out k hk
      obtain ⟨L, hL⟩ : ∃ L, L = cutL (l.take k) := ⟨_, rfl⟩
      rw [← hL] at Ho hLen hT1
      obtain ⟨D, hD⟩ : ∃ D, D = (wd || wideL (l.take k)) := ⟨_, rfl⟩
      rw [← hD] at HR c3
      have HL1 : Hid (cutL (l.take (k + 1)) = L ++ [min (x : Int) 4611686018427387904]) := Lib.hid (by rw [hT1, cut_min])
      obtain ⟨E, hE⟩ : ∃ E, E = (D || decide (W62 < x)) := ⟨_, rfl⟩
      have HD1 : Hid ((wd || wideL (l.take (k + 1))) = E) := Lib.hid (by rw [hT2, ← Bool.or_assoc, ← hD, hE])
      have hgw : g < w1.heap.size := by omega
      have hcase : ((4611686018427387904 : Int) < x ∧ Hid (E = true)) ∨ (¬ (4611686018427387904 : Int) < x ∧ Hid (E = D)) := by
        by_cases hbig : 4611686018427387904 < x
        · exact .inl ⟨by omega, Lib.hid (by rw [hE]; unfold W62; simp [hbig])⟩
        · exact .inr ⟨by omega, Lib.hid (by rw [hE]; unfold W62; simp [hbig])⟩
      clear hL hD hE hT1 hT2 hc hx
      rcases hcase with ⟨hb1, HE⟩ | ⟨hb1, HE⟩
      all_goals cases D
      all_goals
        have HRs := Lib.hid (HR.out.set3 E)
        have HOs := Lib.hid (Ho.out.setG (g := g) (o := 3) (u := .bool E) hgw)
        have HEs := Lib.hid (He.out.setCell 3 (.bool E))
        rw [HE.out] at HRs HOs HEs HD1
        repeat' (go_not_at_region 6; first | go_values | go_skip | go_guarded | go_step | go_upon)
        refine gen_wd (fun w' => OwnI w1.heap.size 3 .i64 w' u5 L ∧ RdAt w' g s r2 r3 (wd || wideL (l.take (k + 1))) ∧ ElseC w1.heap.size g w1 w') ⟨HOs.out, by rw [HD1.out]; exact HRs.out, HEs.out⟩ ?_
        clear HRs HOs HEs HR Ho He c3 f3 hsz hc'
        rintro wx ⟨ho2, hr2, he2⟩
        have HO2 := Lib.hid ho2
        have HR2 := Lib.hid hr2
        have HE2 := Lib.hid he2
        have hsz2 := he2.size
        clear ho2 hr2 he2
        repeat' (first | (at_builtin; refine app_ints w1.heap.size 8 [_] Try.underlying49 info_i64R (by decide) rfl _ _ rfl rfl rfl rfl rfl HO2.out hsz2 (by omega) ?_; intro v1 w2 hown1 hb2 _) | go_values | go_skip | go_guarded | go_step | go_upon)
        go_roundw
        case rel => exact ⟨k + 1, by go_num, by omega, Lib.hid (by rw [HL1.out]; exact hown1), Lib.hid (HR2.out.keepB hb2 hgw), Lib.hid (HE2.out.trans (ElseC.of_below hb2))⟩
        case measure => simp [intOf]; omega
    · obtain rfl : k = n := by omega
      rw [HA.out] at Ho HR
      repeat' (first | go_values | go_skip | go_guarded | go_step | go_upon)
      go_ret
      exact ⟨_, rfl, Ho.out.base hw1, HR.out, He1.out.ofC He.out⟩
end Go.Proofs.Ytbomloodllddaaa
