/- Walks: the parser's bytes (hex, escape, point) and numbers (digit, num). Conditions: a text of at most 512 bytes; a place within it. -/
import Derived.Test.YtonkenlkigfeoaaDoorPk09
import Derived.Test.YtonkenlkigfeoaaDoorPk18
import Derived.Deep.LoopGhost
import Derived.Test.YtonkenlkigfeoaaDoorPk03
namespace Go.Proofs.YtonkenlkigfeoaaDoor
open Go.RowKit Go.Lib
/-- what a step that reads tells: its byte, or why it can't go on -/
def BPost (g : Nat) (S : ByteArray) (d : Nat) (w : World) (x : PR Nat) (e : Ending) (w' : World) : Prop :=
 match x with
 | .ok a j => e = .returned (.int .u8 (a : Int)) ∧ PsAt w' g S j d ∧ Else g w w'
 | .bad e0 j => e = stopE e0 j ∧ Else g w w'
 | .out => False
theorem BPost.okI {g : Nat} {S : ByteArray} {d : Nat} {w : World} {x : PR Nat} {e : Ending} {w' : World} {a j : Nat} (hx : x = .ok a j) (h : e = .returned (.int .u8 (a : Int)) ∧ PsAt w' g S j d ∧ Else g w w') : BPost g S d w x e w' := by subst hx; exact h
theorem BPost.badI {g : Nat} {S : ByteArray} {d : Nat} {w : World} {x : PR Nat} {e : Ending} {w' : World} {a j : Nat} (hx : x = .bad a j) (h : e = stopE a j ∧ Else g w w') : BPost g S d w x e w' := by subst hx; exact h
set_option maxRecDepth 100000 in
theorem ix_hex : ∀ c : Fin 256, Lib.indexByte [48, 49, 50, 51, 52, 53, 54, 55, 56, 57, 97, 98, 99, 100, 101, 102] (((c.val : Nat) : Int)).toNat.toUInt8 = if 48 ≤ c.val ∧ c.val ≤ 57 then ((c.val - 48 : Nat) : Int) else if 97 ≤ c.val ∧ c.val ≤ 102 then ((c.val - 87 : Nat) : Int) else -1 := by decide
set_option maxRecDepth 100000 in
theorem ix_HEX : ∀ c : Fin 256, Lib.indexByte [65, 66, 67, 68, 69, 70] (((c.val : Nat) : Int)).toNat.toUInt8 = if 65 ≤ c.val ∧ c.val ≤ 70 then ((c.val - 65 : Nat) : Int) else -1 := by decide
set_option maxRecDepth 100000 in
theorem ix_sgn : ∀ c : Fin 256, decide (0 ≤ Lib.indexByte [92, 40, 41, 91, 93, 123, 125, 46, 42, 43, 63, 124, 94, 36] (((c.val : Nat) : Int)).toNat.toUInt8) = decide (c.val ∈ sgP) := by decide
set_option maxRecDepth 100000 in
theorem ix_esc : ∀ c : Fin 256, decide (0 ≤ Lib.indexByte [92, 40, 41, 91, 93, 123, 125, 46, 42, 43, 63, 124, 94, 36, 45, 47] (((c.val : Nat) : Int)).toNat.toUInt8) = decide (c.val ∈ sgP ∨ c.val = 45 ∨ c.val = 47) := by decide
set_option maxRecDepth 100000 in
theorem ps_hex (g : Nat) (S : ByteArray) (i d : Nat) (hi : i ≤ 512) (w : World) (h : PsAt w g S i d) :
   Calls Tryd.prog 89 #[.pointer (some ⟨g, 0, none⟩)] w (BPost g S d w (hexR S.data.toList i)) := by
 obtain ⟨X, hX⟩ : ∃ X, hexR S.data.toList i = X := ⟨_, rfl⟩; rw [hX]; unfold hexR at hX; rw [ba_len] at hX; have q0 : ∀ nq : WB w, nq.1.cell? ⟨g, 0, none⟩ = some (.string S) := fun nq => (h.keep nq.2).c0
 have q1 : ∀ nq : WB w, nq.1.cell? ⟨g, 1, none⟩ = some (.int .i64 (i : Int)) := fun nq => (h.keep nq.2).c1
 have H := Lib.hid h; clear h
 by_cases hlt : i < S.size
 · have hlt' : ¬ (i : Int) ≥ S.size := by omega
   rw [if_pos hlt] at hX; have hx := byte_is S i hlt; have hb := bt_lt S.data.toList i; generalize bt S.data.toList i = x at hx hX hb; clear hlt; have h1 : ∀ W, Calls Tryd.prog 12 #[.string ⟨#[48, 49, 50, 51, 52, 53, 54, 55, 56, 57, 97, 98, 99, 100, 101, 102]⟩, .int .u8 (x : Nat)] W fun e w' => e = .returned (.int .i64 (Lib.indexByte [48, 49, 50, 51, 52, 53, 54, 55, 56, 57, 97, 98, 99, 100, 101, 102] ((x : Nat) : Int).toNat.toUInt8)) ∧ w' = W := fun W => Tryd.strings_IndexByte ⟨#[48, 49, 50, 51, 52, 53, 54, 55, 56, 57, 97, 98, 99, 100, 101, 102]⟩ (x : Nat) W
   have h2 : ∀ W, Calls Tryd.prog 12 #[.string ⟨#[65, 66, 67, 68, 69, 70]⟩, .int .u8 (x : Nat)] W fun e w' => e = .returned (.int .i64 (Lib.indexByte [65, 66, 67, 68, 69, 70] ((x : Nat) : Int).toNat.toUInt8)) ∧ w' = W := fun W => Tryd.strings_IndexByte ⟨#[65, 66, 67, 68, 69, 70]⟩ (x : Nat) W
   have e1 := ix_hex ⟨x, hb⟩; have e2 := ix_HEX ⟨x, hb⟩; dsimp only at e1 e2; generalize Lib.indexByte [48, 49, 50, 51, 52, 53, 54, 55, 56, 57, 97, 98, 99, 100, 101, 102] ((x : Nat) : Int).toNat.toUInt8 = v1 at h1 e1; generalize Lib.indexByte [65, 66, 67, 68, 69, 70] ((x : Nat) : Int).toNat.toUInt8 = v2 at h2 e2; have hw : IntKind.i64.wrap ((i : Int) + 1) = ((i + 1 : Nat) : Int) := by rw [wi64 (by unfold I64; omega)]; omega
   obtain ⟨j, hj⟩ : ∃ j, i + 1 = j := ⟨_, rfl⟩; rw [hj] at hw hX; clear hj hi; have hcase : (∃ v : Nat, v < 16 ∧ v1 = (v : Int) ∧ Hid (X = .ok v j)) ∨ (v1 = -1 ∧ ((∃ v : Nat, v < 6 ∧ v2 = (v : Int) ∧ Hid (X = .ok (v + 10) j)) ∨ (v2 = -1 ∧ Hid (X = .bad 60 i)))) := by
     unfold hexV at hX
     by_cases a1 : 48 ≤ x ∧ x ≤ 57
     · rw [if_pos a1] at hX e1; exact .inl ⟨x - 48, by omega, e1, Lib.hid hX.symm⟩
     · rw [if_neg a1] at hX e1
       by_cases a2 : 97 ≤ x ∧ x ≤ 102
       · rw [if_pos a2] at hX e1; exact .inl ⟨x - 87, by omega, e1, Lib.hid hX.symm⟩
       · rw [if_neg a2] at hX e1; refine .inr ⟨e1, ?_⟩
         by_cases a3 : 65 ≤ x ∧ x ≤ 70
         · rw [if_pos a3] at hX e2; exact .inl ⟨x - 65, by omega, e2, Lib.hid (by rw [show x - 65 + 10 = x - 55 by omega]; exact hX.symm)⟩
         · rw [if_neg a3] at hX e2; exact .inr ⟨e2, Lib.hid hX.symm⟩
   clear hX hb e1 e2
   rcases hcase with ⟨v, hv, rfl, HX⟩ | ⟨rfl, ⟨v, hv, rfl, HX⟩ | ⟨rfl, HX⟩⟩
   · have hv0 : ¬ (v : Int) < 0 := by omega
     have hv8 : IntKind.u8.wrap (v : Int) = v := by rw [IntKind.wrap_u8]; omega
     clear h2; go_enter Tryd.func89, Tryd.ntmps89; wkk; refine wp_region_wb (by kernel_rfl) (by kernel_rfl) w (Below.refl _ _) ?_
     repeat (go_big_quiet_step ((fail)))
     refine wpQuiet_nil ?_; rintro _ ⟨nq, rfl⟩; have hnq := nq.2; have r0 : ∀ nr : WB nq.1, nr.1.cell? ⟨g, 0, none⟩ = some (.string S) := fun nr => (H.out.keep (hnq.trans (nr.2.mono hnq.size))).c0
     have r1 : ∀ nr : WB nq.1, nr.1.cell? ⟨g, 1, none⟩ = some (.int .i64 (i : Int)) := fun nr => (H.out.keep (hnq.trans (nr.2.mono hnq.size))).c1
     have Hq := Lib.hid hnq; clear q0 q1 hnq; wkk; refine wp_region_wb (by kernel_rfl) (by kernel_rfl) nq.1 (Below.refl _ _) ?_
     repeat (go_big_quiet_step ((go_at_call 12; exact calls_wb_same ((h1 _).mono fun _ _ ⟨he, hw⟩ => ⟨he, hw.symm⟩))))
     refine wpQuiet_nil ?_; rintro _ ⟨nr, rfl⟩; have Hr := Lib.hid (Hq.out.trans (nr.2.mono Hq.out.size)); clear r0 r1 h1 Hq; have Hb := Lib.hid Hr.out; have H1 := Lib.hid (H.out.keep Hb.out); have He := Lib.hid (Else.of_below (g := g) Hb.out); have c1 := H1.out.c1; have f1 := H1.out.free 1; wkk; go_ret; exact BPost.okI HX.out ⟨rfl, H1.out.set1 _, He.out.setCell _ _⟩
   · have hv0 : ¬ (v : Int) < 0 := by omega
     have hw10 : IntKind.i64.wrap ((v : Int) + 10) = ((v + 10 : Nat) : Int) := by rw [wi64 (by unfold I64; omega)]; omega
     have hv8 : IntKind.u8.wrap ((v + 10 : Nat) : Int) = ((v + 10 : Nat) : Int) := by rw [IntKind.wrap_u8]; omega
     generalize v + 10 = v10 at hw10 hv8 HX; go_enter Tryd.func89, Tryd.ntmps89; wkk; refine wp_region_wb (by kernel_rfl) (by kernel_rfl) w (Below.refl _ _) ?_
     repeat (go_big_quiet_step ((fail)))
     refine wpQuiet_nil ?_; rintro _ ⟨nq, rfl⟩; have hnq := nq.2; have r0 : ∀ nr : WB nq.1, nr.1.cell? ⟨g, 0, none⟩ = some (.string S) := fun nr => (H.out.keep (hnq.trans (nr.2.mono hnq.size))).c0
     have r1 : ∀ nr : WB nq.1, nr.1.cell? ⟨g, 1, none⟩ = some (.int .i64 (i : Int)) := fun nr => (H.out.keep (hnq.trans (nr.2.mono hnq.size))).c1
     have Hq := Lib.hid hnq; clear q0 q1 hnq; wkk; refine wp_region_wb (by kernel_rfl) (by kernel_rfl) nq.1 (Below.refl _ _) ?_
     repeat (go_big_quiet_step ((go_at_call 12; exact calls_wb_same ((h1 _).mono fun _ _ ⟨he, hw⟩ => ⟨he, hw.symm⟩))))
     refine wpQuiet_nil ?_; rintro _ ⟨nr, rfl⟩; have Hr := Lib.hid (Hq.out.trans (nr.2.mono Hq.out.size)); clear r0 r1 h1 Hq; have r0 : ∀ nt : WB nr.1, nt.1.cell? ⟨g, 0, none⟩ = some (.string S) := fun nt => (H.out.keep (Hr.out.trans (nt.2.mono Hr.out.size))).c0
     have r1 : ∀ nt : WB nr.1, nt.1.cell? ⟨g, 1, none⟩ = some (.int .i64 (i : Int)) := fun nt => (H.out.keep (Hr.out.trans (nt.2.mono Hr.out.size))).c1
     wkk; refine wp_region_wb (by kernel_rfl) (by kernel_rfl) nr.1 (Below.refl _ _) ?_
     repeat (go_big_quiet_step ((go_at_call 12; exact calls_wb_same ((h2 _).mono fun _ _ ⟨he, hw⟩ => ⟨he, hw.symm⟩))))
     refine wpQuiet_nil ?_; rintro _ ⟨nt, rfl⟩; have Hb := Lib.hid (Hr.out.trans (nt.2.mono Hr.out.size)); have H1 := Lib.hid (H.out.keep Hb.out); have He := Lib.hid (Else.of_below (g := g) Hb.out); have c1 := H1.out.c1; have f1 := H1.out.free 1; clear r0 r1 h2; wkk; go_ret; exact BPost.okI HX.out ⟨rfl, H1.out.set1 _, He.out.setCell _ _⟩
   · go_enter Tryd.func89, Tryd.ntmps89; wkk; refine wp_region_wb (by kernel_rfl) (by kernel_rfl) w (Below.refl _ _) ?_
     repeat (go_big_quiet_step ((fail)))
     refine wpQuiet_nil ?_; rintro _ ⟨nq, rfl⟩; have hnq := nq.2; have r0 : ∀ nr : WB nq.1, nr.1.cell? ⟨g, 0, none⟩ = some (.string S) := fun nr => (H.out.keep (hnq.trans (nr.2.mono hnq.size))).c0
     have r1 : ∀ nr : WB nq.1, nr.1.cell? ⟨g, 1, none⟩ = some (.int .i64 (i : Int)) := fun nr => (H.out.keep (hnq.trans (nr.2.mono hnq.size))).c1
     have Hq := Lib.hid hnq; clear q0 q1 hnq; wkk; refine wp_region_wb (by kernel_rfl) (by kernel_rfl) nq.1 (Below.refl _ _) ?_
     repeat (go_big_quiet_step ((go_at_call 12; exact calls_wb_same ((h1 _).mono fun _ _ ⟨he, hw⟩ => ⟨he, hw.symm⟩))))
     refine wpQuiet_nil ?_; rintro _ ⟨nr, rfl⟩; have Hr := Lib.hid (Hq.out.trans (nr.2.mono Hq.out.size)); clear r0 r1 h1 Hq; have r0 : ∀ nt : WB nr.1, nt.1.cell? ⟨g, 0, none⟩ = some (.string S) := fun nt => (H.out.keep (Hr.out.trans (nt.2.mono Hr.out.size))).c0
     have r1 : ∀ nt : WB nr.1, nt.1.cell? ⟨g, 1, none⟩ = some (.int .i64 (i : Int)) := fun nt => (H.out.keep (Hr.out.trans (nt.2.mono Hr.out.size))).c1
     wkk; refine wp_region_wb (by kernel_rfl) (by kernel_rfl) nr.1 (Below.refl _ _) ?_
     repeat (go_big_quiet_step ((go_at_call 12; exact calls_wb_same ((h2 _).mono fun _ _ ⟨he, hw⟩ => ⟨he, hw.symm⟩))))
     refine wpQuiet_nil ?_; rintro _ ⟨nt, rfl⟩; have Hb := Lib.hid (Hr.out.trans (nt.2.mono Hr.out.size)); have H1 := Lib.hid (H.out.keep Hb.out); have He := Lib.hid (Else.of_below (g := g) Hb.out); have c1 := H1.out.c1; have f1 := H1.out.free 1; clear r0 r1 h2; have hf := ps_fail g S i d nt.1 H1.out; wkk; refine Calls.mono hf ?_; rintro _ w2 ⟨rfl, rfl⟩; exact ⟨rfl, BPost.badI HX.out ⟨rfl, He.out⟩⟩
 · have hlt' : (i : Int) ≥ S.size := by omega
   rw [if_neg hlt] at hX; have HX := Lib.hid hX; clear hX; go_enter Tryd.func89, Tryd.ntmps89; wkk; refine wp_region_wb (by kernel_rfl) (by kernel_rfl) w (Below.refl _ _) ?_
   repeat (go_big_quiet_step ((fail)))
   refine wpQuiet_nil ?_; rintro _ ⟨nq, rfl⟩; have hnq := nq.2; have hf := ps_fail g S i d nq.1 (H.out.keep hnq); have HB := Lib.hid (Else.of_below (g := g) hnq); clear q0 q1 hnq H; wkk; refine Calls.mono hf ?_; rintro _ w2 ⟨rfl, rfl⟩; exact ⟨rfl, BPost.badI HX.out.symm ⟨rfl, HB.out⟩⟩
open Go.RowKit Go.Lib
theorem shl4 : ∀ a : Fin 16, ∀ b : Fin 16, bits .or .u8 ((a.val : Int) * 16) (b.val : Int) = ((16 * a.val + b.val : Nat) : Int) := by decide
theorem hexV_lt {c a : Nat} (h : hexV c = some a) : a < 16 := by
 unfold hexV at h
 split at h
 · simp only [Option.some.injEq] at h; omega
 split at h
 · simp only [Option.some.injEq] at h; omega
 split at h
 · simp only [Option.some.injEq] at h; omega
 · cases h
theorem hexR_lt {s : List UInt8} {i a j : Nat} (h : hexR s i = .ok a j) : a < 16 := by
 unfold hexR at h
 split at h
 · split at h
   · rename_i n hh; simp only [PR.ok.injEq] at h; obtain ⟨rfl, _⟩ := h; exact hexV_lt hh
   · cases h
 · cases h
set_option maxRecDepth 100000 in
theorem ps_escape (g : Nat) (S : ByteArray) (i d : Nat) (hS : S.size ≤ 512) (hi : i ≤ S.size) (w : World) (h : PsAt w g S i d) :
   Calls Tryd.prog 84 #[.pointer (some ⟨g, 0, none⟩)] w (BPost g S d w (escR S.data.toList i)) := by
 obtain ⟨X, hX⟩ : ∃ X, escR S.data.toList i = X := ⟨_, rfl⟩; rw [hX]; unfold escR at hX; rw [ba_len] at hX; have q0 : ∀ nq : WB w, nq.1.cell? ⟨g, 0, none⟩ = some (.string S) := fun nq => (h.keep nq.2).c0
 have q1 : ∀ nq : WB w, nq.1.cell? ⟨g, 1, none⟩ = some (.int .i64 (i : Int)) := fun nq => (h.keep nq.2).c1
 have H := Lib.hid h; clear h
 by_cases hlt : i < S.size
 · have hlt' : ¬ (i : Int) ≥ S.size := by omega
   rw [if_pos hlt] at hX; have hx := byte_is S i hlt; have hb := bt_lt S.data.toList i; generalize bt S.data.toList i = x at hx hX hb; have hw : IntKind.i64.wrap ((i : Int) + 1) = ((i + 1 : Nat) : Int) := by rw [wi64 (by unfold I64; omega)]; omega
   have hj5 : i + 1 ≤ 512 := by omega
   obtain ⟨j, hj⟩ : ∃ j, i + 1 = j := ⟨_, rfl⟩; rw [hj] at hw hX hj5; have HS := Lib.hid hS; clear hj hi hS hlt
   by_cases h1 : x = 110
   · rw [if_pos h1] at hX; subst h1; have HX := Lib.hid hX.symm; clear hX hb; go_enter Tryd.func84, Tryd.ntmps84; wkk; refine wp_region_wb (by kernel_rfl) (by kernel_rfl) w (Below.refl _ _) ?_
     repeat (go_big_quiet_step ((fail)))
     refine wpQuiet_nil ?_; rintro _ ⟨nq, rfl⟩; have hnq := nq.2; have r0 : ∀ nr : WB nq.1, nr.1.cell? ⟨g, 0, none⟩ = some (.string S) := fun nr => (H.out.keep (hnq.trans (nr.2.mono hnq.size))).c0
     have r1 : ∀ nr : WB nq.1, nr.1.cell? ⟨g, 1, none⟩ = some (.int .i64 (i : Int)) := fun nr => (H.out.keep (hnq.trans (nr.2.mono hnq.size))).c1
     have Hq := Lib.hid hnq; clear q0 q1 hnq; wkk; refine wp_region_wb (by kernel_rfl) (by kernel_rfl) nq.1 (Below.refl _ _) ?_
     repeat (go_big_quiet_step (fail))
     refine wpQuiet_nil ?_; rintro _ ⟨nr, rfl⟩; have Hr := Lib.hid (Hq.out.trans (nr.2.mono Hq.out.size)); have H1 := Lib.hid (H.out.keep Hr.out); have He := Lib.hid (Else.of_below (g := g) Hr.out); have c1 := H1.out.c1; have f1 := H1.out.free 1; clear r0 r1 Hq; wkk; go_ret; exact BPost.okI HX.out ⟨rfl, H1.out.set1 _, He.out.setCell _ _⟩
   rw [if_neg h1] at hX; have b1 : ((x : Int) == 110) = false := beq_false_of_ne (by omega)
   by_cases h2 : x = 116
   · rw [if_pos h2] at hX; subst h2; have HX := Lib.hid hX.symm; clear hX hb; go_enter Tryd.func84, Tryd.ntmps84; wkk; refine wp_region_wb (by kernel_rfl) (by kernel_rfl) w (Below.refl _ _) ?_
     repeat (go_big_quiet_step ((fail)))
     refine wpQuiet_nil ?_; rintro _ ⟨nq, rfl⟩; have hnq := nq.2; have r0 : ∀ nr : WB nq.1, nr.1.cell? ⟨g, 0, none⟩ = some (.string S) := fun nr => (H.out.keep (hnq.trans (nr.2.mono hnq.size))).c0
     have r1 : ∀ nr : WB nq.1, nr.1.cell? ⟨g, 1, none⟩ = some (.int .i64 (i : Int)) := fun nr => (H.out.keep (hnq.trans (nr.2.mono hnq.size))).c1
     have Hq := Lib.hid hnq; clear q0 q1 hnq; wkk; refine wp_region_wb (by kernel_rfl) (by kernel_rfl) nq.1 (Below.refl _ _) ?_
     repeat (go_big_quiet_step (fail))
     refine wpQuiet_nil ?_; rintro _ ⟨nr, rfl⟩; have Hr := Lib.hid (Hq.out.trans (nr.2.mono Hq.out.size)); have H1 := Lib.hid (H.out.keep Hr.out); have He := Lib.hid (Else.of_below (g := g) Hr.out); have c1 := H1.out.c1; have f1 := H1.out.free 1; clear r0 r1 Hq; wkk; go_ret; exact BPost.okI HX.out ⟨rfl, H1.out.set1 _, He.out.setCell _ _⟩
   rw [if_neg h2] at hX; have b2 : ((x : Int) == 116) = false := beq_false_of_ne (by omega)
   by_cases h3 : x = 114
   · rw [if_pos h3] at hX; subst h3; have HX := Lib.hid hX.symm; clear hX hb; go_enter Tryd.func84, Tryd.ntmps84; wkk; refine wp_region_wb (by kernel_rfl) (by kernel_rfl) w (Below.refl _ _) ?_
     repeat (go_big_quiet_step ((fail)))
     refine wpQuiet_nil ?_; rintro _ ⟨nq, rfl⟩; have hnq := nq.2; have r0 : ∀ nr : WB nq.1, nr.1.cell? ⟨g, 0, none⟩ = some (.string S) := fun nr => (H.out.keep (hnq.trans (nr.2.mono hnq.size))).c0
     have r1 : ∀ nr : WB nq.1, nr.1.cell? ⟨g, 1, none⟩ = some (.int .i64 (i : Int)) := fun nr => (H.out.keep (hnq.trans (nr.2.mono hnq.size))).c1
     have Hq := Lib.hid hnq; clear q0 q1 hnq; wkk; refine wp_region_wb (by kernel_rfl) (by kernel_rfl) nq.1 (Below.refl _ _) ?_
     repeat (go_big_quiet_step (fail))
     refine wpQuiet_nil ?_; rintro _ ⟨nr, rfl⟩; have Hr := Lib.hid (Hq.out.trans (nr.2.mono Hq.out.size)); have H1 := Lib.hid (H.out.keep Hr.out); have He := Lib.hid (Else.of_below (g := g) Hr.out); have c1 := H1.out.c1; have f1 := H1.out.free 1; clear r0 r1 Hq; wkk; go_ret; exact BPost.okI HX.out ⟨rfl, H1.out.set1 _, He.out.setCell _ _⟩
   rw [if_neg h3] at hX; have b3 : ((x : Int) == 114) = false := beq_false_of_ne (by omega)
   by_cases h4 : x = 120
   · rw [if_pos h4] at hX; subst h4; have HX := Lib.hid hX.symm; clear hX hb; go_enter Tryd.func84, Tryd.ntmps84; wkk; refine wp_region_wb (by kernel_rfl) (by kernel_rfl) w (Below.refl _ _) ?_
     repeat (go_big_quiet_step ((fail)))
     refine wpQuiet_nil ?_; rintro _ ⟨nq, rfl⟩; have hnq := nq.2; have r0 : ∀ nr : WB nq.1, nr.1.cell? ⟨g, 0, none⟩ = some (.string S) := fun nr => (H.out.keep (hnq.trans (nr.2.mono hnq.size))).c0
     have r1 : ∀ nr : WB nq.1, nr.1.cell? ⟨g, 1, none⟩ = some (.int .i64 (i : Int)) := fun nr => (H.out.keep (hnq.trans (nr.2.mono hnq.size))).c1
     have Hq := Lib.hid hnq; clear q0 q1 hnq; wkk; refine wp_region_wb (by kernel_rfl) (by kernel_rfl) nq.1 (Below.refl _ _) ?_
     repeat (go_big_quiet_step (fail))
     refine wpQuiet_nil ?_; rintro _ ⟨nr, rfl⟩; have Hr := Lib.hid (Hq.out.trans (nr.2.mono Hq.out.size)); have H1 := Lib.hid (H.out.keep Hr.out); have He := Lib.hid (Else.of_below (g := g) Hr.out); have c1 := H1.out.c1; have f1 := H1.out.free 1; clear r0 r1 Hq; have H2 := Lib.hid (H1.out.set1 j); have He2 := Lib.hid (He.out.setCell 1 (.int .i64 (j : Int))); clear H1 He; wkk; have hc := ps_hex g S j d hj5 _ H2.out
     cases ha : hexR S.data.toList j with
     | ok a k =>
       rw [ha] at hc; have ha16 := hexR_lt ha; have hk : k ≤ 512 := by
         unfold hexR at ha; rw [ba_len] at ha
         split at ha
         · split at ha
           · simp only [PR.ok.injEq] at ha; have := HS.out; omega
           · cases ha
         · cases ha
       have HA := Lib.hid ha; clear ha; refine Calls.mono (hc) ?_; rintro _ w3 ⟨rfl, hp, he⟩; dsimp only; have HP := Lib.hid hp; have HE := Lib.hid (He2.out.trans he); clear hp he hc H2 He2 hx b1 b2 b3; wkk; have hc := ps_hex g S k d hk _ HP.out
       cases hb : hexR S.data.toList k with
       | ok b l =>
         rw [hb] at hc; have hb16 := hexR_lt hb; have HB := Lib.hid hb; clear hb; refine Calls.mono (hc) ?_; rintro _ w4 ⟨rfl, hp, he⟩; dsimp only; have HP4 := Lib.hid hp; have HE4 := Lib.hid (HE.out.trans he); have hor := shl4 ⟨a, ha16⟩ ⟨b, hb16⟩; dsimp only at hor; have HX2 : Hid (X = .ok (16 * a + b) l) := Lib.hid (HX.out.trans (by rw [HA.out]; simp only [PR.bind]; rw [HB.out])); generalize 16 * a + b = v at hor HX2; clear hp he hc HP HE; wkk; go_ret; exact BPost.okI HX2.out ⟨rfl, HP4.out, HE4.out⟩
       | bad e0 l =>
         rw [hb] at hc; have HB := Lib.hid hb; clear hb; refine Calls.mono hc ?_; rintro _ w4 ⟨rfl, he⟩; exact ⟨rfl, BPost.badI (HX.out.trans (by rw [HA.out]; simp only [PR.bind]; rw [HB.out])) ⟨rfl, HE.out.trans he⟩⟩
       | out => exact absurd hb hexR_out
     | bad e0 k =>
       rw [ha] at hc; have HA := Lib.hid ha; clear ha; refine Calls.mono hc ?_; rintro _ w3 ⟨rfl, he⟩; exact ⟨rfl, BPost.badI (HX.out.trans (by rw [HA.out]; rfl)) ⟨rfl, He2.out.trans he⟩⟩
     | out => exact absurd ha hexR_out
   rw [if_neg h4] at hX; have b4 : ((x : Int) == 120) = false := beq_false_of_ne (by omega); have hI : ∀ W, Calls Tryd.prog 12 #[.string ⟨#[92, 40, 41, 91, 93, 123, 125, 46, 42, 43, 63, 124, 94, 36, 45, 47]⟩, .int .u8 (x : Nat)] W fun e w' => e = .returned (.int .i64 (Lib.indexByte [92, 40, 41, 91, 93, 123, 125, 46, 42, 43, 63, 124, 94, 36, 45, 47] ((x : Nat) : Int).toNat.toUInt8)) ∧ w' = W := fun W => Tryd.strings_IndexByte ⟨#[92, 40, 41, 91, 93, 123, 125, 46, 42, 43, 63, 124, 94, 36, 45, 47]⟩ (x : Nat) W
   have e1 := ix_esc ⟨x, hb⟩; dsimp only at e1; generalize Lib.indexByte [92, 40, 41, 91, 93, 123, 125, 46, 42, 43, 63, 124, 94, 36, 45, 47] ((x : Nat) : Int).toNat.toUInt8 = v1 at hI e1; rw [decide_eq_decide] at e1
   by_cases h5 : x ∈ sgP ∨ x = 45 ∨ x = 47
   · rw [if_pos h5] at hX; have hv : ¬ v1 < 0 := by have := e1.2 h5; omega
     have HX := Lib.hid hX.symm; clear hX hb e1 h5 h1 h2 h3 h4; go_enter Tryd.func84, Tryd.ntmps84; wkk; refine wp_region_wb (by kernel_rfl) (by kernel_rfl) w (Below.refl _ _) ?_
     repeat (go_big_quiet_step ((fail)))
     refine wpQuiet_nil ?_; rintro _ ⟨nq, rfl⟩; have hnq := nq.2; have r0 : ∀ nr : WB nq.1, nr.1.cell? ⟨g, 0, none⟩ = some (.string S) := fun nr => (H.out.keep (hnq.trans (nr.2.mono hnq.size))).c0
     have r1 : ∀ nr : WB nq.1, nr.1.cell? ⟨g, 1, none⟩ = some (.int .i64 (i : Int)) := fun nr => (H.out.keep (hnq.trans (nr.2.mono hnq.size))).c1
     have Hq := Lib.hid hnq; clear q0 q1 hnq; wkk; refine wp_region_wb (by kernel_rfl) (by kernel_rfl) nq.1 (Below.refl _ _) ?_
     repeat (go_big_quiet_step (fail))
     refine wpQuiet_nil ?_; rintro _ ⟨nr, rfl⟩; have Hr := Lib.hid (Hq.out.trans (nr.2.mono Hq.out.size)); have H1 := Lib.hid (H.out.keep Hr.out); have He := Lib.hid (Else.of_below (g := g) Hr.out); have c1 := H1.out.c1; have f1 := H1.out.free 1; clear r0 r1 Hq; wkk; refine Calls.mono ((hI _)) ?_; rintro _ w3 ⟨rfl, rfl⟩; dsimp only; wkk; go_ret; exact BPost.okI HX.out ⟨rfl, H1.out.set1 _, He.out.setCell _ _⟩
   · rw [if_neg h5] at hX; have hv : v1 < 0 := by have := mt e1.1 h5; omega
     have HX := Lib.hid hX.symm; clear hX hb e1 h5 h1 h2 h3 h4; go_enter Tryd.func84, Tryd.ntmps84; wkk; refine wp_region_wb (by kernel_rfl) (by kernel_rfl) w (Below.refl _ _) ?_
     repeat (go_big_quiet_step ((fail)))
     refine wpQuiet_nil ?_; rintro _ ⟨nq, rfl⟩; have hnq := nq.2; have r0 : ∀ nr : WB nq.1, nr.1.cell? ⟨g, 0, none⟩ = some (.string S) := fun nr => (H.out.keep (hnq.trans (nr.2.mono hnq.size))).c0
     have r1 : ∀ nr : WB nq.1, nr.1.cell? ⟨g, 1, none⟩ = some (.int .i64 (i : Int)) := fun nr => (H.out.keep (hnq.trans (nr.2.mono hnq.size))).c1
     have Hq := Lib.hid hnq; clear q0 q1 hnq; wkk; refine wp_region_wb (by kernel_rfl) (by kernel_rfl) nq.1 (Below.refl _ _) ?_
     repeat (go_big_quiet_step (fail))
     refine wpQuiet_nil ?_; rintro _ ⟨nr, rfl⟩; have Hr := Lib.hid (Hq.out.trans (nr.2.mono Hq.out.size)); have H1 := Lib.hid (H.out.keep Hr.out); have He := Lib.hid (Else.of_below (g := g) Hr.out); have c1 := H1.out.c1; have f1 := H1.out.free 1; clear r0 r1 Hq; wkk; refine Calls.mono ((hI _)) ?_; rintro _ w3 ⟨rfl, rfl⟩; dsimp only; have hf := ps_fail g S i d nr.1 H1.out; wkk; refine Calls.mono hf ?_; rintro _ w2 ⟨rfl, rfl⟩; exact ⟨rfl, BPost.badI HX.out ⟨rfl, He.out⟩⟩
 · have hlt' : (i : Int) ≥ S.size := by omega
   rw [if_neg hlt] at hX; have HX := Lib.hid hX; clear hX; go_enter Tryd.func84, Tryd.ntmps84; wkk; refine wp_region_wb (by kernel_rfl) (by kernel_rfl) w (Below.refl _ _) ?_
   repeat (go_big_quiet_step ((fail)))
   refine wpQuiet_nil ?_; rintro _ ⟨nq, rfl⟩; have hnq := nq.2; have hf := ps_fail g S i d nq.1 (H.out.keep hnq); have HB := Lib.hid (Else.of_below (g := g) hnq); clear q0 q1 hnq H; wkk; refine Calls.mono hf ?_; rintro _ w2 ⟨rfl, rfl⟩; exact ⟨rfl, BPost.badI HX.out.symm ⟨rfl, HB.out⟩⟩
set_option maxRecDepth 100000 in
set_option maxHeartbeats 1000000 in
theorem ps_point (g : Nat) (S : ByteArray) (i d : Nat) (hS : S.size ≤ 512) (hi : i ≤ S.size) (w : World) (h : PsAt w g S i d) :
   Calls Tryd.prog 87 #[.pointer (some ⟨g, 0, none⟩)] w (BPost g S d w (pntR S.data.toList i)) := by
 obtain ⟨X, hX⟩ : ∃ X, pntR S.data.toList i = X := ⟨_, rfl⟩; rw [hX]; unfold pntR at hX; rw [ba_len] at hX
 by_cases h92 : isC S.data.toList i 92
 · rw [if_pos h92] at hX; have hlt := h92.1; rw [ba_len] at hlt; have hcall := ps_take_y g S i d 92 (by omega) w h h92; have HX := Lib.hid hX; have HL := Lib.hid hlt; have HS := Lib.hid hS; clear hX hlt hi hS h h92; go_enter Tryd.func87, Tryd.ntmps87; wkk; refine Calls.mono (hcall) ?_; rintro _ w1 ⟨rfl, hp, he⟩; dsimp only; have HE := Lib.hid he; have hc := ps_escape g S (i + 1) d HS.out HL.out w1 hp; rw [HX.out] at hc; clear hcall hp he; wkk
   cases X with
   | ok a j =>
     refine Calls.mono (hc) ?_; rintro _ w2 ⟨rfl, hp, he⟩; dsimp only; have HP := Lib.hid hp; have HE2 := Lib.hid (HE.out.trans he); clear hc hp he; wkk; go_ret; exact BPost.okI rfl ⟨rfl, HP.out, HE2.out⟩
   | bad e0 j =>
     refine Calls.mono hc ?_; rintro _ w2 ⟨rfl, he⟩; exact ⟨rfl, BPost.badI rfl ⟨rfl, HE.out.trans he⟩⟩
   | out => exact absurd HX.out escR_out
 rw [if_neg h92] at hX; have hcall := ps_take_n g S i d 92 w h h92; have H := Lib.hid h; clear h h92
 by_cases hlt : i < S.size
 · have hlt' : ¬ (i : Int) ≥ S.size := by omega
   have hx := byte_is S i hlt; have hC : ∀ c, isC S.data.toList i c ↔ bt S.data.toList i = c := fun c => ⟨fun q => q.2, fun q => ⟨by rw [ba_len]; exact hlt, q⟩⟩
   have hw : IntKind.i64.wrap ((i : Int) + 1) = ((i + 1 : Nat) : Int) := by rw [wi64 (by unfold I64; omega)]; omega
   have hw2 : IntKind.i64.wrap (((i + 1 : Nat) : Int) - 1) = (i : Int) := by rw [wi64 (by unfold I64; omega)]; omega
   obtain ⟨j, hj⟩ : ∃ j, i + 1 = j := ⟨_, rfl⟩; rw [hj] at hw hX hw2; clear hj hi hS
   by_cases h93 : isC S.data.toList i 93
   · have HX : Hid (X = .bad 60 i) := Lib.hid (by rw [← hX, if_neg]; rintro ⟨_, q, _⟩; exact q h93.2); have HC := Lib.hid h93; clear hX hC h93 hx hw hw2; go_enter Tryd.func87, Tryd.ntmps87; wkk; refine Calls.mono (hcall) ?_; rintro _ w1 ⟨rfl, hb⟩; dsimp only; have H1 := Lib.hid (H.out.keep hb); have HE := Lib.hid (Else.of_below (g := g) hb); clear hcall hb H; have q0 : ∀ nq : WB w1, nq.1.cell? ⟨g, 0, none⟩ = some (.string S) := fun nq => (H1.out.keep nq.2).c0
     have q1 : ∀ nq : WB w1, nq.1.cell? ⟨g, 1, none⟩ = some (.int .i64 (i : Int)) := fun nq => (H1.out.keep nq.2).c1
     have k93 : ∀ n : WB w1, Calls Tryd.prog 74 #[.pointer (some ⟨g, 0, none⟩), .int .u8 93] n.1 (fun e w' => e = .returned (.bool true) ∧ Below n.1.heap.size n.1 w') := fun n => ps_is_y g S i d 93 n.1 (H1.out.keep n.2) HC.out
     skip
     wkk; refine wp_region_wb (by kernel_rfl) (by kernel_rfl) w1 (Below.refl _ _) ?_
     repeat (go_big_quiet_step ((go_at_call 74; exact calls_wb (k93 _))))
     refine wpQuiet_nil ?_; rintro _ ⟨nr, rfl⟩; have HR := Lib.hid (H1.out.keep nr.2); have HE2 := Lib.hid (HE.out.trans (Else.of_below (g := g) nr.2)); clear q0 q1 H1 HE; have hf := ps_fail g S i d nr.1 HR.out; wkk; refine Calls.mono hf ?_; rintro _ w2 ⟨rfl, rfl⟩; exact ⟨rfl, BPost.badI HX.out ⟨rfl, HE2.out⟩⟩
   by_cases h45 : isC S.data.toList i 45
   · have HX : Hid (X = .bad 60 i) := Lib.hid (by rw [← hX, if_neg]; rintro ⟨_, _, q⟩; exact q h45.2); have HC := Lib.hid h93; have HD := Lib.hid h45; clear hX hC h93 h45 hx hw hw2; go_enter Tryd.func87, Tryd.ntmps87; wkk; refine Calls.mono (hcall) ?_; rintro _ w1 ⟨rfl, hb⟩; dsimp only; have H1 := Lib.hid (H.out.keep hb); have HE := Lib.hid (Else.of_below (g := g) hb); clear hcall hb H; have q0 : ∀ nq : WB w1, nq.1.cell? ⟨g, 0, none⟩ = some (.string S) := fun nq => (H1.out.keep nq.2).c0
     have q1 : ∀ nq : WB w1, nq.1.cell? ⟨g, 1, none⟩ = some (.int .i64 (i : Int)) := fun nq => (H1.out.keep nq.2).c1
     have k93 : ∀ n : WB w1, Calls Tryd.prog 74 #[.pointer (some ⟨g, 0, none⟩), .int .u8 93] n.1 (fun e w' => e = .returned (.bool false) ∧ Below n.1.heap.size n.1 w') := fun n => ps_is_n g S i d 93 n.1 (H1.out.keep n.2) HC.out
     have k45 : ∀ n : WB w1, Calls Tryd.prog 74 #[.pointer (some ⟨g, 0, none⟩), .int .u8 45] n.1 (fun e w' => e = .returned (.bool true) ∧ Below n.1.heap.size n.1 w') := fun n => ps_is_y g S i d 45 n.1 (H1.out.keep n.2) HD.out
     wkk; refine wp_region_wb (by kernel_rfl) (by kernel_rfl) w1 (Below.refl _ _) ?_
     repeat (go_big_quiet_step ((go_at_call 74; first|with_reducible exact calls_wb (k93 _)|with_reducible exact calls_wb (k45 _))))
     refine wpQuiet_nil ?_; rintro _ ⟨nr, rfl⟩; have HR := Lib.hid (H1.out.keep nr.2); have HE2 := Lib.hid (HE.out.trans (Else.of_below (g := g) nr.2)); clear q0 q1 H1 HE; have hf := ps_fail g S i d nr.1 HR.out; wkk; refine Calls.mono hf ?_; rintro _ w2 ⟨rfl, rfl⟩; exact ⟨rfl, BPost.badI HX.out ⟨rfl, HE2.out⟩⟩
   · have HX : Hid (X = .ok (bt S.data.toList i) j) := Lib.hid (by rw [← hX, if_pos]; exact ⟨hlt, fun q => h93 ((hC 93).2 q), fun q => h45 ((hC 45).2 q)⟩); have HC := Lib.hid h93; have HD := Lib.hid h45; clear hX hC h93 h45; go_enter Tryd.func87, Tryd.ntmps87; wkk; refine Calls.mono (hcall) ?_; rintro _ w1 ⟨rfl, hb⟩; dsimp only; have H1 := Lib.hid (H.out.keep hb); have HE := Lib.hid (Else.of_below (g := g) hb); clear hcall hb H; have q0 : ∀ nq : WB w1, nq.1.cell? ⟨g, 0, none⟩ = some (.string S) := fun nq => (H1.out.keep nq.2).c0
     have q1 : ∀ nq : WB w1, nq.1.cell? ⟨g, 1, none⟩ = some (.int .i64 (i : Int)) := fun nq => (H1.out.keep nq.2).c1
     have k93 : ∀ n : WB w1, Calls Tryd.prog 74 #[.pointer (some ⟨g, 0, none⟩), .int .u8 93] n.1 (fun e w' => e = .returned (.bool false) ∧ Below n.1.heap.size n.1 w') := fun n => ps_is_n g S i d 93 n.1 (H1.out.keep n.2) HC.out
     have k45 : ∀ n : WB w1, Calls Tryd.prog 74 #[.pointer (some ⟨g, 0, none⟩), .int .u8 45] n.1 (fun e w' => e = .returned (.bool false) ∧ Below n.1.heap.size n.1 w') := fun n => ps_is_n g S i d 45 n.1 (H1.out.keep n.2) HD.out
     wkk; refine wp_region_wb (by kernel_rfl) (by kernel_rfl) w1 (Below.refl _ _) ?_
     repeat (go_big_quiet_step ((go_at_call 74; first|with_reducible exact calls_wb (k93 _)|with_reducible exact calls_wb (k45 _))))
     refine wpQuiet_nil ?_; rintro _ ⟨nr, rfl⟩; have HR := Lib.hid (H1.out.keep nr.2); have HE2 := Lib.hid (HE.out.trans (Else.of_below (g := g) nr.2)); clear q0 q1 H1 HE; have c1 := HR.out.c1; have f1 := HR.out.free 1; wkk; have HP := Lib.hid (HR.out.set1 j); have HE3 := Lib.hid (HE2.out.setCell 1 (.int .i64 (j : Int))); refine gen_wd (fun W => PsAt W g S j d ∧ Else g w W) ⟨HP.out, HE3.out⟩ ?_; clear HP HE3 HR HE2 HC HD c1 f1; rintro wx ⟨hp, he⟩; have HP := Lib.hid hp; have HE := Lib.hid he; clear hp he
     have q0 : ∀ nq : WB wx, nq.1.cell? ⟨g, 0, none⟩ = some (.string S) := fun nq => (HP.out.keep nq.2).c0
     have q1 : ∀ nq : WB wx, nq.1.cell? ⟨g, 1, none⟩ = some (.int .i64 (j : Int)) := fun nq => (HP.out.keep nq.2).c1
     generalize bt S.data.toList i = x at hx HX; refine wp_region_wb (by kernel_rfl) (by kernel_rfl) wx (Below.refl _ _) ?_
     repeat (go_big_quiet_step ((fail)))
     refine wpQuiet_nil ?_; rintro _ ⟨nq, rfl⟩; have hnq := nq.2; have HP2 := Lib.hid (HP.out.keep hnq); have HE2 := Lib.hid (HE.out.trans (Else.of_below (g := g) hnq)); clear q0 q1 hnq; wkk; go_ret; exact BPost.okI HX.out ⟨rfl, HP2.out, HE2.out⟩
 · have hlt' : (i : Int) ≥ S.size := by omega
   have HX : Hid (X = .bad 60 i) := Lib.hid (by rw [← hX, if_neg]; rintro ⟨q, _⟩; exact hlt q); clear hX; go_enter Tryd.func87, Tryd.ntmps87; wkk; refine Calls.mono (hcall) ?_; rintro _ w1 ⟨rfl, hb⟩; dsimp only; have H1 := Lib.hid (H.out.keep hb); have HE := Lib.hid (Else.of_below (g := g) hb); clear hcall hb H; have q0 : ∀ nq : WB w1, nq.1.cell? ⟨g, 0, none⟩ = some (.string S) := fun nq => (H1.out.keep nq.2).c0
   have q1 : ∀ nq : WB w1, nq.1.cell? ⟨g, 1, none⟩ = some (.int .i64 (i : Int)) := fun nq => (H1.out.keep nq.2).c1
   skip
   skip
   wkk; refine wp_region_wb (by kernel_rfl) (by kernel_rfl) w1 (Below.refl _ _) ?_
   repeat (go_big_quiet_step ((fail)))
   refine wpQuiet_nil ?_; rintro _ ⟨nr, rfl⟩; have HR := Lib.hid (H1.out.keep nr.2); have HE2 := Lib.hid (HE.out.trans (Else.of_below (g := g) nr.2)); clear q0 q1 H1 HE; have hf := ps_fail g S i d nr.1 HR.out; wkk; refine Calls.mono hf ?_; rintro _ w2 ⟨rfl, rfl⟩; exact ⟨rfl, BPost.badI HX.out ⟨rfl, HE2.out⟩⟩
open Go.RowKit Go.Lib
/-- the number that the digits from i to a make -/
def nvl (s : List UInt8) (i a : Nat) : Nat := if a = i then 0 else if a = i + 1 then bt s i - 48 else 10 * (bt s i - 48) + (bt s (i + 1) - 48)
theorem nvl_next {s : List UInt8} {i a : Nat} (h1 : i ≤ a) (h2 : a < i + 2) : nvl s i (a + 1) = 10 * nvl s i a + (bt s a - 48) := by
 unfold nvl
 rcases (by omega : a = i ∨ a = i + 1) with rfl | rfl
 · rw [if_neg (by omega), if_pos rfl, if_pos rfl]; omega
 · rw [if_neg (by omega), if_neg (by omega), if_neg (by omega), if_pos rfl]
theorem nvl_le {s : List UInt8} {i a : Nat} (hd : ∀ j, i ≤ j → j < a → isD s j) (h1 : i ≤ a) : nvl s i a ≤ 99 := by
 unfold nvl; split
 · omega
 split
 · have := (hd i (Nat.le_refl _) (by omega)).2; omega
 · have := (hd i (Nat.le_refl _) (by omega)).2; have := (hd (i + 1) (by omega) (by omega)).2; omega
theorem num_exit {s : List UInt8} {i a least : Nat} (h1 : i ≤ a) (h2 : a ≤ i + 2) (hd : ∀ j, i ≤ j → j < a → isD s j) (hx : a = i + 2 ∨ ¬ isD s a) :
   (a = i → numR s least i = .bad 60 i) ∧ (a ≠ i → (20 < nvl s i a ∨ nvl s i a < least → numR s least i = .bad 60 i) ∧ (¬ (20 < nvl s i a ∨ nvl s i a < least) → numR s least i = .ok (nvl s i a) a)) := by
 rcases (by omega : a = i ∨ a = i + 1 ∨ a = i + 2) with rfl | rfl | rfl
 · refine ⟨fun _ => ?_, fun h => absurd rfl h⟩; have := hx.resolve_left (by omega); unfold numR; rw [if_neg this]
 · refine ⟨fun h => by omega, fun _ => ?_⟩; have hn := hx.resolve_left (by omega); have hi := hd i (Nat.le_refl _) (by omega); have hb := hi.2; unfold numR nvl; rw [if_pos hi, if_neg hn, if_neg (by omega), if_pos rfl]; exact ⟨fun h => if_pos (by omega), fun h => if_neg (by omega)⟩
 · refine ⟨fun h => by omega, fun _ => ?_⟩; unfold numR nvl; rw [if_pos (hd i (Nat.le_refl _) (by omega)), if_pos (hd (i + 1) (by omega) (by omega)), if_neg (by omega), if_neg (by omega)]; exact ⟨fun h => if_pos h, fun h => if_neg h⟩
set_option maxRecDepth 100000 in
theorem ps_digit_y (x : Nat) (h : 48 ≤ x ∧ x ≤ 57) (w : World) : Calls Tryd.prog 85 #[.int .u8 (x : Int)] w fun e w' => e = .returned (.bool true) ∧ w = w' := by
 have h1 : (x : Int) ≥ 48 := by omega
 have h2 : (x : Int) ≤ 57 := by omega
 clear h; go_enter Tryd.func85, Tryd.ntmps85; wkk; go_ret; exact ⟨rfl, rfl⟩
set_option maxRecDepth 100000 in
theorem ps_digit_n (x : Nat) (h : ¬ (48 ≤ x ∧ x ≤ 57)) (w : World) : Calls Tryd.prog 85 #[.int .u8 (x : Int)] w fun e w' => e = .returned (.bool false) ∧ w = w' := by
 by_cases h0 : 48 ≤ x
 · have h1 : (x : Int) ≥ 48 := by omega
   have h2 : ¬ (x : Int) ≤ 57 := by omega
   clear h h0; go_enter Tryd.func85, Tryd.ntmps85; wkk; go_ret; exact ⟨rfl, rfl⟩
 · have h1 : ¬ (x : Int) ≥ 48 := by omega
   clear h h0; go_enter Tryd.func85, Tryd.ntmps85; wkk; go_ret; exact ⟨rfl, rfl⟩
/-- what a number's reading tells -/
def NPost (g : Nat) (S : ByteArray) (d : Nat) (w : World) (x : PR Nat) (e : Ending) (w' : World) : Prop :=
 match x with
 | .ok a j => e = .returned (.int .i64 (a : Int)) ∧ PsAt w' g S j d ∧ Else g w w'
 | .bad e0 j => e = stopE e0 j ∧ Else g w w'
 | .out => False
theorem NPost.okI {g : Nat} {S : ByteArray} {d : Nat} {w : World} {x : PR Nat} {e : Ending} {w' : World} {a j : Nat} (hx : x = .ok a j) (h : e = .returned (.int .i64 (a : Int)) ∧ PsAt w' g S j d ∧ Else g w w') : NPost g S d w x e w' := by subst hx; exact h
theorem NPost.badI {g : Nat} {S : ByteArray} {d : Nat} {w : World} {x : PR Nat} {e : Ending} {w' : World} {a j : Nat} (hx : x = .bad a j) (h : e = stopE a j ∧ Else g w w') : NPost g S d w x e w' := by subst hx; exact h
set_option maxRecDepth 100000 in
set_option maxHeartbeats 4000000 in
theorem ps_num (g : Nat) (S : ByteArray) (i d least : Nat) (hS : S.size ≤ 512) (hi : i ≤ S.size) (w : World) (h : PsAt w g S i d) :
   Calls Tryd.prog 77 #[.pointer (some ⟨g, 0, none⟩), .int .i64 (least : Int)] w (NPost g S d w (numR S.data.toList least i)) := by
 have hex := fun a => num_exit (s := S.data.toList) (i := i) (a := a) (least := least)
 obtain ⟨X, hX⟩ : ∃ X, numR S.data.toList least i = X := ⟨_, rfl⟩; rw [hX] at hex ⊢; have Hex := Lib.hid hex; clear hX hex; have H := Lib.hid h; have c1 := h.c1; clear h; go_enter Tryd.func77, Tryd.ntmps77; wkk
 go_loopg [6] 2 (fun gk s6 wr => ∃ a : Nat, s6 = .int .i64 (nvl S.data.toList i a : Nat) ∧ i ≤ a ∧ a + gk = i + 2 ∧ Hid (∀ j, i ≤ j → j < a → isD S.data.toList j) ∧ Hid (PsAt wr g S a d) ∧ Hid (Else g w wr))
 case atStart => exact ⟨i, by unfold nvl; rw [if_pos rfl]; rfl, Nat.le_refl _, rfl, Lib.hid (fun j h1 h2 => by omega), H, Lib.hid (Else.refl _ _)⟩
 case round =>
   clear H c1; obtain ⟨a, rfl, hia, hag, HD, HP, HE⟩ := hrel; have hN := nvl_le HD.out hia; have Hnx := Lib.hid (fun h => nvl_next (s := S.data.toList) (i := i) (a := a) hia h); have HX := Lib.hid (Hex.out a hia (by omega) HD.out); obtain ⟨N, hNN⟩ : ∃ N, nvl S.data.toList i a = N := ⟨_, rfl⟩; rw [hNN] at hN Hnx HX; rw [hNN]; have q0 : ∀ nq : WB wr, nq.1.cell? ⟨g, 0, none⟩ = some (.string S) := fun nq => (HP.out.keep nq.2).c0
   have q1 : ∀ nq : WB wr, nq.1.cell? ⟨g, 1, none⟩ = some (.int .i64 (a : Int)) := fun nq => (HP.out.keep nq.2).c1
   have hw2 : IntKind.i64.wrap ((i : Int) + 2) = (i : Int) + 2 := wi64 (by unfold I64; omega)
   by_cases hlt : a < S.size
   · have hlt' : (a : Int) < S.size := by omega
     have hx := byte_is S a hlt; have hisD : isD S.data.toList a ↔ (48 ≤ bt S.data.toList a ∧ bt S.data.toList a ≤ 57) := ⟨fun q => q.2, fun q => ⟨by rw [ba_len]; exact hlt, q⟩⟩; have hxb := bt_lt S.data.toList a; have HnD := Lib.hid HD.out; obtain ⟨x, hxx⟩ : ∃ x, bt S.data.toList a = x := ⟨_, rfl⟩; rw [hxx] at hx hisD hxb Hnx; have Hxx := Lib.hid hxx; have HNN := Lib.hid hNN; clear hxx hNN
     by_cases hdg : 48 ≤ x ∧ x ≤ 57
     · have kd := fun W => ps_digit_y x hdg W
       have hD : isD S.data.toList a := hisD.2 hdg; clear hisD
       by_cases ha2 : a = i + 2
       · have HX := Lib.hid (HX.out (.inl ha2)); have hge : ¬ (a : Int) < (i : Int) + 2 := by omega
         clear Hnx HD HnD hD hdg hxb hlt hag ha2; wkk; refine wp_region_wb (by kernel_rfl) (by kernel_rfl) wr (Below.refl _ _) ?_
         repeat (go_big_quiet_step ((go_at_call 85; exact calls_wb_same (kd _))))
         refine wpQuiet_nil ?_; rintro _ ⟨nr, rfl⟩; have HQ := Lib.hid (HP.out.keep nr.2); have HF := Lib.hid (HE.out.trans (Else.of_below (g := g) nr.2)); have c1 := HQ.out.c1; clear q0 q1 HP HE kd
         by_cases ha : a = i
         · have HY := Lib.hid (HX.out.1 ha); have hq : ((a : Int) == (i : Int)) = true := by rw [beq_iff_eq]; omega
           have Ha := Lib.hid ha; clear HX ha; wkk; have hf := ps_fail g S a d nr.1 HQ.out; refine Calls.mono hf ?_; rintro _ w2 ⟨rfl, rfl⟩; exact ⟨rfl, NPost.badI HY.out ⟨by rw [Ha.out]; rfl, HF.out⟩⟩
         · have HY := Lib.hid (HX.out.2 ha); have hq : ((a : Int) == (i : Int)) = false := beq_false_of_ne (by omega); clear HX ha
           by_cases hb : 20 < N
           · have HZ := Lib.hid (HY.out.1 (.inl hb)); have hb' : (N : Int) > 20 := by omega
             clear HY hb; wkk; exact ⟨rfl, NPost.badI HZ.out ⟨rfl, HF.out⟩⟩
           · have hb' : ¬ (N : Int) > 20 := by omega
             by_cases hl : N < least
             · have HZ := Lib.hid (HY.out.1 (.inr hl)); have hl' : (N : Int) < least := by omega
               clear HY hb hl; wkk; exact ⟨rfl, NPost.badI HZ.out ⟨rfl, HF.out⟩⟩
             · have HZ := Lib.hid (HY.out.2 (by omega)); have hl' : ¬ (N : Int) < least := by omega
               clear HY hb hl; wkk; go_ret; exact NPost.okI HZ.out ⟨rfl, HQ.out, HF.out⟩
       · have hge : (a : Int) < (i : Int) + 2 := by omega
         have HD2 : Hid (∀ j, i ≤ j → j < a + 1 → isD S.data.toList j) := Lib.hid fun j h1 h2 => by
           by_cases e : j = a
           · rw [e]; exact hD
           · exact HD.out j h1 (by omega)
         have Hnx := Lib.hid (Hnx.out (by omega)); clear HX HD HnD hD hlt; wkk; refine wp_region_wb (by kernel_rfl) (by kernel_rfl) wr (Below.refl _ _) ?_
         repeat (go_big_quiet_step ((go_at_call 85; exact calls_wb_same (kd _))))
         refine wpQuiet_nil ?_; rintro _ ⟨nr, rfl⟩; have HQ := Lib.hid (HP.out.keep nr.2); have HF := Lib.hid (HE.out.trans (Else.of_below (g := g) nr.2)); clear q0 q1 HP HE kd; have q0 : ∀ nq : WB nr.1, nq.1.cell? ⟨g, 0, none⟩ = some (.string S) := fun nq => (HQ.out.keep nq.2).c0
         have q1 : ∀ nq : WB nr.1, nq.1.cell? ⟨g, 1, none⟩ = some (.int .i64 (a : Int)) := fun nq => (HQ.out.keep nq.2).c1
         have hm : IntKind.i64.wrap (10 * (N : Int)) = 10 * (N : Int) := wi64 (by unfold I64; omega); have hs : IntKind.u8.wrap ((x : Int) - 48) = ((x - 48 : Nat) : Int) := by rw [IntKind.wrap_u8]; omega
         obtain ⟨y, hy⟩ : ∃ y, x - 48 = y := ⟨_, rfl⟩; rw [hy] at hs Hnx; have hy9 : y ≤ 9 := by omega
         have hc : IntKind.i64.wrap (y : Int) = (y : Int) := wi64 (by unfold I64; omega); have hsum : IntKind.i64.wrap (10 * (N : Int) + (y : Int)) = ((10 * N + y : Nat) : Int) := by rw [wi64 (by unfold I64; omega)]; omega
         have hw1 : IntKind.i64.wrap ((a : Int) + 1) = ((a + 1 : Nat) : Int) := by rw [wi64 (by unfold I64; omega)]; omega
         obtain ⟨N2, hN2⟩ : ∃ N2, 10 * N + y = N2 := ⟨_, rfl⟩; rw [hN2] at hsum Hnx; obtain ⟨a2, ha2e⟩ : ∃ a2, a + 1 = a2 := ⟨_, rfl⟩; rw [ha2e] at hw1; have Ha2 := Lib.hid ha2e; clear hy hN2 ha2e hw2; wkk; refine wp_region_wb (by kernel_rfl) (by kernel_rfl) nr.1 (Below.refl _ _) ?_
         repeat (go_big_quiet_step (fail))
         refine wpQuiet_nil ?_; rintro _ ⟨nt, rfl⟩; have HR := Lib.hid (HQ.out.keep nt.2); have HG := Lib.hid (HF.out.trans (Else.of_below (g := g) nt.2)); have c1 := HR.out.c1; have f1 := HR.out.free 1; clear q0 q1 HQ HF; wkk; go_roundg (gk - 1)
         case rel => exact ⟨a + 1, by rw [Hnx.out], by omega, by omega, HD2, Lib.hid (by rw [Ha2.out]; exact HR.out.set1 _), Lib.hid (HG.out.setCell _ _)⟩
         case measure => omega
     · have kd := fun W => ps_digit_n x hdg W
       have HX := Lib.hid (HX.out (.inr fun q => hdg (hisD.1 q))); clear Hnx HD HnD hisD hdg hxb hlt hag; wkk; refine wp_region_wb (by kernel_rfl) (by kernel_rfl) wr (Below.refl _ _) ?_
       repeat (go_big_quiet_step ((go_at_call 85; exact calls_wb_same (kd _))))
       refine wpQuiet_nil ?_; rintro _ ⟨nr, rfl⟩; have HQ := Lib.hid (HP.out.keep nr.2); have HF := Lib.hid (HE.out.trans (Else.of_below (g := g) nr.2)); have c1 := HQ.out.c1; clear q0 q1 HP HE kd
       by_cases ha : a = i
       · have HY := Lib.hid (HX.out.1 ha); have hq : ((a : Int) == (i : Int)) = true := by rw [beq_iff_eq]; omega
         have Ha := Lib.hid ha; clear HX ha; wkk; have hf := ps_fail g S a d nr.1 HQ.out; refine Calls.mono hf ?_; rintro _ w2 ⟨rfl, rfl⟩; exact ⟨rfl, NPost.badI HY.out ⟨by rw [Ha.out]; rfl, HF.out⟩⟩
       · have HY := Lib.hid (HX.out.2 ha); have hq : ((a : Int) == (i : Int)) = false := beq_false_of_ne (by omega); clear HX ha
         by_cases hb : 20 < N
         · have HZ := Lib.hid (HY.out.1 (.inl hb)); have hb' : (N : Int) > 20 := by omega
           clear HY hb; wkk; exact ⟨rfl, NPost.badI HZ.out ⟨rfl, HF.out⟩⟩
         · have hb' : ¬ (N : Int) > 20 := by omega
           by_cases hl : N < least
           · have HZ := Lib.hid (HY.out.1 (.inr hl)); have hl' : (N : Int) < least := by omega
             clear HY hb hl; wkk; exact ⟨rfl, NPost.badI HZ.out ⟨rfl, HF.out⟩⟩
           · have HZ := Lib.hid (HY.out.2 (by omega)); have hl' : ¬ (N : Int) < least := by omega
             clear HY hb hl; wkk; go_ret; exact NPost.okI HZ.out ⟨rfl, HQ.out, HF.out⟩
   · have hlt' : ¬ (a : Int) < S.size := by omega
     have HX := Lib.hid (HX.out (.inr fun q => hlt (by have := q.1; rw [ba_len] at this; exact this))); have kd := True.intro; have HNN := Lib.hid hNN; clear Hnx HD hlt hag hNN; wkk; refine wp_region_wb (by kernel_rfl) (by kernel_rfl) wr (Below.refl _ _) ?_
     repeat (go_big_quiet_step ((go_at_call 85; exact calls_wb_same (kd _))))
     refine wpQuiet_nil ?_; rintro _ ⟨nr, rfl⟩; have HQ := Lib.hid (HP.out.keep nr.2); have HF := Lib.hid (HE.out.trans (Else.of_below (g := g) nr.2)); have c1 := HQ.out.c1; clear q0 q1 HP HE kd
     by_cases ha : a = i
     · have HY := Lib.hid (HX.out.1 ha); have hq : ((a : Int) == (i : Int)) = true := by rw [beq_iff_eq]; omega
       have Ha := Lib.hid ha; clear HX ha; wkk; have hf := ps_fail g S a d nr.1 HQ.out; refine Calls.mono hf ?_; rintro _ w2 ⟨rfl, rfl⟩; exact ⟨rfl, NPost.badI HY.out ⟨by rw [Ha.out]; rfl, HF.out⟩⟩
     · have HY := Lib.hid (HX.out.2 ha); have hq : ((a : Int) == (i : Int)) = false := beq_false_of_ne (by omega); clear HX ha
       by_cases hb : 20 < N
       · have HZ := Lib.hid (HY.out.1 (.inl hb)); have hb' : (N : Int) > 20 := by omega
         clear HY hb; wkk; exact ⟨rfl, NPost.badI HZ.out ⟨rfl, HF.out⟩⟩
       · have hb' : ¬ (N : Int) > 20 := by omega
         by_cases hl : N < least
         · have HZ := Lib.hid (HY.out.1 (.inr hl)); have hl' : (N : Int) < least := by omega
           clear HY hb hl; wkk; exact ⟨rfl, NPost.badI HZ.out ⟨rfl, HF.out⟩⟩
         · have HZ := Lib.hid (HY.out.2 (by omega)); have hl' : ¬ (N : Int) < least := by omega
           clear HY hb hl; wkk; go_ret; exact NPost.okI HZ.out ⟨rfl, HQ.out, HF.out⟩
end Go.Proofs.YtonkenlkigfeoaaDoor
