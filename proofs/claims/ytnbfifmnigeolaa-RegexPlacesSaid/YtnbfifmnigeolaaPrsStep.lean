/- Walks: the parser's bytes (hex, escape, point) and numbers (digit, num). Conditions: a text of at most 512 bytes; a place within it. -/
import Derived.Test.YtnbfifmnigeolaaPrsMem
import Derived.Test.YtnbfifmnigeolaaShelf
import Derived.Deep.LoopGhost
import Derived.Test.YtnbfifmnigeolaaAnyC
namespace Go.Proofs.Ytnbfifmnigeolaa
open Go.RowKit Go.Lib
/-- what a step that reads tells: its byte, or why it can't go on -/
def BPost (g : Nat) (S : ByteArray) (d : Nat) (w : World) (x : PR Nat) (e : Ending) (w' : World) : Prop :=
  match x with
  | .ok a j => e = .returned (.int .u8 (a : Int)) ∧ PsAt w' g S j d ∧ Else g w w'
  | .bad e0 j => e = stopE e0 j ∧ Else g w w'
  | .out => False
theorem BPost.okI {g : Nat} {S : ByteArray} {d : Nat} {w : World} {x : PR Nat} {e : Ending} {w' : World} {a j : Nat} (hx : x = .ok a j) (h : e = .returned (.int .u8 (a : Int)) ∧ PsAt w' g S j d ∧ Else g w w') : BPost g S d w x e w' := by subst hx; exact h
theorem BPost.badI {g : Nat} {S : ByteArray} {d : Nat} {w : World} {x : PR Nat} {e : Ending} {w' : World} {a j : Nat} (hx : x = .bad a j) (h : e = stopE a j ∧ Else g w w') : BPost g S d w x e w' := by subst hx; exact h
set_option maxRecDepth 100000 in
theorem ix_hex : ∀ c : Fin 256, Lib.indexByte [48, 49, 50, 51, 52, 53, 54, 55, 56, 57, 97, 98, 99, 100, 101, 102] (((c.val : Nat) : Int)).toNat.toUInt8 = if 48 ≤ c.val ∧ c.val ≤ 57 then ((c.val - 48 : Nat) : Int) else if 97 ≤ c.val ∧ c.val ≤ 102 then ((c.val - 87 : Nat) : Int) else -1 := by decide
set_option maxRecDepth 100000 in
theorem ix_HEX : ∀ c : Fin 256, Lib.indexByte [65, 66, 67, 68, 69, 70] (((c.val : Nat) : Int)).toNat.toUInt8 = if 65 ≤ c.val ∧ c.val ≤ 70 then ((c.val - 65 : Nat) : Int) else -1 := by decide
set_option maxRecDepth 100000 in
theorem ix_sgn : ∀ c : Fin 256, decide (0 ≤ Lib.indexByte [92, 40, 41, 91, 93, 123, 125, 46, 42, 43, 63, 124, 94, 36] (((c.val : Nat) : Int)).toNat.toUInt8) = decide (c.val ∈ sgP) := by decide
set_option maxRecDepth 100000 in
theorem ix_esc : ∀ c : Fin 256, decide (0 ≤ Lib.indexByte [92, 40, 41, 91, 93, 123, 125, 46, 42, 43, 63, 124, 94, 36, 45, 47] (((c.val : Nat) : Int)).toNat.toUInt8) = decide (c.val ∈ sgP ∨ c.val = 45 ∨ c.val = 47) := by decide
set_option maxRecDepth 100000 in
theorem ps_hex (g : Nat) (S : ByteArray) (i d : Nat) (hi : i ≤ 512) (w : World) (h : PsAt w g S i d) :
    Calls Try.prog 34 #[.pointer (some ⟨g, 0, none⟩)] w (BPost g S d w (hexR S.data.toList i)) := by
  obtain ⟨X, hX⟩ : ∃ X, hexR S.data.toList i = X := ⟨_, rfl⟩
  rw [hX]
  unfold hexR at hX
  rw [ba_len] at hX
  have q0 : ∀ nq : WB w, nq.1.cell? ⟨g, 0, none⟩ = some (.string S) := fun nq => (h.keep nq.2).c0
  have q1 : ∀ nq : WB w, nq.1.cell? ⟨g, 1, none⟩ = some (.int .i64 (i : Int)) := fun nq => (h.keep nq.2).c1
  have H := Lib.hid h
  clear h
  by_cases hlt : i < S.size
  · have hlt' : ¬ (i : Int) ≥ S.size := by omega
    rw [if_pos hlt] at hX
    have hx := byte_is S i hlt
    have hb := bt_lt S.data.toList i
    generalize bt S.data.toList i = x at hx hX hb
    clear hlt
    have h1 : ∀ W, Calls Try.prog 29 #[.string ⟨#[48, 49, 50, 51, 52, 53, 54, 55, 56, 57, 97, 98, 99, 100, 101, 102]⟩, .int .u8 (x : Nat)] W fun e w' => e = .returned (.int .i64 (Lib.indexByte [48, 49, 50, 51, 52, 53, 54, 55, 56, 57, 97, 98, 99, 100, 101, 102] ((x : Nat) : Int).toNat.toUInt8)) ∧ w' = W := fun W => Try.strings_IndexByte ⟨#[48, 49, 50, 51, 52, 53, 54, 55, 56, 57, 97, 98, 99, 100, 101, 102]⟩ (x : Nat) W
    have h2 : ∀ W, Calls Try.prog 29 #[.string ⟨#[65, 66, 67, 68, 69, 70]⟩, .int .u8 (x : Nat)] W fun e w' => e = .returned (.int .i64 (Lib.indexByte [65, 66, 67, 68, 69, 70] ((x : Nat) : Int).toNat.toUInt8)) ∧ w' = W := fun W => Try.strings_IndexByte ⟨#[65, 66, 67, 68, 69, 70]⟩ (x : Nat) W
    have e1 := ix_hex ⟨x, hb⟩
    have e2 := ix_HEX ⟨x, hb⟩
    dsimp only at e1 e2
    generalize Lib.indexByte [48, 49, 50, 51, 52, 53, 54, 55, 56, 57, 97, 98, 99, 100, 101, 102] ((x : Nat) : Int).toNat.toUInt8 = v1 at h1 e1
    generalize Lib.indexByte [65, 66, 67, 68, 69, 70] ((x : Nat) : Int).toNat.toUInt8 = v2 at h2 e2
    have hw : IntKind.i64.wrap ((i : Int) + 1) = ((i + 1 : Nat) : Int) := by rw [wi64 (by unfold I64; omega)]; omega
    obtain ⟨j, hj⟩ : ∃ j, i + 1 = j := ⟨_, rfl⟩
    rw [hj] at hw hX
    clear hj hi
    have hcase : (∃ v : Nat, v < 16 ∧ v1 = (v : Int) ∧ Hid (X = .ok v j)) ∨ (v1 = -1 ∧ ((∃ v : Nat, v < 6 ∧ v2 = (v : Int) ∧ Hid (X = .ok (v + 10) j)) ∨ (v2 = -1 ∧ Hid (X = .bad 60 i)))) := by
      unfold hexV at hX
      by_cases a1 : 48 ≤ x ∧ x ≤ 57
      · rw [if_pos a1] at hX e1
        exact .inl ⟨x - 48, by omega, e1, Lib.hid hX.symm⟩
      · rw [if_neg a1] at hX e1
        by_cases a2 : 97 ≤ x ∧ x ≤ 102
        · rw [if_pos a2] at hX e1
          exact .inl ⟨x - 87, by omega, e1, Lib.hid hX.symm⟩
        · rw [if_neg a2] at hX e1
          refine .inr ⟨e1, ?_⟩
          by_cases a3 : 65 ≤ x ∧ x ≤ 70
          · rw [if_pos a3] at hX e2
            exact .inl ⟨x - 65, by omega, e2, Lib.hid (by rw [show x - 65 + 10 = x - 55 by omega]; exact hX.symm)⟩
          · rw [if_neg a3] at hX e2
            exact .inr ⟨e2, Lib.hid hX.symm⟩
    clear hX hb e1 e2
    rcases hcase with ⟨v, hv, rfl, HX⟩ | ⟨rfl, ⟨v, hv, rfl, HX⟩ | ⟨rfl, HX⟩⟩
    · have hv0 : ¬ (v : Int) < 0 := by omega
      have hv8 : IntKind.u8.wrap (v : Int) = v := by rw [IntKind.wrap_u8]; omega
      clear h2
      go_enter Try.func34, Try.ntmps34
      repeat' (first | go_values | go_skip | go_guarded | go_step | go_upon)
      refine wp_region_wb (by kernel_rfl) (by kernel_rfl) w (Below.refl _ _) ?_
      repeat (go_big_quiet_step ((fail)))
      refine wpQuiet_nil ?_
      rintro _ ⟨nq, rfl⟩
      have hnq := nq.2
      have r0 : ∀ nr : WB nq.1, nr.1.cell? ⟨g, 0, none⟩ = some (.string S) := fun nr => (H.out.keep (hnq.trans (nr.2.mono hnq.size))).c0
      have r1 : ∀ nr : WB nq.1, nr.1.cell? ⟨g, 1, none⟩ = some (.int .i64 (i : Int)) := fun nr => (H.out.keep (hnq.trans (nr.2.mono hnq.size))).c1
      have Hq := Lib.hid hnq
      clear q0 q1 hnq
      repeat' (first | go_values | go_skip | go_guarded | go_step | go_upon)
      refine wp_region_wb (by kernel_rfl) (by kernel_rfl) nq.1 (Below.refl _ _) ?_
      repeat (go_big_quiet_step ((go_at_call 29; exact calls_wb_same ((h1 _).mono fun _ _ ⟨he, hw⟩ => ⟨he, hw.symm⟩))))
      refine wpQuiet_nil ?_
      rintro _ ⟨nr, rfl⟩
      have Hr := Lib.hid (Hq.out.trans (nr.2.mono Hq.out.size))
      clear r0 r1 h1 Hq
      have Hb := Lib.hid Hr.out
      have H1 := Lib.hid (H.out.keep Hb.out)
      have He := Lib.hid (Else.of_below (g := g) Hb.out)
      have c1 := H1.out.c1
      have f1 := H1.out.free 1
      repeat' (first | go_values | go_skip | go_guarded | go_step | go_upon)
      go_ret
      exact BPost.okI HX.out ⟨rfl, H1.out.set1 _, He.out.setCell _ _⟩
    · have hv0 : ¬ (v : Int) < 0 := by omega
      have hw10 : IntKind.i64.wrap ((v : Int) + 10) = ((v + 10 : Nat) : Int) := by rw [wi64 (by unfold I64; omega)]; omega
      have hv8 : IntKind.u8.wrap ((v + 10 : Nat) : Int) = ((v + 10 : Nat) : Int) := by rw [IntKind.wrap_u8]; omega
      generalize v + 10 = v10 at hw10 hv8 HX
      go_enter Try.func34, Try.ntmps34
      repeat' (first | go_values | go_skip | go_guarded | go_step | go_upon)
      refine wp_region_wb (by kernel_rfl) (by kernel_rfl) w (Below.refl _ _) ?_
      repeat (go_big_quiet_step ((fail)))
      refine wpQuiet_nil ?_
      rintro _ ⟨nq, rfl⟩
      have hnq := nq.2
      have r0 : ∀ nr : WB nq.1, nr.1.cell? ⟨g, 0, none⟩ = some (.string S) := fun nr => (H.out.keep (hnq.trans (nr.2.mono hnq.size))).c0
      have r1 : ∀ nr : WB nq.1, nr.1.cell? ⟨g, 1, none⟩ = some (.int .i64 (i : Int)) := fun nr => (H.out.keep (hnq.trans (nr.2.mono hnq.size))).c1
      have Hq := Lib.hid hnq
      clear q0 q1 hnq
      repeat' (first | go_values | go_skip | go_guarded | go_step | go_upon)
      refine wp_region_wb (by kernel_rfl) (by kernel_rfl) nq.1 (Below.refl _ _) ?_
      repeat (go_big_quiet_step ((go_at_call 29; exact calls_wb_same ((h1 _).mono fun _ _ ⟨he, hw⟩ => ⟨he, hw.symm⟩))))
      refine wpQuiet_nil ?_
      rintro _ ⟨nr, rfl⟩
      have Hr := Lib.hid (Hq.out.trans (nr.2.mono Hq.out.size))
      clear r0 r1 h1 Hq
      have r0 : ∀ nt : WB nr.1, nt.1.cell? ⟨g, 0, none⟩ = some (.string S) := fun nt => (H.out.keep (Hr.out.trans (nt.2.mono Hr.out.size))).c0
      have r1 : ∀ nt : WB nr.1, nt.1.cell? ⟨g, 1, none⟩ = some (.int .i64 (i : Int)) := fun nt => (H.out.keep (Hr.out.trans (nt.2.mono Hr.out.size))).c1
      repeat' (first | go_values | go_skip | go_guarded | go_step | go_upon)
      refine wp_region_wb (by kernel_rfl) (by kernel_rfl) nr.1 (Below.refl _ _) ?_
      repeat (go_big_quiet_step ((go_at_call 29; exact calls_wb_same ((h2 _).mono fun _ _ ⟨he, hw⟩ => ⟨he, hw.symm⟩))))
      refine wpQuiet_nil ?_
      rintro _ ⟨nt, rfl⟩
      have Hb := Lib.hid (Hr.out.trans (nt.2.mono Hr.out.size))
      have H1 := Lib.hid (H.out.keep Hb.out)
      have He := Lib.hid (Else.of_below (g := g) Hb.out)
      have c1 := H1.out.c1
      have f1 := H1.out.free 1
      clear r0 r1 h2
      repeat' (first | go_values | go_skip | go_guarded | go_step | go_upon)
      go_ret
      exact BPost.okI HX.out ⟨rfl, H1.out.set1 _, He.out.setCell _ _⟩
    · go_enter Try.func34, Try.ntmps34
      repeat' (first | go_values | go_skip | go_guarded | go_step | go_upon)
      refine wp_region_wb (by kernel_rfl) (by kernel_rfl) w (Below.refl _ _) ?_
      repeat (go_big_quiet_step ((fail)))
      refine wpQuiet_nil ?_
      rintro _ ⟨nq, rfl⟩
      have hnq := nq.2
      have r0 : ∀ nr : WB nq.1, nr.1.cell? ⟨g, 0, none⟩ = some (.string S) := fun nr => (H.out.keep (hnq.trans (nr.2.mono hnq.size))).c0
      have r1 : ∀ nr : WB nq.1, nr.1.cell? ⟨g, 1, none⟩ = some (.int .i64 (i : Int)) := fun nr => (H.out.keep (hnq.trans (nr.2.mono hnq.size))).c1
      have Hq := Lib.hid hnq
      clear q0 q1 hnq
      repeat' (first | go_values | go_skip | go_guarded | go_step | go_upon)
      refine wp_region_wb (by kernel_rfl) (by kernel_rfl) nq.1 (Below.refl _ _) ?_
      repeat (go_big_quiet_step ((go_at_call 29; exact calls_wb_same ((h1 _).mono fun _ _ ⟨he, hw⟩ => ⟨he, hw.symm⟩))))
      refine wpQuiet_nil ?_
      rintro _ ⟨nr, rfl⟩
      have Hr := Lib.hid (Hq.out.trans (nr.2.mono Hq.out.size))
      clear r0 r1 h1 Hq
      have r0 : ∀ nt : WB nr.1, nt.1.cell? ⟨g, 0, none⟩ = some (.string S) := fun nt => (H.out.keep (Hr.out.trans (nt.2.mono Hr.out.size))).c0
      have r1 : ∀ nt : WB nr.1, nt.1.cell? ⟨g, 1, none⟩ = some (.int .i64 (i : Int)) := fun nt => (H.out.keep (Hr.out.trans (nt.2.mono Hr.out.size))).c1
      repeat' (first | go_values | go_skip | go_guarded | go_step | go_upon)
      refine wp_region_wb (by kernel_rfl) (by kernel_rfl) nr.1 (Below.refl _ _) ?_
      repeat (go_big_quiet_step ((go_at_call 29; exact calls_wb_same ((h2 _).mono fun _ _ ⟨he, hw⟩ => ⟨he, hw.symm⟩))))
      refine wpQuiet_nil ?_
      rintro _ ⟨nt, rfl⟩
      have Hb := Lib.hid (Hr.out.trans (nt.2.mono Hr.out.size))
      have H1 := Lib.hid (H.out.keep Hb.out)
      have He := Lib.hid (Else.of_below (g := g) Hb.out)
      have c1 := H1.out.c1
      have f1 := H1.out.free 1
      clear r0 r1 h2
      have hf := ps_fail g S i d nt.1 H1.out
      repeat' (first | go_values | go_skip | go_guarded | go_step | go_upon)
      refine Calls.mono hf ?_
      rintro _ w2 ⟨rfl, rfl⟩
      exact ⟨rfl, BPost.badI HX.out ⟨rfl, He.out⟩⟩
  · have hlt' : (i : Int) ≥ S.size := by omega
    rw [if_neg hlt] at hX
    have HX := Lib.hid hX
    clear hX
    go_enter Try.func34, Try.ntmps34
    repeat' (first | go_values | go_skip | go_guarded | go_step | go_upon)
    refine wp_region_wb (by kernel_rfl) (by kernel_rfl) w (Below.refl _ _) ?_
    repeat (go_big_quiet_step ((fail)))
    refine wpQuiet_nil ?_
    rintro _ ⟨nq, rfl⟩
    have hnq := nq.2
    have hf := ps_fail g S i d nq.1 (H.out.keep hnq)
    have HB := Lib.hid (Else.of_below (g := g) hnq)
    clear q0 q1 hnq H
    repeat' (first | go_values | go_skip | go_guarded | go_step | go_upon)
    refine Calls.mono hf ?_
    rintro _ w2 ⟨rfl, rfl⟩
    exact ⟨rfl, BPost.badI HX.out.symm ⟨rfl, HB.out⟩⟩
end Go.Proofs.Ytnbfifmnigeolaa
