/- Walks: what stands behind a backslash (escape), an end of a range (point). Conditions: a text of at most 512 bytes; a place within it. -/
import Derived.Test.YtnbfifmnigeolaaPrsStep
namespace Go.Proofs.Ytnbfifmnigeolaa
open Go.RowKit Go.Lib
theorem idx_ge (l : List UInt8) (c : UInt8) : -1 ≤ Lib.indexByte l c := Lib.indexByte_ge l c
theorem shl4 : ∀ a : Fin 16, ∀ b : Fin 16, bits .or .u8 ((a.val : Int) * 16) (b.val : Int) = ((16 * a.val + b.val : Nat) : Int) := by decide
theorem hexV_lt {c a : Nat} (h : hexV c = some a) : a < 16 := by
  unfold hexV at h
  split at h
  · simp only [Option.some.injEq] at h; omega
  split at h
  · simp only [Option.some.injEq] at h; omega
  split at h
  · simp only [Option.some.injEq] at h; omega
  · cases h
theorem hexR_lt {s : List UInt8} {i a j : Nat} (h : hexR s i = .ok a j) : a < 16 := by
  unfold hexR at h
  split at h
  · split at h
    · rename_i n hh
      simp only [PR.ok.injEq] at h
      obtain ⟨rfl, _⟩ := h
      exact hexV_lt hh
    · cases h
  · cases h
set_option maxRecDepth 100000 in
theorem ps_escape (g : Nat) (S : ByteArray) (i d : Nat) (hS : S.size ≤ 512) (hi : i ≤ S.size) (w : World) (h : PsAt w g S i d) :
    Calls Try.prog 28 #[.pointer (some ⟨g, 0, none⟩)] w (BPost g S d w (escR S.data.toList i)) := by
  obtain ⟨X, hX⟩ : ∃ X, escR S.data.toList i = X := ⟨_, rfl⟩
  rw [hX]
  unfold escR at hX
  rw [ba_len] at hX
  have q0 : ∀ nq : WB w, nq.1.cell? ⟨g, 0, none⟩ = some (.string S) := fun nq => (h.keep nq.2).c0
  have q1 : ∀ nq : WB w, nq.1.cell? ⟨g, 1, none⟩ = some (.int .i64 (i : Int)) := fun nq => (h.keep nq.2).c1
  have H := Lib.hid h
  clear h
  by_cases hlt : i < S.size
  · have hlt' : ¬ (i : Int) ≥ S.size := by omega
    rw [if_pos hlt] at hX
    have hx := byte_is S i hlt
    have hb := bt_lt S.data.toList i
    generalize bt S.data.toList i = x at hx hX hb
    have hw : IntKind.i64.wrap ((i : Int) + 1) = ((i + 1 : Nat) : Int) := by rw [wi64 (by unfold I64; omega)]; omega
    have hj5 : i + 1 ≤ 512 := by omega
    obtain ⟨j, hj⟩ : ∃ j, i + 1 = j := ⟨_, rfl⟩
    rw [hj] at hw hX hj5
    have HS := Lib.hid hS
    clear hj hi hS hlt
    by_cases h1 : x = 110
    · rw [if_pos h1] at hX
      subst h1
      have HX := Lib.hid hX.symm
      clear hX hb
      go_enter Try.func28, Try.ntmps28
      repeat' (first | go_values | go_skip | go_guarded | go_step | go_upon)
      refine wp_region_wb (by kernel_rfl) (by kernel_rfl) w (Below.refl _ _) ?_
      repeat (go_big_quiet_step ((fail)))
      refine wpQuiet_nil ?_
      rintro _ ⟨nq, rfl⟩
      have hnq := nq.2
      have r0 : ∀ nr : WB nq.1, nr.1.cell? ⟨g, 0, none⟩ = some (.string S) := fun nr => (H.out.keep (hnq.trans (nr.2.mono hnq.size))).c0
      have r1 : ∀ nr : WB nq.1, nr.1.cell? ⟨g, 1, none⟩ = some (.int .i64 (i : Int)) := fun nr => (H.out.keep (hnq.trans (nr.2.mono hnq.size))).c1
      have Hq := Lib.hid hnq
      clear q0 q1 hnq
      repeat' (first | go_values | go_skip | go_guarded | go_step | go_upon)
      refine wp_region_wb (by kernel_rfl) (by kernel_rfl) nq.1 (Below.refl _ _) ?_
      repeat (go_big_quiet_step (fail))
      refine wpQuiet_nil ?_
      rintro _ ⟨nr, rfl⟩
      have Hr := Lib.hid (Hq.out.trans (nr.2.mono Hq.out.size))
      have H1 := Lib.hid (H.out.keep Hr.out)
      have He := Lib.hid (Else.of_below (g := g) Hr.out)
      have c1 := H1.out.c1
      have f1 := H1.out.free 1
      clear r0 r1 Hq
      repeat' (first | go_values | go_skip | go_guarded | go_step | go_upon)
      go_ret
      exact BPost.okI HX.out ⟨rfl, H1.out.set1 _, He.out.setCell _ _⟩
    rw [if_neg h1] at hX
    have b1 : ((x : Int) == 110) = false := beq_false_of_ne (by omega)
    by_cases h2 : x = 116
    · rw [if_pos h2] at hX
      subst h2
      have HX := Lib.hid hX.symm
      clear hX hb
      go_enter Try.func28, Try.ntmps28
      repeat' (first | go_values | go_skip | go_guarded | go_step | go_upon)
      refine wp_region_wb (by kernel_rfl) (by kernel_rfl) w (Below.refl _ _) ?_
      repeat (go_big_quiet_step ((fail)))
      refine wpQuiet_nil ?_
      rintro _ ⟨nq, rfl⟩
      have hnq := nq.2
      have r0 : ∀ nr : WB nq.1, nr.1.cell? ⟨g, 0, none⟩ = some (.string S) := fun nr => (H.out.keep (hnq.trans (nr.2.mono hnq.size))).c0
      have r1 : ∀ nr : WB nq.1, nr.1.cell? ⟨g, 1, none⟩ = some (.int .i64 (i : Int)) := fun nr => (H.out.keep (hnq.trans (nr.2.mono hnq.size))).c1
      have Hq := Lib.hid hnq
      clear q0 q1 hnq
      repeat' (first | go_values | go_skip | go_guarded | go_step | go_upon)
      refine wp_region_wb (by kernel_rfl) (by kernel_rfl) nq.1 (Below.refl _ _) ?_
      repeat (go_big_quiet_step (fail))
      refine wpQuiet_nil ?_
      rintro _ ⟨nr, rfl⟩
      have Hr := Lib.hid (Hq.out.trans (nr.2.mono Hq.out.size))
      have H1 := Lib.hid (H.out.keep Hr.out)
      have He := Lib.hid (Else.of_below (g := g) Hr.out)
      have c1 := H1.out.c1
      have f1 := H1.out.free 1
      clear r0 r1 Hq
      repeat' (first | go_values | go_skip | go_guarded | go_step | go_upon)
      go_ret
      exact BPost.okI HX.out ⟨rfl, H1.out.set1 _, He.out.setCell _ _⟩
    rw [if_neg h2] at hX
    have b2 : ((x : Int) == 116) = false := beq_false_of_ne (by omega)
    by_cases h3 : x = 114
    · rw [if_pos h3] at hX
      subst h3
      have HX := Lib.hid hX.symm
      clear hX hb
      go_enter Try.func28, Try.ntmps28
      repeat' (first | go_values | go_skip | go_guarded | go_step | go_upon)
      refine wp_region_wb (by kernel_rfl) (by kernel_rfl) w (Below.refl _ _) ?_
      repeat (go_big_quiet_step ((fail)))
      refine wpQuiet_nil ?_
      rintro _ ⟨nq, rfl⟩
      have hnq := nq.2
      have r0 : ∀ nr : WB nq.1, nr.1.cell? ⟨g, 0, none⟩ = some (.string S) := fun nr => (H.out.keep (hnq.trans (nr.2.mono hnq.size))).c0
      have r1 : ∀ nr : WB nq.1, nr.1.cell? ⟨g, 1, none⟩ = some (.int .i64 (i : Int)) := fun nr => (H.out.keep (hnq.trans (nr.2.mono hnq.size))).c1
      have Hq := Lib.hid hnq
      clear q0 q1 hnq
      repeat' (first | go_values | go_skip | go_guarded | go_step | go_upon)
      refine wp_region_wb (by kernel_rfl) (by kernel_rfl) nq.1 (Below.refl _ _) ?_
      repeat (go_big_quiet_step (fail))
      refine wpQuiet_nil ?_
      rintro _ ⟨nr, rfl⟩
      have Hr := Lib.hid (Hq.out.trans (nr.2.mono Hq.out.size))
      have H1 := Lib.hid (H.out.keep Hr.out)
      have He := Lib.hid (Else.of_below (g := g) Hr.out)
      have c1 := H1.out.c1
      have f1 := H1.out.free 1
      clear r0 r1 Hq
      repeat' (first | go_values | go_skip | go_guarded | go_step | go_upon)
      go_ret
      exact BPost.okI HX.out ⟨rfl, H1.out.set1 _, He.out.setCell _ _⟩
    rw [if_neg h3] at hX
    have b3 : ((x : Int) == 114) = false := beq_false_of_ne (by omega)
    by_cases h4 : x = 120
    · rw [if_pos h4] at hX
      subst h4
      have HX := Lib.hid hX.symm
      clear hX hb
      go_enter Try.func28, Try.ntmps28
      repeat' (first | go_values | go_skip | go_guarded | go_step | go_upon)
      refine wp_region_wb (by kernel_rfl) (by kernel_rfl) w (Below.refl _ _) ?_
      repeat (go_big_quiet_step ((fail)))
      refine wpQuiet_nil ?_
      rintro _ ⟨nq, rfl⟩
      have hnq := nq.2
      have r0 : ∀ nr : WB nq.1, nr.1.cell? ⟨g, 0, none⟩ = some (.string S) := fun nr => (H.out.keep (hnq.trans (nr.2.mono hnq.size))).c0
      have r1 : ∀ nr : WB nq.1, nr.1.cell? ⟨g, 1, none⟩ = some (.int .i64 (i : Int)) := fun nr => (H.out.keep (hnq.trans (nr.2.mono hnq.size))).c1
      have Hq := Lib.hid hnq
      clear q0 q1 hnq
      repeat' (first | go_values | go_skip | go_guarded | go_step | go_upon)
      refine wp_region_wb (by kernel_rfl) (by kernel_rfl) nq.1 (Below.refl _ _) ?_
      repeat (go_big_quiet_step (fail))
      refine wpQuiet_nil ?_
      rintro _ ⟨nr, rfl⟩
      have Hr := Lib.hid (Hq.out.trans (nr.2.mono Hq.out.size))
      have H1 := Lib.hid (H.out.keep Hr.out)
      have He := Lib.hid (Else.of_below (g := g) Hr.out)
      have c1 := H1.out.c1
      have f1 := H1.out.free 1
      clear r0 r1 Hq
      have H2 := Lib.hid (H1.out.set1 j)
      have He2 := Lib.hid (He.out.setCell 1 (.int .i64 (j : Int)))
      clear H1 He
      repeat' (first | go_values | go_skip | go_guarded | go_step | go_upon)
      have hc := ps_hex g S j d hj5 _ H2.out
      cases ha : hexR S.data.toList j with
      | ok a k =>
        rw [ha] at hc
        have ha16 := hexR_lt ha
        have hk : k ≤ 512 := by
          unfold hexR at ha
          rw [ba_len] at ha
          split at ha
          · split at ha
            · simp only [PR.ok.injEq] at ha; have := HS.out; omega
            · cases ha
          · cases ha
        have HA := Lib.hid ha
        clear ha
        refine Calls.mono (hc) ?_
        rintro _ w3 ⟨rfl, hp, he⟩
        dsimp only
        have HP := Lib.hid hp
        have HE := Lib.hid (He2.out.trans he)
        clear hp he hc H2 He2 hx b1 b2 b3
        repeat' (first | go_values | go_skip | go_guarded | go_step | go_upon)
        have hc := ps_hex g S k d hk _ HP.out
        cases hb : hexR S.data.toList k with
        | ok b l =>
          rw [hb] at hc
          have hb16 := hexR_lt hb
          have HB := Lib.hid hb
          clear hb
          refine Calls.mono (hc) ?_
          rintro _ w4 ⟨rfl, hp, he⟩
          dsimp only
          have HP4 := Lib.hid hp
          have HE4 := Lib.hid (HE.out.trans he)
          have hor := shl4 ⟨a, ha16⟩ ⟨b, hb16⟩
          dsimp only at hor
          have HX2 : Hid (X = .ok (16 * a + b) l) := Lib.hid (HX.out.trans (by rw [HA.out]; simp only [PR.bind]; rw [HB.out]))
          generalize 16 * a + b = v at hor HX2
          clear hp he hc HP HE
          repeat' (first | go_values | go_skip | go_guarded | go_step | go_upon)
          go_ret
          exact BPost.okI HX2.out ⟨rfl, HP4.out, HE4.out⟩
        | bad e0 l =>
          rw [hb] at hc
          have HB := Lib.hid hb
          clear hb
          refine Calls.mono hc ?_
          rintro _ w4 ⟨rfl, he⟩
          exact ⟨rfl, BPost.badI (HX.out.trans (by rw [HA.out]; simp only [PR.bind]; rw [HB.out])) ⟨rfl, HE.out.trans he⟩⟩
        | out => exact absurd hb hexR_out
      | bad e0 k =>
        rw [ha] at hc
        have HA := Lib.hid ha
        clear ha
        refine Calls.mono hc ?_
        rintro _ w3 ⟨rfl, he⟩
        exact ⟨rfl, BPost.badI (HX.out.trans (by rw [HA.out]; rfl)) ⟨rfl, He2.out.trans he⟩⟩
      | out => exact absurd ha hexR_out
    rw [if_neg h4] at hX
    have b4 : ((x : Int) == 120) = false := beq_false_of_ne (by omega)
    have hI : ∀ W, Calls Try.prog 29 #[.string ⟨#[92, 40, 41, 91, 93, 123, 125, 46, 42, 43, 63, 124, 94, 36, 45, 47]⟩, .int .u8 (x : Nat)] W fun e w' => e = .returned (.int .i64 (Lib.indexByte [92, 40, 41, 91, 93, 123, 125, 46, 42, 43, 63, 124, 94, 36, 45, 47] ((x : Nat) : Int).toNat.toUInt8)) ∧ w' = W := fun W => Try.strings_IndexByte ⟨#[92, 40, 41, 91, 93, 123, 125, 46, 42, 43, 63, 124, 94, 36, 45, 47]⟩ (x : Nat) W
    have e1 := ix_esc ⟨x, hb⟩
    dsimp only at e1
    generalize Lib.indexByte [92, 40, 41, 91, 93, 123, 125, 46, 42, 43, 63, 124, 94, 36, 45, 47] ((x : Nat) : Int).toNat.toUInt8 = v1 at hI e1
    rw [decide_eq_decide] at e1
    by_cases h5 : x ∈ sgP ∨ x = 45 ∨ x = 47
    · rw [if_pos h5] at hX
      have hv : ¬ v1 < 0 := by have := e1.2 h5; omega
      have HX := Lib.hid hX.symm
      clear hX hb e1 h5 h1 h2 h3 h4
      go_enter Try.func28, Try.ntmps28
      repeat' (first | go_values | go_skip | go_guarded | go_step | go_upon)
      refine wp_region_wb (by kernel_rfl) (by kernel_rfl) w (Below.refl _ _) ?_
      repeat (go_big_quiet_step ((fail)))
      refine wpQuiet_nil ?_
      rintro _ ⟨nq, rfl⟩
      have hnq := nq.2
      have r0 : ∀ nr : WB nq.1, nr.1.cell? ⟨g, 0, none⟩ = some (.string S) := fun nr => (H.out.keep (hnq.trans (nr.2.mono hnq.size))).c0
      have r1 : ∀ nr : WB nq.1, nr.1.cell? ⟨g, 1, none⟩ = some (.int .i64 (i : Int)) := fun nr => (H.out.keep (hnq.trans (nr.2.mono hnq.size))).c1
      have Hq := Lib.hid hnq
      clear q0 q1 hnq
      repeat' (first | go_values | go_skip | go_guarded | go_step | go_upon)
      refine wp_region_wb (by kernel_rfl) (by kernel_rfl) nq.1 (Below.refl _ _) ?_
      repeat (go_big_quiet_step (fail))
      refine wpQuiet_nil ?_
      rintro _ ⟨nr, rfl⟩
      have Hr := Lib.hid (Hq.out.trans (nr.2.mono Hq.out.size))
      have H1 := Lib.hid (H.out.keep Hr.out)
      have He := Lib.hid (Else.of_below (g := g) Hr.out)
      have c1 := H1.out.c1
      have f1 := H1.out.free 1
      clear r0 r1 Hq
      repeat' (first | go_values | go_skip | go_guarded | go_step | go_upon)
      refine Calls.mono ((hI _)) ?_
      rintro _ w3 ⟨rfl, rfl⟩
      dsimp only
      repeat' (first | go_values | go_skip | go_guarded | go_step | go_upon)
      go_ret
      exact BPost.okI HX.out ⟨rfl, H1.out.set1 _, He.out.setCell _ _⟩
    · rw [if_neg h5] at hX
      have hv : v1 < 0 := by have := mt e1.1 h5; omega
      have HX := Lib.hid hX.symm
      clear hX hb e1 h5 h1 h2 h3 h4
      go_enter Try.func28, Try.ntmps28
      repeat' (first | go_values | go_skip | go_guarded | go_step | go_upon)
      refine wp_region_wb (by kernel_rfl) (by kernel_rfl) w (Below.refl _ _) ?_
      repeat (go_big_quiet_step ((fail)))
      refine wpQuiet_nil ?_
      rintro _ ⟨nq, rfl⟩
      have hnq := nq.2
      have r0 : ∀ nr : WB nq.1, nr.1.cell? ⟨g, 0, none⟩ = some (.string S) := fun nr => (H.out.keep (hnq.trans (nr.2.mono hnq.size))).c0
      have r1 : ∀ nr : WB nq.1, nr.1.cell? ⟨g, 1, none⟩ = some (.int .i64 (i : Int)) := fun nr => (H.out.keep (hnq.trans (nr.2.mono hnq.size))).c1
      have Hq := Lib.hid hnq
      clear q0 q1 hnq
      repeat' (first | go_values | go_skip | go_guarded | go_step | go_upon)
      refine wp_region_wb (by kernel_rfl) (by kernel_rfl) nq.1 (Below.refl _ _) ?_
      repeat (go_big_quiet_step (fail))
      refine wpQuiet_nil ?_
      rintro _ ⟨nr, rfl⟩
      have Hr := Lib.hid (Hq.out.trans (nr.2.mono Hq.out.size))
      have H1 := Lib.hid (H.out.keep Hr.out)
      have He := Lib.hid (Else.of_below (g := g) Hr.out)
      have c1 := H1.out.c1
      have f1 := H1.out.free 1
      clear r0 r1 Hq
      repeat' (first | go_values | go_skip | go_guarded | go_step | go_upon)
      refine Calls.mono ((hI _)) ?_
      rintro _ w3 ⟨rfl, rfl⟩
      dsimp only
      have hf := ps_fail g S i d nr.1 H1.out
      repeat' (first | go_values | go_skip | go_guarded | go_step | go_upon)
      refine Calls.mono hf ?_
      rintro _ w2 ⟨rfl, rfl⟩
      exact ⟨rfl, BPost.badI HX.out ⟨rfl, He.out⟩⟩
  · have hlt' : (i : Int) ≥ S.size := by omega
    rw [if_neg hlt] at hX
    have HX := Lib.hid hX
    clear hX
    go_enter Try.func28, Try.ntmps28
    repeat' (first | go_values | go_skip | go_guarded | go_step | go_upon)
    refine wp_region_wb (by kernel_rfl) (by kernel_rfl) w (Below.refl _ _) ?_
    repeat (go_big_quiet_step ((fail)))
    refine wpQuiet_nil ?_
    rintro _ ⟨nq, rfl⟩
    have hnq := nq.2
    have hf := ps_fail g S i d nq.1 (H.out.keep hnq)
    have HB := Lib.hid (Else.of_below (g := g) hnq)
    clear q0 q1 hnq H
    repeat' (first | go_values | go_skip | go_guarded | go_step | go_upon)
    refine Calls.mono hf ?_
    rintro _ w2 ⟨rfl, rfl⟩
    exact ⟨rfl, BPost.badI HX.out.symm ⟨rfl, HB.out⟩⟩
set_option maxRecDepth 100000 in
set_option maxHeartbeats 1000000 in
theorem ps_point (g : Nat) (S : ByteArray) (i d : Nat) (hS : S.size ≤ 512) (hi : i ≤ S.size) (w : World) (h : PsAt w g S i d) :
    Calls Try.prog 32 #[.pointer (some ⟨g, 0, none⟩)] w (BPost g S d w (pntR S.data.toList i)) := by
  obtain ⟨X, hX⟩ : ∃ X, pntR S.data.toList i = X := ⟨_, rfl⟩
  rw [hX]
  unfold pntR at hX
  rw [ba_len] at hX
  by_cases h92 : isC S.data.toList i 92
  · rw [if_pos h92] at hX
    have hlt := h92.1
    rw [ba_len] at hlt
    have hcall := ps_take_y g S i d 92 (by omega) w h h92
    have HX := Lib.hid hX
    have HL := Lib.hid hlt
    have HS := Lib.hid hS
    clear hX hlt hi hS h h92
    go_enter Try.func32, Try.ntmps32
    repeat' (first | go_values | go_skip | go_guarded | go_step | go_upon)
    refine Calls.mono (hcall) ?_
    rintro _ w1 ⟨rfl, hp, he⟩
    dsimp only
    have HE := Lib.hid he
    have hc := ps_escape g S (i + 1) d HS.out HL.out w1 hp
    rw [HX.out] at hc
    clear hcall hp he
    repeat' (first | go_values | go_skip | go_guarded | go_step | go_upon)
    cases X with
    | ok a j =>
      refine Calls.mono (hc) ?_
      rintro _ w2 ⟨rfl, hp, he⟩
      dsimp only
      have HP := Lib.hid hp
      have HE2 := Lib.hid (HE.out.trans he)
      clear hc hp he
      repeat' (first | go_values | go_skip | go_guarded | go_step | go_upon)
      go_ret
      exact BPost.okI rfl ⟨rfl, HP.out, HE2.out⟩
    | bad e0 j =>
      refine Calls.mono hc ?_
      rintro _ w2 ⟨rfl, he⟩
      exact ⟨rfl, BPost.badI rfl ⟨rfl, HE.out.trans he⟩⟩
    | out => exact absurd HX.out escR_out
  rw [if_neg h92] at hX
  have hcall := ps_take_n g S i d 92 w h h92
  have H := Lib.hid h
  clear h h92
  by_cases hlt : i < S.size
  · have hlt' : ¬ (i : Int) ≥ S.size := by omega
    have hx := byte_is S i hlt
    have hC : ∀ c, isC S.data.toList i c ↔ bt S.data.toList i = c := fun c => ⟨fun q => q.2, fun q => ⟨by rw [ba_len]; exact hlt, q⟩⟩
    have hw : IntKind.i64.wrap ((i : Int) + 1) = ((i + 1 : Nat) : Int) := by rw [wi64 (by unfold I64; omega)]; omega
    have hw2 : IntKind.i64.wrap (((i + 1 : Nat) : Int) - 1) = (i : Int) := by rw [wi64 (by unfold I64; omega)]; omega
    obtain ⟨j, hj⟩ : ∃ j, i + 1 = j := ⟨_, rfl⟩
    rw [hj] at hw hX hw2
    clear hj hi hS
    by_cases h93 : isC S.data.toList i 93
    · have HX : Hid (X = .bad 60 i) := Lib.hid (by rw [← hX, if_neg]; rintro ⟨_, q, _⟩; exact q h93.2)
      have HC := Lib.hid h93
      clear hX hC h93 hx hw hw2
      go_enter Try.func32, Try.ntmps32
      repeat' (first | go_values | go_skip | go_guarded | go_step | go_upon)
      refine Calls.mono (hcall) ?_
      rintro _ w1 ⟨rfl, hb⟩
      dsimp only
      have H1 := Lib.hid (H.out.keep hb)
      have HE := Lib.hid (Else.of_below (g := g) hb)
      clear hcall hb H
      have q0 : ∀ nq : WB w1, nq.1.cell? ⟨g, 0, none⟩ = some (.string S) := fun nq => (H1.out.keep nq.2).c0
      have q1 : ∀ nq : WB w1, nq.1.cell? ⟨g, 1, none⟩ = some (.int .i64 (i : Int)) := fun nq => (H1.out.keep nq.2).c1
      have k93 : ∀ n : WB w1, Calls Try.prog 17 #[.pointer (some ⟨g, 0, none⟩), .int .u8 93] n.1 (fun e w' => e = .returned (.bool true) ∧ Below n.1.heap.size n.1 w') := fun n => ps_is_y g S i d 93 n.1 (H1.out.keep n.2) HC.out
      skip
      repeat' (first | go_values | go_skip | go_guarded | go_step | go_upon)
      refine wp_region_wb (by kernel_rfl) (by kernel_rfl) w1 (Below.refl _ _) ?_
      repeat (go_big_quiet_step ((go_at_call 17; exact calls_wb (k93 _))))
      refine wpQuiet_nil ?_
      rintro _ ⟨nr, rfl⟩
      have HR := Lib.hid (H1.out.keep nr.2)
      have HE2 := Lib.hid (HE.out.trans (Else.of_below (g := g) nr.2))
      clear q0 q1 H1 HE
      have hf := ps_fail g S i d nr.1 HR.out
      repeat' (first | go_values | go_skip | go_guarded | go_step | go_upon)
      refine Calls.mono hf ?_
      rintro _ w2 ⟨rfl, rfl⟩
      exact ⟨rfl, BPost.badI HX.out ⟨rfl, HE2.out⟩⟩
    by_cases h45 : isC S.data.toList i 45
    · have HX : Hid (X = .bad 60 i) := Lib.hid (by rw [← hX, if_neg]; rintro ⟨_, _, q⟩; exact q h45.2)
      have HC := Lib.hid h93
      have HD := Lib.hid h45
      clear hX hC h93 h45 hx hw hw2
      go_enter Try.func32, Try.ntmps32
      repeat' (first | go_values | go_skip | go_guarded | go_step | go_upon)
      refine Calls.mono (hcall) ?_
      rintro _ w1 ⟨rfl, hb⟩
      dsimp only
      have H1 := Lib.hid (H.out.keep hb)
      have HE := Lib.hid (Else.of_below (g := g) hb)
      clear hcall hb H
      have q0 : ∀ nq : WB w1, nq.1.cell? ⟨g, 0, none⟩ = some (.string S) := fun nq => (H1.out.keep nq.2).c0
      have q1 : ∀ nq : WB w1, nq.1.cell? ⟨g, 1, none⟩ = some (.int .i64 (i : Int)) := fun nq => (H1.out.keep nq.2).c1
      have k93 : ∀ n : WB w1, Calls Try.prog 17 #[.pointer (some ⟨g, 0, none⟩), .int .u8 93] n.1 (fun e w' => e = .returned (.bool false) ∧ Below n.1.heap.size n.1 w') := fun n => ps_is_n g S i d 93 n.1 (H1.out.keep n.2) HC.out
      have k45 : ∀ n : WB w1, Calls Try.prog 17 #[.pointer (some ⟨g, 0, none⟩), .int .u8 45] n.1 (fun e w' => e = .returned (.bool true) ∧ Below n.1.heap.size n.1 w') := fun n => ps_is_y g S i d 45 n.1 (H1.out.keep n.2) HD.out
      repeat' (first | go_values | go_skip | go_guarded | go_step | go_upon)
      refine wp_region_wb (by kernel_rfl) (by kernel_rfl) w1 (Below.refl _ _) ?_
      repeat (go_big_quiet_step ((go_at_call 17; first|with_reducible exact calls_wb (k93 _)|with_reducible exact calls_wb (k45 _))))
      refine wpQuiet_nil ?_
      rintro _ ⟨nr, rfl⟩
      have HR := Lib.hid (H1.out.keep nr.2)
      have HE2 := Lib.hid (HE.out.trans (Else.of_below (g := g) nr.2))
      clear q0 q1 H1 HE
      have hf := ps_fail g S i d nr.1 HR.out
      repeat' (first | go_values | go_skip | go_guarded | go_step | go_upon)
      refine Calls.mono hf ?_
      rintro _ w2 ⟨rfl, rfl⟩
      exact ⟨rfl, BPost.badI HX.out ⟨rfl, HE2.out⟩⟩
    · have HX : Hid (X = .ok (bt S.data.toList i) j) := Lib.hid (by rw [← hX, if_pos]; exact ⟨hlt, fun q => h93 ((hC 93).2 q), fun q => h45 ((hC 45).2 q)⟩)
      have HC := Lib.hid h93
      have HD := Lib.hid h45
      clear hX hC h93 h45
      go_enter Try.func32, Try.ntmps32
      repeat' (first | go_values | go_skip | go_guarded | go_step | go_upon)
      refine Calls.mono (hcall) ?_
      rintro _ w1 ⟨rfl, hb⟩
      dsimp only
      have H1 := Lib.hid (H.out.keep hb)
      have HE := Lib.hid (Else.of_below (g := g) hb)
      clear hcall hb H
      have q0 : ∀ nq : WB w1, nq.1.cell? ⟨g, 0, none⟩ = some (.string S) := fun nq => (H1.out.keep nq.2).c0
      have q1 : ∀ nq : WB w1, nq.1.cell? ⟨g, 1, none⟩ = some (.int .i64 (i : Int)) := fun nq => (H1.out.keep nq.2).c1
      have k93 : ∀ n : WB w1, Calls Try.prog 17 #[.pointer (some ⟨g, 0, none⟩), .int .u8 93] n.1 (fun e w' => e = .returned (.bool false) ∧ Below n.1.heap.size n.1 w') := fun n => ps_is_n g S i d 93 n.1 (H1.out.keep n.2) HC.out
      have k45 : ∀ n : WB w1, Calls Try.prog 17 #[.pointer (some ⟨g, 0, none⟩), .int .u8 45] n.1 (fun e w' => e = .returned (.bool false) ∧ Below n.1.heap.size n.1 w') := fun n => ps_is_n g S i d 45 n.1 (H1.out.keep n.2) HD.out
      repeat' (first | go_values | go_skip | go_guarded | go_step | go_upon)
      refine wp_region_wb (by kernel_rfl) (by kernel_rfl) w1 (Below.refl _ _) ?_
      repeat (go_big_quiet_step ((go_at_call 17; first|with_reducible exact calls_wb (k93 _)|with_reducible exact calls_wb (k45 _))))
      refine wpQuiet_nil ?_
      rintro _ ⟨nr, rfl⟩
      have HR := Lib.hid (H1.out.keep nr.2)
      have HE2 := Lib.hid (HE.out.trans (Else.of_below (g := g) nr.2))
      clear q0 q1 H1 HE
      have c1 := HR.out.c1
      have f1 := HR.out.free 1
      repeat' (first | go_values | go_skip | go_guarded | go_step | go_upon)
      have HP := Lib.hid (HR.out.set1 j)
      have HE3 := Lib.hid (HE2.out.setCell 1 (.int .i64 (j : Int)))
      refine gen_wd (fun W => PsAt W g S j d ∧ Else g w W) ⟨HP.out, HE3.out⟩ ?_
      clear HP HE3 HR HE2 HC HD c1 f1
      rintro wx ⟨hp, he⟩
      have HP := Lib.hid hp
      have HE := Lib.hid he
      clear hp he
      have q0 : ∀ nq : WB wx, nq.1.cell? ⟨g, 0, none⟩ = some (.string S) := fun nq => (HP.out.keep nq.2).c0
      have q1 : ∀ nq : WB wx, nq.1.cell? ⟨g, 1, none⟩ = some (.int .i64 (j : Int)) := fun nq => (HP.out.keep nq.2).c1
      generalize bt S.data.toList i = x at hx HX
      refine wp_region_wb (by kernel_rfl) (by kernel_rfl) wx (Below.refl _ _) ?_
      repeat (go_big_quiet_step ((fail)))
      refine wpQuiet_nil ?_
      rintro _ ⟨nq, rfl⟩
      have hnq := nq.2
      have HP2 := Lib.hid (HP.out.keep hnq)
      have HE2 := Lib.hid (HE.out.trans (Else.of_below (g := g) hnq))
      clear q0 q1 hnq
      repeat' (first | go_values | go_skip | go_guarded | go_step | go_upon)
      go_ret
      exact BPost.okI HX.out ⟨rfl, HP2.out, HE2.out⟩
  · have hlt' : (i : Int) ≥ S.size := by omega
    have HX : Hid (X = .bad 60 i) := Lib.hid (by rw [← hX, if_neg]; rintro ⟨q, _⟩; exact hlt q)
    clear hX
    go_enter Try.func32, Try.ntmps32
    repeat' (first | go_values | go_skip | go_guarded | go_step | go_upon)
    refine Calls.mono (hcall) ?_
    rintro _ w1 ⟨rfl, hb⟩
    dsimp only
    have H1 := Lib.hid (H.out.keep hb)
    have HE := Lib.hid (Else.of_below (g := g) hb)
    clear hcall hb H
    have q0 : ∀ nq : WB w1, nq.1.cell? ⟨g, 0, none⟩ = some (.string S) := fun nq => (H1.out.keep nq.2).c0
    have q1 : ∀ nq : WB w1, nq.1.cell? ⟨g, 1, none⟩ = some (.int .i64 (i : Int)) := fun nq => (H1.out.keep nq.2).c1
    skip
    skip
    repeat' (first | go_values | go_skip | go_guarded | go_step | go_upon)
    refine wp_region_wb (by kernel_rfl) (by kernel_rfl) w1 (Below.refl _ _) ?_
    repeat (go_big_quiet_step ((fail)))
    refine wpQuiet_nil ?_
    rintro _ ⟨nr, rfl⟩
    have HR := Lib.hid (H1.out.keep nr.2)
    have HE2 := Lib.hid (HE.out.trans (Else.of_below (g := g) nr.2))
    clear q0 q1 H1 HE
    have hf := ps_fail g S i d nr.1 HR.out
    repeat' (first | go_values | go_skip | go_guarded | go_step | go_upon)
    refine Calls.mono hf ?_
    rintro _ w2 ⟨rfl, rfl⟩
    exact ⟨rfl, BPost.badI HX.out ⟨rfl, HE2.out⟩⟩
end Go.Proofs.Ytnbfifmnigeolaa
