/- Walks: a number of a bound (digit, num). Conditions: a text of at most 512 bytes; a place within it. -/
import Derived.Test.YtnbfifmnigeolaaPrsStep
namespace Go.Proofs.Ytnbfifmnigeolaa
open Go.RowKit Go.Lib
/-- the number that the digits from i to a make -/
def nvl (s : List UInt8) (i a : Nat) : Nat := if a = i then 0 else if a = i + 1 then bt s i - 48 else 10 * (bt s i - 48) + (bt s (i + 1) - 48)
theorem nvl_next {s : List UInt8} {i a : Nat} (h1 : i ≤ a) (h2 : a < i + 2) : nvl s i (a + 1) = 10 * nvl s i a + (bt s a - 48) := by
  unfold nvl
  rcases (by omega : a = i ∨ a = i + 1) with rfl | rfl
  · rw [if_neg (by omega), if_pos rfl, if_pos rfl]; omega
  · rw [if_neg (by omega), if_neg (by omega), if_neg (by omega), if_pos rfl]
theorem nvl_le {s : List UInt8} {i a : Nat} (hd : ∀ j, i ≤ j → j < a → isD s j) (h1 : i ≤ a) : nvl s i a ≤ 99 := by
  unfold nvl
  split
  · omega
  split
  · have := (hd i (Nat.le_refl _) (by omega)).2; omega
  · have := (hd i (Nat.le_refl _) (by omega)).2
    have := (hd (i + 1) (by omega) (by omega)).2
    omega
theorem num_exit {s : List UInt8} {i a least : Nat} (h1 : i ≤ a) (h2 : a ≤ i + 2) (hd : ∀ j, i ≤ j → j < a → isD s j) (hx : a = i + 2 ∨ ¬ isD s a) :
    (a = i → numR s least i = .bad 60 i) ∧ (a ≠ i → (20 < nvl s i a ∨ nvl s i a < least → numR s least i = .bad 60 i) ∧ (¬ (20 < nvl s i a ∨ nvl s i a < least) → numR s least i = .ok (nvl s i a) a)) := by
  rcases (by omega : a = i ∨ a = i + 1 ∨ a = i + 2) with rfl | rfl | rfl
  · refine ⟨fun _ => ?_, fun h => absurd rfl h⟩
    have := hx.resolve_left (by omega)
    unfold numR; rw [if_neg this]
  · refine ⟨fun h => by omega, fun _ => ?_⟩
    have hn := hx.resolve_left (by omega)
    have hi := hd i (Nat.le_refl _) (by omega)
    have hb := hi.2
    unfold numR nvl
    rw [if_pos hi, if_neg hn, if_neg (by omega), if_pos rfl]
    exact ⟨fun h => if_pos (by omega), fun h => if_neg (by omega)⟩
  · refine ⟨fun h => by omega, fun _ => ?_⟩
    unfold numR nvl
    rw [if_pos (hd i (Nat.le_refl _) (by omega)), if_pos (hd (i + 1) (by omega) (by omega)), if_neg (by omega), if_neg (by omega)]
    exact ⟨fun h => if_pos h, fun h => if_neg h⟩
set_option maxRecDepth 100000 in
theorem ps_digit_y (x : Nat) (h : 48 ≤ x ∧ x ≤ 57) (w : World) : Calls Try.prog 30 #[.int .u8 (x : Int)] w fun e w' => e = .returned (.bool true) ∧ w = w' := by
  have h1 : (x : Int) ≥ 48 := by omega
  have h2 : (x : Int) ≤ 57 := by omega
  clear h
  go_enter Try.func30, Try.ntmps30
  repeat' (first | go_values | go_skip | go_guarded | go_step | go_upon)
  go_ret
  exact ⟨rfl, rfl⟩
set_option maxRecDepth 100000 in
theorem ps_digit_n (x : Nat) (h : ¬ (48 ≤ x ∧ x ≤ 57)) (w : World) : Calls Try.prog 30 #[.int .u8 (x : Int)] w fun e w' => e = .returned (.bool false) ∧ w = w' := by
  by_cases h0 : 48 ≤ x
  · have h1 : (x : Int) ≥ 48 := by omega
    have h2 : ¬ (x : Int) ≤ 57 := by omega
    clear h h0
    go_enter Try.func30, Try.ntmps30
    repeat' (first | go_values | go_skip | go_guarded | go_step | go_upon)
    go_ret
    exact ⟨rfl, rfl⟩
  · have h1 : ¬ (x : Int) ≥ 48 := by omega
    clear h h0
    go_enter Try.func30, Try.ntmps30
    repeat' (first | go_values | go_skip | go_guarded | go_step | go_upon)
    go_ret
    exact ⟨rfl, rfl⟩
/-- what a number's reading tells -/
def NPost (g : Nat) (S : ByteArray) (d : Nat) (w : World) (x : PR Nat) (e : Ending) (w' : World) : Prop :=
  match x with
  | .ok a j => e = .returned (.int .i64 (a : Int)) ∧ PsAt w' g S j d ∧ Else g w w'
  | .bad e0 j => e = stopE e0 j ∧ Else g w w'
  | .out => False
theorem NPost.okI {g : Nat} {S : ByteArray} {d : Nat} {w : World} {x : PR Nat} {e : Ending} {w' : World} {a j : Nat} (hx : x = .ok a j) (h : e = .returned (.int .i64 (a : Int)) ∧ PsAt w' g S j d ∧ Else g w w') : NPost g S d w x e w' := by subst hx; exact h
theorem NPost.badI {g : Nat} {S : ByteArray} {d : Nat} {w : World} {x : PR Nat} {e : Ending} {w' : World} {a j : Nat} (hx : x = .bad a j) (h : e = stopE a j ∧ Else g w w') : NPost g S d w x e w' := by subst hx; exact h
set_option maxRecDepth 100000 in
set_option maxHeartbeats 4000000 in
theorem ps_num (g : Nat) (S : ByteArray) (i d least : Nat) (hS : S.size ≤ 512) (hi : i ≤ S.size) (w : World) (h : PsAt w g S i d) :
    Calls Try.prog 21 #[.pointer (some ⟨g, 0, none⟩), .int .i64 (least : Int)] w (NPost g S d w (numR S.data.toList least i)) := by
  have hex := fun a => num_exit (s := S.data.toList) (i := i) (a := a) (least := least)
  obtain ⟨X, hX⟩ : ∃ X, numR S.data.toList least i = X := ⟨_, rfl⟩
  rw [hX] at hex ⊢
  have Hex := Lib.hid hex
  clear hX hex
  have H := Lib.hid h
  have c1 := h.c1
  clear h
  go_enter Try.func21, Try.ntmps21
  repeat' (first | go_values | go_skip | go_guarded | go_step | go_upon)
  go_loopg [6] 2 (fun gk s6 wr => ∃ a : Nat, s6 = .int .i64 (nvl S.data.toList i a : Nat) ∧ i ≤ a ∧ a + gk = i + 2 ∧ Hid (∀ j, i ≤ j → j < a → isD S.data.toList j) ∧ Hid (PsAt wr g S a d) ∧ Hid (Else g w wr))
  case atStart => exact ⟨i, by unfold nvl; rw [if_pos rfl]; rfl, Nat.le_refl _, rfl, Lib.hid (fun j h1 h2 => by omega), H, Lib.hid (Else.refl _ _)⟩
  case round =>
    clear H c1
    obtain ⟨a, rfl, hia, hag, HD, HP, HE⟩ := hrel
    have hN := nvl_le HD.out hia
    have Hnx := Lib.hid (fun h => nvl_next (s := S.data.toList) (i := i) (a := a) hia h)
    have HX := Lib.hid (Hex.out a hia (by omega) HD.out)
    obtain ⟨N, hNN⟩ : ∃ N, nvl S.data.toList i a = N := ⟨_, rfl⟩
    rw [hNN] at hN Hnx HX
    rw [hNN]
    have q0 : ∀ nq : WB wr, nq.1.cell? ⟨g, 0, none⟩ = some (.string S) := fun nq => (HP.out.keep nq.2).c0
    have q1 : ∀ nq : WB wr, nq.1.cell? ⟨g, 1, none⟩ = some (.int .i64 (a : Int)) := fun nq => (HP.out.keep nq.2).c1
    have hw2 : IntKind.i64.wrap ((i : Int) + 2) = (i : Int) + 2 := wi64 (by unfold I64; omega)
    by_cases hlt : a < S.size
    · have hlt' : (a : Int) < S.size := by omega
      have hx := byte_is S a hlt
      have hisD : isD S.data.toList a ↔ (48 ≤ bt S.data.toList a ∧ bt S.data.toList a ≤ 57) := ⟨fun q => q.2, fun q => ⟨by rw [ba_len]; exact hlt, q⟩⟩
      have hxb := bt_lt S.data.toList a
      have HnD := Lib.hid HD.out
      obtain ⟨x, hxx⟩ : ∃ x, bt S.data.toList a = x := ⟨_, rfl⟩
      rw [hxx] at hx hisD hxb Hnx
      have Hxx := Lib.hid hxx
      have HNN := Lib.hid hNN
      clear hxx hNN
      by_cases hdg : 48 ≤ x ∧ x ≤ 57
      · have kd := fun W => ps_digit_y x hdg W
        have hD : isD S.data.toList a := hisD.2 hdg
        clear hisD
        by_cases ha2 : a = i + 2
        · have HX := Lib.hid (HX.out (.inl ha2))
          have hge : ¬ (a : Int) < (i : Int) + 2 := by omega
          clear Hnx HD HnD hD hdg hxb hlt hag ha2
          repeat' (first | go_values | go_skip | go_guarded | go_step | go_upon)
          refine wp_region_wb (by kernel_rfl) (by kernel_rfl) wr (Below.refl _ _) ?_
          repeat (go_big_quiet_step ((go_at_call 30; exact calls_wb_same (kd _))))
          refine wpQuiet_nil ?_
          rintro _ ⟨nr, rfl⟩
          have HQ := Lib.hid (HP.out.keep nr.2)
          have HF := Lib.hid (HE.out.trans (Else.of_below (g := g) nr.2))
          have c1 := HQ.out.c1
          clear q0 q1 HP HE kd
          by_cases ha : a = i
          · have HY := Lib.hid (HX.out.1 ha)
            have hq : ((a : Int) == (i : Int)) = true := by rw [beq_iff_eq]; omega
            have Ha := Lib.hid ha
            clear HX ha
            repeat' (first | go_values | go_skip | go_guarded | go_step | go_upon)
            have hf := ps_fail g S a d nr.1 HQ.out
            refine Calls.mono hf ?_
            rintro _ w2 ⟨rfl, rfl⟩
            exact ⟨rfl, NPost.badI HY.out ⟨by rw [Ha.out]; rfl, HF.out⟩⟩
          · have HY := Lib.hid (HX.out.2 ha)
            have hq : ((a : Int) == (i : Int)) = false := beq_false_of_ne (by omega)
            clear HX ha
            by_cases hb : 20 < N
            · have HZ := Lib.hid (HY.out.1 (.inl hb))
              have hb' : (N : Int) > 20 := by omega
              clear HY hb
              repeat' (first | go_values | go_skip | go_guarded | go_step | go_upon)
              exact ⟨rfl, NPost.badI HZ.out ⟨rfl, HF.out⟩⟩
            · have hb' : ¬ (N : Int) > 20 := by omega
              by_cases hl : N < least
              · have HZ := Lib.hid (HY.out.1 (.inr hl))
                have hl' : (N : Int) < least := by omega
                clear HY hb hl
                repeat' (first | go_values | go_skip | go_guarded | go_step | go_upon)
                exact ⟨rfl, NPost.badI HZ.out ⟨rfl, HF.out⟩⟩
              · have HZ := Lib.hid (HY.out.2 (by omega))
                have hl' : ¬ (N : Int) < least := by omega
                clear HY hb hl
                repeat' (first | go_values | go_skip | go_guarded | go_step | go_upon)
                go_ret
                exact NPost.okI HZ.out ⟨rfl, HQ.out, HF.out⟩
        · have hge : (a : Int) < (i : Int) + 2 := by omega
          have HD2 : Hid (∀ j, i ≤ j → j < a + 1 → isD S.data.toList j) := Lib.hid fun j h1 h2 => by
            by_cases e : j = a
            · rw [e]; exact hD
            · exact HD.out j h1 (by omega)
          have Hnx := Lib.hid (Hnx.out (by omega))
          clear HX HD HnD hD hlt
          repeat' (first | go_values | go_skip | go_guarded | go_step | go_upon)
          refine wp_region_wb (by kernel_rfl) (by kernel_rfl) wr (Below.refl _ _) ?_
          repeat (go_big_quiet_step ((go_at_call 30; exact calls_wb_same (kd _))))
          refine wpQuiet_nil ?_
          rintro _ ⟨nr, rfl⟩
          have HQ := Lib.hid (HP.out.keep nr.2)
          have HF := Lib.hid (HE.out.trans (Else.of_below (g := g) nr.2))
          clear q0 q1 HP HE kd
          have q0 : ∀ nq : WB nr.1, nq.1.cell? ⟨g, 0, none⟩ = some (.string S) := fun nq => (HQ.out.keep nq.2).c0
          have q1 : ∀ nq : WB nr.1, nq.1.cell? ⟨g, 1, none⟩ = some (.int .i64 (a : Int)) := fun nq => (HQ.out.keep nq.2).c1
          have hm : IntKind.i64.wrap (10 * (N : Int)) = 10 * (N : Int) := wi64 (by unfold I64; omega)
          have hs : IntKind.u8.wrap ((x : Int) - 48) = ((x - 48 : Nat) : Int) := by rw [IntKind.wrap_u8]; omega
          obtain ⟨y, hy⟩ : ∃ y, x - 48 = y := ⟨_, rfl⟩
          rw [hy] at hs Hnx
          have hy9 : y ≤ 9 := by omega
          have hc : IntKind.i64.wrap (y : Int) = (y : Int) := wi64 (by unfold I64; omega)
          have hsum : IntKind.i64.wrap (10 * (N : Int) + (y : Int)) = ((10 * N + y : Nat) : Int) := by rw [wi64 (by unfold I64; omega)]; omega
          have hw1 : IntKind.i64.wrap ((a : Int) + 1) = ((a + 1 : Nat) : Int) := by rw [wi64 (by unfold I64; omega)]; omega
          obtain ⟨N2, hN2⟩ : ∃ N2, 10 * N + y = N2 := ⟨_, rfl⟩
          rw [hN2] at hsum Hnx
          obtain ⟨a2, ha2e⟩ : ∃ a2, a + 1 = a2 := ⟨_, rfl⟩
          rw [ha2e] at hw1
          have Ha2 := Lib.hid ha2e
          clear hy hN2 ha2e hw2
          repeat' (first | go_values | go_skip | go_guarded | go_step | go_upon)
          refine wp_region_wb (by kernel_rfl) (by kernel_rfl) nr.1 (Below.refl _ _) ?_
          repeat (go_big_quiet_step (fail))
          refine wpQuiet_nil ?_
          rintro _ ⟨nt, rfl⟩
          have HR := Lib.hid (HQ.out.keep nt.2)
          have HG := Lib.hid (HF.out.trans (Else.of_below (g := g) nt.2))
          have c1 := HR.out.c1
          have f1 := HR.out.free 1
          clear q0 q1 HQ HF
          repeat' (first | go_values | go_skip | go_guarded | go_step | go_upon)
          go_roundg (gk - 1)
          case rel => exact ⟨a + 1, by rw [Hnx.out], by omega, by omega, HD2, Lib.hid (by rw [Ha2.out]; exact HR.out.set1 _), Lib.hid (HG.out.setCell _ _)⟩
          case measure => omega
      · have kd := fun W => ps_digit_n x hdg W
        have HX := Lib.hid (HX.out (.inr fun q => hdg (hisD.1 q)))
        clear Hnx HD HnD hisD hdg hxb hlt hag
        repeat' (first | go_values | go_skip | go_guarded | go_step | go_upon)
        refine wp_region_wb (by kernel_rfl) (by kernel_rfl) wr (Below.refl _ _) ?_
        repeat (go_big_quiet_step ((go_at_call 30; exact calls_wb_same (kd _))))
        refine wpQuiet_nil ?_
        rintro _ ⟨nr, rfl⟩
        have HQ := Lib.hid (HP.out.keep nr.2)
        have HF := Lib.hid (HE.out.trans (Else.of_below (g := g) nr.2))
        have c1 := HQ.out.c1
        clear q0 q1 HP HE kd
        by_cases ha : a = i
        · have HY := Lib.hid (HX.out.1 ha)
          have hq : ((a : Int) == (i : Int)) = true := by rw [beq_iff_eq]; omega
          have Ha := Lib.hid ha
          clear HX ha
          repeat' (first | go_values | go_skip | go_guarded | go_step | go_upon)
          have hf := ps_fail g S a d nr.1 HQ.out
          refine Calls.mono hf ?_
          rintro _ w2 ⟨rfl, rfl⟩
          exact ⟨rfl, NPost.badI HY.out ⟨by rw [Ha.out]; rfl, HF.out⟩⟩
        · have HY := Lib.hid (HX.out.2 ha)
          have hq : ((a : Int) == (i : Int)) = false := beq_false_of_ne (by omega)
          clear HX ha
          by_cases hb : 20 < N
          · have HZ := Lib.hid (HY.out.1 (.inl hb))
            have hb' : (N : Int) > 20 := by omega
            clear HY hb
            repeat' (first | go_values | go_skip | go_guarded | go_step | go_upon)
            exact ⟨rfl, NPost.badI HZ.out ⟨rfl, HF.out⟩⟩
          · have hb' : ¬ (N : Int) > 20 := by omega
            by_cases hl : N < least
            · have HZ := Lib.hid (HY.out.1 (.inr hl))
              have hl' : (N : Int) < least := by omega
              clear HY hb hl
              repeat' (first | go_values | go_skip | go_guarded | go_step | go_upon)
              exact ⟨rfl, NPost.badI HZ.out ⟨rfl, HF.out⟩⟩
            · have HZ := Lib.hid (HY.out.2 (by omega))
              have hl' : ¬ (N : Int) < least := by omega
              clear HY hb hl
              repeat' (first | go_values | go_skip | go_guarded | go_step | go_upon)
              go_ret
              exact NPost.okI HZ.out ⟨rfl, HQ.out, HF.out⟩
    · have hlt' : ¬ (a : Int) < S.size := by omega
      have HX := Lib.hid (HX.out (.inr fun q => hlt (by have := q.1; rw [ba_len] at this; exact this)))
      have kd := True.intro
      have HNN := Lib.hid hNN
      clear Hnx HD hlt hag hNN
      repeat' (first | go_values | go_skip | go_guarded | go_step | go_upon)
      refine wp_region_wb (by kernel_rfl) (by kernel_rfl) wr (Below.refl _ _) ?_
      repeat (go_big_quiet_step ((go_at_call 30; exact calls_wb_same (kd _))))
      refine wpQuiet_nil ?_
      rintro _ ⟨nr, rfl⟩
      have HQ := Lib.hid (HP.out.keep nr.2)
      have HF := Lib.hid (HE.out.trans (Else.of_below (g := g) nr.2))
      have c1 := HQ.out.c1
      clear q0 q1 HP HE kd
      by_cases ha : a = i
      · have HY := Lib.hid (HX.out.1 ha)
        have hq : ((a : Int) == (i : Int)) = true := by rw [beq_iff_eq]; omega
        have Ha := Lib.hid ha
        clear HX ha
        repeat' (first | go_values | go_skip | go_guarded | go_step | go_upon)
        have hf := ps_fail g S a d nr.1 HQ.out
        refine Calls.mono hf ?_
        rintro _ w2 ⟨rfl, rfl⟩
        exact ⟨rfl, NPost.badI HY.out ⟨by rw [Ha.out]; rfl, HF.out⟩⟩
      · have HY := Lib.hid (HX.out.2 ha)
        have hq : ((a : Int) == (i : Int)) = false := beq_false_of_ne (by omega)
        clear HX ha
        by_cases hb : 20 < N
        · have HZ := Lib.hid (HY.out.1 (.inl hb))
          have hb' : (N : Int) > 20 := by omega
          clear HY hb
          repeat' (first | go_values | go_skip | go_guarded | go_step | go_upon)
          exact ⟨rfl, NPost.badI HZ.out ⟨rfl, HF.out⟩⟩
        · have hb' : ¬ (N : Int) > 20 := by omega
          by_cases hl : N < least
          · have HZ := Lib.hid (HY.out.1 (.inr hl))
            have hl' : (N : Int) < least := by omega
            clear HY hb hl
            repeat' (first | go_values | go_skip | go_guarded | go_step | go_upon)
            exact ⟨rfl, NPost.badI HZ.out ⟨rfl, HF.out⟩⟩
          · have HZ := Lib.hid (HY.out.2 (by omega))
            have hl' : ¬ (N : Int) < least := by omega
            clear HY hb hl
            repeat' (first | go_values | go_skip | go_guarded | go_step | go_upon)
            go_ret
            exact NPost.okI HZ.out ⟨rfl, HQ.out, HF.out⟩
end Go.Proofs.Ytnbfifmnigeolaa
