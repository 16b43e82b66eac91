/- Walks: the reference's characters: which numbers are (Is), what is written (Put), what some bytes write (more), which begins (Next). Condition: the text is of at most 10^15 bytes. -/
import Derived.Test.YtodicgphndoalaaDoorUtfNextSpec
import Derived.Test.YtodicgphndoalaaDoorProg
import Derived.Test.YtodicgphndoalaaDoorTail
namespace Go.Proofs.YtodicgphndoalaaDoor
open Go.RowKit
set_option maxRecDepth 100000 in
set_option maxHeartbeats 400000 in
theorem ref_Is (c : Int) (hc : I64 c) (w : World) :
    Calls Tryd.prog 21 #[.int .i64 c] w fun e w' => e = .returned (.bool (isI c)) ∧ w = w' := by
  have key : ∀ b : Bool, isI c = b → Calls Tryd.prog 21 #[.int .i64 c] w fun e w' => e = .returned (.bool b) ∧ w = w' := by
    intro b hb
    by_cases h1 : c < 0
    · obtain rfl : b = false := by rw [← hb, Bool.eq_false_iff, ne_eq, isI_iff]; omega
      go_enter Tryd.func21, Tryd.ntmps21
      repeat' (first | go_values | go_skip | go_guarded | go_step | go_upon)
      go_ret
      exact ⟨rfl, rfl⟩
    by_cases h2 : 1114111 < c
    · obtain rfl : b = false := by rw [← hb, Bool.eq_false_iff, ne_eq, isI_iff]; omega
      go_enter Tryd.func21, Tryd.ntmps21
      repeat' (first | go_values | go_skip | go_guarded | go_step | go_upon)
      go_ret
      exact ⟨rfl, rfl⟩
    by_cases h3 : c < 55296
    · obtain rfl : b = true := by rw [← hb, isI_iff]; omega
      go_enter Tryd.func21, Tryd.ntmps21
      repeat' (first | go_values | go_skip | go_guarded | go_step | go_upon)
      go_ret
      exact ⟨rfl, rfl⟩
    by_cases h4 : c ≤ 57343
    · obtain rfl : b = false := by rw [← hb, Bool.eq_false_iff, ne_eq, isI_iff]; omega
      go_enter Tryd.func21, Tryd.ntmps21
      repeat' (first | go_values | go_skip | go_guarded | go_step | go_upon)
      go_ret
      exact ⟨rfl, rfl⟩
    · obtain rfl : b = true := by rw [← hb, isI_iff]; omega
      go_enter Tryd.func21, Tryd.ntmps21
      repeat' (first | go_values | go_skip | go_guarded | go_step | go_upon)
      go_ret
      exact ⟨rfl, rfl⟩
  exact key _ rfl
theorem encI_not {c : Int} (h : isI c = false) : encI c = [] := by unfold encI; rw [if_neg (by rw [h]; decide)]
theorem encI_is {c : Nat} (h : isI c = true) : encI c = enc c := by unfold encI; rw [if_pos h]; rfl
set_option maxRecDepth 100000 in
set_option maxHeartbeats 1000000 in
theorem ref_Put (c : Int) (hc : I64 c) (w : World) :
    Calls Tryd.prog 18 #[.int .i64 c] w fun e w' => e = .returned (.string ⟨(encI c).toArray⟩) ∧ Below w.heap.size w w' := by
  cases hi : isI c with
  | false =>
    rw [encI_not hi]
    have hr := ref_Is c hc
    rw [hi] at hr
    go_enter Tryd.func18, Tryd.ntmps18
    repeat' (first | go_values | go_skip | go_guarded | go_step | go_upon)
    refine Calls.mono (hr _) ?_
    rintro _ w1 ⟨rfl, rfl⟩
    dsimp only
    repeat' (first | go_values | go_skip | go_guarded | go_step | go_upon)
    go_ret
    exact ⟨rfl, Below.refl _ _⟩
  | true =>
    have hb := isI_iff.1 hi
    have he : encI c = enc c.toNat := by unfold encI; rw [if_pos hi]
    rw [he]
    have hb1 := hb.1
    have hb2 := hb.2.1
    have Hb := Lib.hid hb; clear hb
    have hr := ref_Is c hc
    rw [hi] at hr
    have Hr := Lib.hid hr; clear hr
    have Hi := Lib.hid hi; clear hi
    by_cases k1 : c < 128
    · go_enter Tryd.func18, Tryd.ntmps18
      repeat' (first | go_values | go_skip | go_guarded | go_step | go_upon)
      refine Calls.mono (Hr.out _) ?_
      rintro _ w1 ⟨rfl, rfl⟩
      dsimp only
      repeat' (first | (with_reducible refine wp_conv_lit1 Tryd.underlying36 Tryd.underlying5 Tryd.underlying9 rfl _ rfl rfl ?_) | go_values | go_skip | go_guarded | go_step | go_upon)
      go_ret
      refine ⟨ret_s ?_, (Below.refl _ _).alloc (Nat.le_refl _) _⟩
      unfold enc; rw [if_pos (by omega)]
    by_cases k2 : c < 2048
    · go_enter Tryd.func18, Tryd.ntmps18
      repeat' (first | go_values | go_skip | go_guarded | go_step | go_upon)
      refine Calls.mono (Hr.out _) ?_
      rintro _ w1 ⟨rfl, rfl⟩
      dsimp only
      repeat' (first | (with_reducible refine wp_conv_lit2 Tryd.underlying36 Tryd.underlying5 Tryd.underlying9 rfl _ rfl rfl ?_) | go_values | go_skip | go_guarded | go_step | go_upon)
      go_ret
      refine ⟨ret_s ?_, (Below.refl _ _).alloc (Nat.le_refl _) _⟩
      unfold enc; rw [if_neg (by omega), if_pos (by omega)]
      try simp only [List.cons.injEq, and_true]
      try (refine ⟨?_, ?_⟩ <;> exact u8_congr (by omega))
    obtain ⟨d, hd⟩ : ∃ d : Nat, d = c.toNat / 64 := ⟨_, rfl⟩
    have hdi : c / 64 = (d : Int) := by omega
    obtain ⟨f, hf⟩ : ∃ f : Nat, f = c.toNat / 4096 := ⟨_, rfl⟩
    have hfi : c / 4096 = (f : Int) := by omega
    have hdw : IntKind.i64.wrap (d : Int) = (d : Int) := wi64 (i64_small (by omega))
    have hfw : IntKind.i64.wrap (f : Int) = (f : Int) := wi64 (i64_small (by omega))
    have Hd := Lib.hid hd; clear hd
    have Hf := Lib.hid hf; clear hf
    by_cases k3 : c < 65536
    · go_enter Tryd.func18, Tryd.ntmps18
      repeat' (first | go_values | go_skip | go_guarded | go_step | go_upon)
      refine Calls.mono (Hr.out _) ?_
      rintro _ w1 ⟨rfl, rfl⟩
      dsimp only
      repeat' (first | (with_reducible refine wp_conv_lit3 Tryd.underlying36 Tryd.underlying5 Tryd.underlying9 rfl _ rfl rfl ?_) | go_values | go_skip | go_guarded | go_step | go_upon)
      go_ret
      refine ⟨ret_s ?_, (Below.refl _ _).alloc (Nat.le_refl _) _⟩
      unfold enc; rw [if_neg (by omega), if_neg (by omega), if_pos (by omega)]
      try simp only [List.cons.injEq, and_true]
      try (refine ⟨?_, ?_, ?_⟩ <;> exact u8_congr (by omega))
    · go_enter Tryd.func18, Tryd.ntmps18
      repeat' (first | go_values | go_skip | go_guarded | go_step | go_upon)
      refine Calls.mono (Hr.out _) ?_
      rintro _ w1 ⟨rfl, rfl⟩
      dsimp only
      repeat' (first | (with_reducible refine wp_conv_lit4 Tryd.underlying36 Tryd.underlying5 Tryd.underlying9 rfl _ rfl rfl ?_) | go_values | go_skip | go_guarded | go_step | go_upon)
      go_ret
      refine ⟨ret_s ?_, (Below.refl _ _).alloc (Nat.le_refl _) _⟩
      unfold enc; rw [if_neg (by omega), if_neg (by omega), if_neg (by omega)]
      try simp only [List.cons.injEq, and_true]
      try (refine ⟨?_, ?_, ?_, ?_⟩ <;> exact u8_congr (by omega))
end Go.Proofs.YtodicgphndoalaaDoor
