/- Walks: how a byte is written (the reference's letter, Sign, written). Conditions: a byte. -/
import Derived.Test.YtnbfifmnigeolaaDoorTxtSpec
import Derived.Test.YtnbfifmnigeolaaDoorAnyC
import Derived.Deep.LoopGhost
import Derived.Deep.CutBlock
import Derived.Lib.SlBytesConst
namespace Go.Proofs.YtnbfifmnigeolaaDoor
open Go.RowKit
set_option maxRecDepth 100000 in
theorem ref_letter (n : Nat) (hn : n < 16) (w : World) : Calls Tryd.prog 55 #[.int .u8 (n : Nat)] w fun e w' => e = .returned (.string ⟨[hexd n].toArray⟩) ∧ Below w.heap.size w w' := by
  by_cases h : n < 10
  · have h1 : (n : Int) < 10 := by omega
    have hw : IntKind.u8.wrap (48 + (n : Int)) = ((48 + n : Nat) : Int) := by rw [IntKind.wrap_u8]; omega
    have e : hexd n = u8 (48 + n) := by unfold hexd; rw [if_pos h]
    rw [e]
    clear e h
    generalize 48 + n = m at hw ⊢
    go_enter Tryd.func55, Tryd.ntmps55
    repeat' (first | (with_reducible refine wp_conv_lit1 Tryd.underlying62 Tryd.underlying5 Tryd.underlying9 rfl _ rfl rfl ?_) | go_values | go_skip | go_guarded | go_step | go_upon)
    go_ret
    exact ⟨rfl, (Below.refl _ _).alloc (Nat.le_refl _) _⟩
  · have h1 : ¬ (n : Int) < 10 := by omega
    have hw : IntKind.u8.wrap (97 + (n : Int)) = 97 + (n : Int) := by rw [IntKind.wrap_u8]; omega
    have hw2 : IntKind.u8.wrap (97 + (n : Int) - 10) = ((87 + n : Nat) : Int) := by rw [IntKind.wrap_u8]; omega
    have e : hexd n = u8 (87 + n) := by unfold hexd; rw [if_neg h]
    rw [e]
    clear e h
    generalize 87 + n = m at hw2 ⊢
    go_enter Tryd.func55, Tryd.ntmps55
    repeat' (first | (with_reducible refine wp_conv_lit1 Tryd.underlying62 Tryd.underlying5 Tryd.underlying9 rfl _ rfl rfl ?_) | go_values | go_skip | go_guarded | go_step | go_upon)
    go_ret
    exact ⟨rfl, (Below.refl _ _).alloc (Nat.le_refl _) _⟩
theorem sgL_get (k : Nat) (hk : k < 14) : sgL[k]? = some (sgL.getD k 0) := by
  rw [List.getD_eq_getElem?_getD, List.getElem?_eq_getElem (by exact hk)]; rfl
abbrev sgC : Array Value := #[.int .u8 92, .int .u8 40, .int .u8 41, .int .u8 91, .int .u8 93, .int .u8 123, .int .u8 125, .int .u8 46, .int .u8 42, .int .u8 43, .int .u8 63, .int .u8 124, .int .u8 94, .int .u8 36]
theorem sgC_get (k : Nat) (hk : k < 14) : sgC[k]? = some (.int .u8 ((sgL.getD k 0 : Nat) : Int)) := by
  rcases (by omega : k = 0 ∨ k = 1 ∨ k = 2 ∨ k = 3 ∨ k = 4 ∨ k = 5 ∨ k = 6 ∨ k = 7 ∨ k = 8 ∨ k = 9 ∨ k = 10 ∨ k = 11 ∨ k = 12 ∨ k = 13) with rfl | rfl | rfl | rfl | rfl | rfl | rfl | rfl | rfl | rfl | rfl | rfl | rfl | rfl <;> rfl
theorem sgL_lt (k : Nat) : sgL.getD k 0 < 256 := by
  by_cases hk : k < 14
  · rcases (by omega : k = 0 ∨ k = 1 ∨ k = 2 ∨ k = 3 ∨ k = 4 ∨ k = 5 ∨ k = 6 ∨ k = 7 ∨ k = 8 ∨ k = 9 ∨ k = 10 ∨ k = 11 ∨ k = 12 ∨ k = 13) with rfl | rfl | rfl | rfl | rfl | rfl | rfl | rfl | rfl | rfl | rfl | rfl | rfl | rfl <;> decide
  · rw [List.getD_eq_getElem?_getD, List.getElem?_eq_none (by show 14 ≤ k; omega)]; decide
set_option maxRecDepth 100000 in
theorem ref_Sign (c : Int) (w : World) : Calls Tryd.prog 54 #[.int .i64 c] w fun e w' => (∃ B, e = .returned (.bool B) ∧ (B = true ↔ ∃ k, k < 14 ∧ ((sgL.getD k 0 : Nat) : Int) = c)) ∧ Below w.heap.size w w' := by
  have hcv := Lib.run_convert_bytes_const (P := Tryd.prog) w 62 5 sgC 14 14 Tryd.underlying62 Tryd.underlying5
  have hX : (w.alloc (.cells sgC 5 (14, 15))).heap[w.heap.size]? = some (.cells sgC 5 (14, 15)) := Go.heap_alloc_new _ _
  have hB : Below w.heap.size w (w.alloc (.cells sgC 5 (14, 15))) := (Below.refl _ _).alloc (Nat.le_refl _) _
  change _ = Result.ok _ (w.alloc (.cells sgC 5 (14, 15))) at hcv
  unfold sgC at hcv
  have HX := Lib.hid hX
  have HB := Lib.hid hB
  clear hX hB
  go_enter Tryd.func54, Tryd.ntmps54
  repeat' (first | go_values | go_skip | go_guarded | go_step | go_upon)
  clear hcv
  refine gen_wd (fun W => W.heap[w.heap.size]? = some (.cells sgC 5 (14, 15)) ∧ Below w.heap.size w W) ⟨HX.out, HB.out⟩ ?_
  clear HX HB
  rintro w1 ⟨hX, hB⟩
  have HX := Lib.hid hX
  have HB := Lib.hid hB
  clear hX hB
  generalize hg : w.heap.size = g at HX ⊢
  rw [hg] at HB
  go_loopg [8] 14 (fun gk s8 wr => ∃ k : Nat, s8 = .int .i64 k ∧ k + gk = 14 ∧ Hid (∀ j, j < k → ((sgL.getD j 0 : Nat) : Int) ≠ c) ∧ Hid (wr.heap[g]? = some (.cells sgC 5 (14, 15))) ∧ Hid (Below g w wr))
  case atStart => exact ⟨0, rfl, rfl, Lib.hid (fun j hj => by omega), HX, HB⟩
  case round =>
    clear HX HB
    obtain ⟨k, rfl, hk, HN, HX, HB⟩ := hrel
    by_cases hk4 : k < 14
    · have hk5 : (k : Int) < 14 := by omega
      have c0 : wr.cell? ⟨g, k, none⟩ = some (.int .u8 ((sgL.getD k 0 : Nat) : Int)) := (cell_of_row _ _ k _ _ _ HX.out).trans (sgC_get k hk4)
      have hlt := sgL_lt k
      have HN2 : Hid (((sgL.getD k 0 : Nat) : Int) ≠ c → ∀ j, j < k + 1 → ((sgL.getD j 0 : Nat) : Int) ≠ c) := Lib.hid fun h j hj => by
        by_cases e : j = k
        · rw [e]; exact h
        · exact HN.out j (by omega)
      have HY : Hid (((sgL.getD k 0 : Nat) : Int) = c → ∃ k, k < 14 ∧ ((sgL.getD k 0 : Nat) : Int) = c) := Lib.hid fun h => ⟨k, hk4, h⟩
      generalize sgL.getD k 0 = x at c0 HN2 HY hlt
      have hw : IntKind.i64.wrap (x : Int) = (x : Int) := wi64 (by unfold I64; omega)
      by_cases he : (x : Int) = c
      · have heb : ((x : Int) == c) = true := by rw [beq_iff_eq]; exact he
        have HY2 := Lib.hid (HY.out he)
        clear he HY HN2 HN
        repeat' (first | go_values | go_skip | go_guarded | go_step | go_upon)
        go_ret
        exact ⟨⟨true, rfl, ⟨fun _ => HY2.out, fun _ => rfl⟩⟩, by rw [hg]; exact HB.out⟩
      · have heb : ((x : Int) == c) = false := beq_false_of_ne he
        have HN3 := Lib.hid (HN2.out he)
        clear he HY HN2 HN
        repeat' (first | go_values | go_skip | go_guarded | go_step | go_upon)
        go_roundg (gk - 1)
        case rel => exact ⟨k + 1, by go_num, by omega, HN3, HX, HB⟩
        case measure => omega
    · obtain rfl : k = 14 := by omega
      repeat' (first | go_values | go_skip | go_guarded | go_step | go_upon)
      go_ret
      exact ⟨⟨false, rfl, ⟨fun h => (by cases h), fun ⟨j, hj, h⟩ => absurd h (HN.out j hj)⟩⟩, by rw [hg]; exact HB.out⟩
theorem sgn_iff {n : Nat} : (∃ k, k < 14 ∧ ((sgL.getD k 0 : Nat) : Int) = (n : Int)) ↔ n ∈ sgL := by
  constructor
  · rintro ⟨k, hk, h⟩
    have h2 : sgL.getD k 0 = n := by omega
    rw [← h2]
    exact List.mem_of_getElem? (sgL_get k hk)
  · intro h
    obtain ⟨k, hk⟩ := List.getElem?_of_mem h
    have hl : k < 14 := (List.getElem?_eq_some_iff.1 hk).1
    refine ⟨k, hl, ?_⟩
    rw [sgL_get k hl] at hk
    simp only [Option.some.injEq] at hk
    rw [hk]
theorem ba_lits (a b : List UInt8) : (⟨a.toArray⟩ : ByteArray) ++ ⟨b.toArray⟩ = ⟨(a ++ b).toArray⟩ := by
  apply ByteArray.ext
  rw [ByteArray.data_append]
  simp
set_option maxRecDepth 100000 in
set_option maxHeartbeats 1000000 in
theorem ref_written (n : Nat) (hn : n < 256) (inn : Bool) (w : World) : Calls Tryd.prog 38 #[.int .u8 (n : Nat), .bool inn] w fun e w' => e = .returned (.string ⟨(wrt n inn).toArray⟩) ∧ Below w.heap.size w w' := by
  obtain ⟨R, hR⟩ : ∃ R, wrt n inn = R := ⟨_, rfl⟩
  have HR := Lib.hid hR
  rw [hR]
  clear hR
  by_cases h1 : n = 10
  · subst h1
    have e : [92, 110] = R := HR.out
    subst e
    go_enter Tryd.func38, Tryd.ntmps38
    repeat' (first | go_values | go_skip | go_guarded | go_step | go_upon)
    go_ret
    exact ⟨rfl, Below.refl _ _⟩
  have b1 : ((n : Int) == 10) = false := beq_false_of_ne (by omega)
  by_cases h2 : n = 9
  · subst h2
    have e : [92, 116] = R := HR.out
    subst e
    go_enter Tryd.func38, Tryd.ntmps38
    repeat' (first | go_values | go_skip | go_guarded | go_step | go_upon)
    go_ret
    exact ⟨rfl, Below.refl _ _⟩
  have b2 : ((n : Int) == 9) = false := beq_false_of_ne (by omega)
  by_cases h3 : n = 13
  · subst h3
    have e : [92, 114] = R := HR.out
    subst e
    go_enter Tryd.func38, Tryd.ntmps38
    repeat' (first | go_values | go_skip | go_guarded | go_step | go_upon)
    go_ret
    exact ⟨rfl, Below.refl _ _⟩
  have b3 : ((n : Int) == 13) = false := beq_false_of_ne (by omega)
  have H4 : Hid ((n ∈ sgL ∨ (inn = true ∧ (n = 45 ∨ n = 47))) → R = [92, u8 n]) := Lib.hid fun h => by
    rw [← HR.out]; unfold wrt; rw [if_neg h1, if_neg h2, if_neg h3, if_pos h]
  have H5 : Hid (¬ (n ∈ sgL ∨ (inn = true ∧ (n = 45 ∨ n = 47))) → (32 < n ∧ n < 127) → R = [u8 n]) := Lib.hid fun h h' => by
    rw [← HR.out]; unfold wrt; rw [if_neg h1, if_neg h2, if_neg h3, if_neg h, if_pos h']
  have H6 : Hid (¬ (n ∈ sgL ∨ (inn = true ∧ (n = 45 ∨ n = 47))) → ¬ (32 < n ∧ n < 127) → R = [92, 120, hexd (n / 16), hexd (n % 16)]) := Lib.hid fun h h' => by
    rw [← HR.out]; unfold wrt; rw [if_neg h1, if_neg h2, if_neg h3, if_neg h, if_neg h']
  clear HR h1 h2 h3
  have hw : IntKind.i64.wrap (n : Int) = (n : Int) := wi64 (by unfold I64; omega)
  have hS := ref_Sign n w
  rw [sgn_iff] at hS
  have hcat : (⟨#[92]⟩ : ByteArray) ++ ⟨#[u8 n]⟩ = ⟨#[92, u8 n]⟩ := ba_lits [92] [u8 n]
  go_enter Tryd.func38, Tryd.ntmps38
  repeat' (first | go_values | go_skip | go_guarded | go_step | go_upon)
  refine Calls.mono (hS) ?_
  rintro _ w1 ⟨⟨B, rfl, hBi⟩, hb1⟩
  dsimp only
  have HB := Lib.hid hb1
  clear hS hb1
  -- the letter stands behind a backslash?
  by_cases hq : n ∈ sgL ∨ (inn = true ∧ (n = 45 ∨ n = 47))
  · have e := H4.out hq
    subst e
    clear H4 H5 H6
    cases B with
    | true =>
      clear hBi hq
      repeat' (first | (with_reducible refine wp_conv_lit1 Tryd.underlying62 Tryd.underlying5 Tryd.underlying9 rfl _ rfl rfl ?_) | go_values | go_skip | go_guarded | go_step | go_upon)
      go_ret
      exact ⟨by first | rfl | (congr 2), HB.out.alloc HB.out.size _⟩
    | false =>
      have hq2 : inn = true ∧ (n = 45 ∨ n = 47) := by
        rcases hq with h | h
        · exact absurd (hBi.2 h) (by decide)
        · exact h
      obtain ⟨rfl, hq3⟩ := hq2
      clear hBi hq
      rcases hq3 with rfl | rfl
      · repeat' (first | (with_reducible refine wp_conv_lit1 Tryd.underlying62 Tryd.underlying5 Tryd.underlying9 rfl _ rfl rfl ?_) | go_values | go_skip | go_guarded | go_step | go_upon)
        go_ret
        exact ⟨by first | rfl | (congr 2), HB.out.alloc HB.out.size _⟩
      · repeat' (first | (with_reducible refine wp_conv_lit1 Tryd.underlying62 Tryd.underlying5 Tryd.underlying9 rfl _ rfl rfl ?_) | go_values | go_skip | go_guarded | go_step | go_upon)
        go_ret
        exact ⟨by first | rfl | (congr 2), HB.out.alloc HB.out.size _⟩
  · have hnB : B = false := by
      cases B with
      | true => exact absurd (.inl (hBi.1 rfl)) hq
      | false => rfl
    subst hnB
    have H5' := Lib.hid (H5.out hq)
    have H6' := Lib.hid (H6.out hq)
    have hin : inn = false ∨ (inn = true ∧ ((n : Int) == 45) = false ∧ ((n : Int) == 47) = false) := by
      cases inn with
      | false => exact .inl rfl
      | true => exact .inr ⟨rfl, beq_false_of_ne (fun h => hq (.inr ⟨rfl, .inl (by omega)⟩)), beq_false_of_ne (fun h => hq (.inr ⟨rfl, .inr (by omega)⟩))⟩
    clear hBi hq H4 H5 H6
    have hd1 : (n : Int) / 16 = ((n / 16 : Nat) : Int) := by omega
    have hd2 : (n : Int) % 16 = ((n % 16 : Nat) : Int) := by omega
    have hl1 := fun w => ref_letter (n / 16) (by omega) w
    have hl2 := fun w => ref_letter (n % 16) (by omega) w
    by_cases hr : 32 < n ∧ n < 127
    · have e := H5'.out hr
      subst e
      have hr1 : (33 : Int) ≤ n := by omega
      have hr2 : (n : Int) ≤ 126 := by omega
      clear H5' H6' hl1 hl2 hd1 hd2
      rcases hin with rfl | ⟨rfl, b4, b5⟩
      · repeat' (first | (with_reducible refine wp_conv_lit1 Tryd.underlying62 Tryd.underlying5 Tryd.underlying9 rfl _ rfl rfl ?_) | go_values | go_skip | go_guarded | go_step | go_upon)
        go_ret
        exact ⟨rfl, HB.out.alloc HB.out.size _⟩
      · repeat' (first | (with_reducible refine wp_conv_lit1 Tryd.underlying62 Tryd.underlying5 Tryd.underlying9 rfl _ rfl rfl ?_) | go_values | go_skip | go_guarded | go_step | go_upon)
        go_ret
        exact ⟨rfl, HB.out.alloc HB.out.size _⟩
    · have e := H6'.out hr
      subst e
      have hc1 : (⟨#[92, 120]⟩ : ByteArray) ++ ⟨#[hexd (n / 16)]⟩ = ⟨#[92, 120, hexd (n / 16)]⟩ := ba_lits [92, 120] [hexd (n / 16)]
      have hc2 : (⟨#[92, 120, hexd (n / 16)]⟩ : ByteArray) ++ ⟨#[hexd (n % 16)]⟩ = ⟨#[92, 120, hexd (n / 16), hexd (n % 16)]⟩ := ba_lits [92, 120, hexd (n / 16)] [hexd (n % 16)]
      obtain ⟨x1, hx1⟩ : ∃ x, hexd (n / 16) = x := ⟨_, rfl⟩
      obtain ⟨x2, hx2⟩ : ∃ x, hexd (n % 16) = x := ⟨_, rfl⟩
      rw [hx1] at hl1 hc1 hc2
      rw [hx2] at hl2 hc2
      have HX1 := Lib.hid hx1
      have HX2 := Lib.hid hx2
      clear hx1 hx2
      generalize n / 16 = m1 at hl1 hd1
      generalize n % 16 = m2 at hl2 hd2
      have hr' : ¬ (33 : Int) ≤ n ∨ ((33 : Int) ≤ n ∧ ¬ (n : Int) ≤ 126) := by omega
      clear H5' H6' hr
      rcases hin with rfl | ⟨rfl, b4, b5⟩ <;> rcases hr' with hr1 | ⟨hr1, hr2⟩
      all_goals
        repeat' (first | go_values | go_skip | go_guarded | go_step | go_upon)
        refine Calls.mono (hl1 _) ?_
        rintro _ w2 ⟨rfl, hb2⟩
        dsimp only
        have HB2 := Lib.hid (HB.out.trans (hb2.mono HB.out.size))
        clear hb2 HB hl1
        repeat' (first | go_values | go_skip | go_guarded | go_step | go_upon)
        refine Calls.mono (hl2 _) ?_
        rintro _ w3 ⟨rfl, hb3⟩
        dsimp only
        have HB3 := Lib.hid (HB2.out.trans (hb3.mono HB2.out.size))
        clear hb3 HB2 hl2
        repeat' (first | go_values | go_skip | go_guarded | go_step | go_upon)
        go_ret
        exact ⟨(by have h1 := HX1.out; have h2 := HX2.out; subst h1 h2; rfl), HB3.out⟩
end Go.Proofs.YtnbfifmnigeolaaDoor
