/- Walks: how a set is written (fretsawref06.setText, regex.setText). Condition: the table of math/bits.TrailingZeros64 lies. -/
import Derived.Test.YtnbfifmnigeolaaDoorTxtByte2
import Derived.Test.YtnbfifmnigeolaaDoorSetOf
import Derived.Test.YtnbfifmnigeolaaDoorSetOps
import Derived.Test.YtnbfifmnigeolaaDoorSetBytes
namespace Go.Proofs.YtnbfifmnigeolaaDoor
open Go.RowKit
theorem noLn_is : (fun b => !ofL [10] b) = noLn := by
  funext b
  unfold noLn ofL
  simp
theorem part_len (p : Nat → Bool) : ∀ l : List Nat, (l.filter p).length + (l.filter fun b => !p b).length = l.length
  | [] => rfl
  | a :: l => by
    have ih := part_len p l
    by_cases h : p a = true
    · rw [List.filter_cons_of_pos h, List.filter_cons_of_neg (by rw [h]; decide)]
      simp only [List.length_cons]; omega
    · rw [List.filter_cons_of_neg h, List.filter_cons_of_pos (by simpa using h)]
      simp only [List.length_cons]; omega
theorem bytes_part (p : Nat → Bool) : (bytesTo p 256).length + (bytesTo (fun b => !p b) 256).length = 256 := by
  have := part_len p (List.range 256)
  rw [List.length_range] at this
  exact this
theorem bytes_lt (p : Nat → Bool) : ∀ x ∈ bytesTo p 256, x < 256 := fun _ h => bytesTo_lt h
/-- the steps of setTx -/
structure STx (p : Nat → Bool) (B : Bool) (R : List UInt8) : Prop where
  one : (bytesTo p 256).length = 1 → R = wrt ((bytesTo p 256).getD 0 0) false
  ln : (bytesTo p 256).length ≠ 1 → B = true → R = [46]
  nil : (bytesTo p 256).length ≠ 1 → B = false → (bytesTo p 256).length = 0 → R = [91, 94, 92, 120, 48, 48, 45, 92, 120, 102, 102, 93]
  all : (bytesTo p 256).length ≠ 1 → B = false → (bytesTo p 256).length = 256 → R = [91, 92, 120, 48, 48, 45, 92, 120, 102, 102, 93]
  most : (bytesTo p 256).length ≠ 1 → B = false → (bytesTo p 256).length ≠ 256 → 128 < (bytesTo p 256).length → R = [91, 94] ++ prt (bytesTo (fun b => !p b) 256) ++ [93]
  few : (bytesTo p 256).length ≠ 1 → B = false → (bytesTo p 256).length ≠ 0 → ¬ 128 < (bytesTo p 256).length → R = [91] ++ prt (bytesTo p 256) ++ [93]
theorem stx (p : Nat → Bool) (B : Bool) (hB : B = true ↔ W p 0 = W noLn 0 ∧ W p 1 = W noLn 1 ∧ W p 2 = W noLn 2 ∧ W p 3 = W noLn 3) : STx p B (setTx p) := by
  have hf : B = false → ¬ (W p 0 = W noLn 0 ∧ W p 1 = W noLn 1 ∧ W p 2 = W noLn 2 ∧ W p 3 = W noLn 3) := fun h h' => by rw [hB.2 h'] at h; cases h
  unfold setTx
  refine ⟨fun h => if_pos h, fun h1 h2 => ?_, fun h1 h2 h3 => ?_, fun h1 h2 h3 => ?_, fun h1 h2 h3 h4 => ?_, fun h1 h2 h3 h4 => ?_⟩
  · rw [if_neg h1, if_pos (hB.1 h2)]
  · rw [if_neg h1, if_neg (hf h2), if_pos h3]
  · rw [if_neg h1, if_neg (hf h2), if_neg (by omega), if_pos h3]
  · rw [if_neg h1, if_neg (hf h2), if_neg (by omega), if_neg h3, if_pos h4]
  · rw [if_neg h1, if_neg (hf h2), if_neg h3, if_neg (by omega), if_neg h4]
theorem eq4 (a0 a1 a2 a3 b0 b1 b2 b3 : Nat) : (((a0 : Int) == (b0 : Int)) && (((a1 : Int) == (b1 : Int)) && (((a2 : Int) == (b2 : Int)) && ((a3 : Int) == (b3 : Int))))) = true ↔ (a0 = b0 ∧ a1 = b1 ∧ a2 = b2 ∧ a3 = b3) := by
  simp only [Bool.and_eq_true, beq_iff_eq, Int.natCast_inj]
set_option maxRecDepth 100000 in
set_option maxHeartbeats 4000000 in
theorem ref_setText (p : Nat → Bool) (w : World) : Calls Tryd.prog 24 #[vS p] w fun e w' => e = .returned (.string ⟨(setTx p).toArray⟩) ∧ Below w.heap.size w w' := by
  obtain ⟨R, hR⟩ : ∃ R, setTx p = R := ⟨_, rfl⟩
  have Hst := Lib.hid (stx p _ (eq4 (W p 0) (W p 1) (W p 2) (W p 3) (W noLn 0) (W noLn 1) (W noLn 2) (W noLn 3)))
  rw [hR] at Hst ⊢
  obtain ⟨Eq, hEq⟩ : ∃ B, (((W p 0 : Nat) : Int) == ((W noLn 0 : Nat) : Int) && (((W p 1 : Nat) : Int) == ((W noLn 1 : Nat) : Int) && (((W p 2 : Nat) : Int) == ((W noLn 2 : Nat) : Int) && ((W p 3 : Nat) : Int) == ((W noLn 3 : Nat) : Int)))) = B := ⟨_, rfl⟩
  rw [hEq] at Hst
  obtain ⟨L, hL⟩ : ∃ L, bytesTo p 256 = L := ⟨_, rfl⟩
  obtain ⟨L2, hL2⟩ : ∃ L, bytesTo (fun b => !p b) 256 = L := ⟨_, rfl⟩
  have Hst2 : Hid (STx p Eq R) := Hst
  have hlt := bytes_lt p
  have hlt2 := bytes_lt fun b => !p b
  have hpart := bytes_part p
  rw [hL] at hlt hpart
  rw [hL2] at hlt2 hpart
  obtain ⟨n, hn⟩ : ∃ n, n = L.length := ⟨_, rfl⟩
  obtain ⟨n2, hn2⟩ : ∃ n, n = L2.length := ⟨_, rfl⟩
  rw [← hn, ← hn2] at hpart
  have K1 : Hid (n = 1 → R = wrt (L.getD 0 0) false) := Lib.hid fun h => by have := Hst.out.one; rw [hL, ← hn] at this; exact this h
  have K2 : Hid (n ≠ 1 → Eq = true → R = [46]) := Lib.hid fun h => by have := Hst.out.ln; rw [hL, ← hn] at this; exact this h
  have K3 : Hid (n ≠ 1 → Eq = false → n = 0 → R = [91, 94, 92, 120, 48, 48, 45, 92, 120, 102, 102, 93]) := Lib.hid fun h => by have := Hst.out.nil; rw [hL, ← hn] at this; exact this h
  have K4 : Hid (n ≠ 1 → Eq = false → n = 256 → R = [91, 92, 120, 48, 48, 45, 92, 120, 102, 102, 93]) := Lib.hid fun h => by have := Hst.out.all; rw [hL, ← hn] at this; exact this h
  have K5 : Hid (n ≠ 1 → Eq = false → n ≠ 256 → 128 < n → R = [91, 94] ++ prt L2 ++ [93]) := Lib.hid fun h => by have := Hst.out.most; rw [hL, hL2, ← hn] at this; exact this h
  have K6 : Hid (n ≠ 1 → Eq = false → n ≠ 0 → ¬ 128 < n → R = [91] ++ prt L ++ [93]) := Lib.hid fun h => by have := Hst.out.few; rw [hL, ← hn] at this; exact this h
  obtain ⟨S, hS⟩ : ∃ S : ByteArray, S = ⟨(L.map u8).toArray⟩ := ⟨_, rfl⟩
  have hsz : S.size = n := by rw [hS, hn]; simp [ByteArray.size]
  have HS := Lib.hid hS
  have Hn := Lib.hid hn
  have Hn2 := Lib.hid hn2
  have Hlt := Lib.hid hlt
  have Hlt2 := Lib.hid hlt2
  have H10 : Hid (ofL (⟨#[10]⟩ : ByteArray).data.toList = ofL [10]) := Lib.hid rfl
  have hBy := fun W => ref_Bytes p W
  have hBy2 := fun W => ref_Bytes (fun b => !p b) W
  have hNot := fun W => ref_Not p W
  have hNot2 := fun W => ref_Not (ofL [10]) W
  rw [noLn_is] at hNot2
  have hOf : ∀ W, Calls Tryd.prog 40 #[.string ⟨#[10]⟩] W fun e w' => e = .returned (vS (ofL [10])) ∧ Below W.heap.size W w' := fun W => ref_Of ⟨#[10]⟩ (by decide) W
  rw [hL, ← hS] at hBy
  rw [hL2] at hBy2
  have hP1 : n ≤ 256 := by omega
  clear hR hL hL2 hn hn2 hS hlt hlt2 Hst Hst2 H10
  have HA : Hid (SetAt (w.alloc (.cells (sc p) 25)) w.heap.size p) := Lib.hid (Go.heap_alloc_new _ _)
  have HB : Hid (Below w.heap.size w (w.alloc (.cells (sc p) 25))) := Lib.hid ((Below.refl _ _).alloc (Nat.le_refl _) _)
  have hsz2 : (bytesTo (fun b => !p b) 256).length = n2 ∨ True := .inr trivial
  go_enter Tryd.func24, Tryd.ntmps24
  repeat' (first | go_values | go_skip | go_guarded | go_step | go_upon)
  refine Calls.mono (hBy _) ?_
  rintro _ w1 ⟨rfl, hb1⟩
  dsimp only
  have A1 := Lib.hid (HA.out.keep hb1)
  have B1 := Lib.hid (HB.out.trans (hb1.mono HB.out.size))
  clear hb1 HA HB hBy hsz2
  by_cases h1 : n = 1
  · have e := K1.out h1
    subst e
    have hx := Hlt.out (L.getD 0 0) (by
      rw [List.getD_eq_getElem?_getD, List.getElem?_eq_getElem (by rw [← Hn.out, h1]; decide)]
      exact List.getElem_mem _)
    have i0 := fun W => str_at L Hlt.out 0 (by rw [← Hn.out, h1]; decide) W
    rw [← HS.out] at i0
    have hR1 := fun W => ref_written (L.getD 0 0) hx false W
    subst h1
    clear K1 K2 K3 K4 K5 K6 hBy2 hNot hNot2 hOf hEq hpart
    have HW : Hid (wrt (L.getD 0 0) false = wrt (L.getD 0 0) false) := Lib.hid rfl
    change ∀ W, (Instr.index 9 (.string S) (.int .i64 0)).run Tryd.prog W = _ at i0
    repeat' (first | go_values | go_skip | go_guarded | go_step | go_upon)
    refine Calls.mono (hR1 _) ?_
    rintro _ w2 ⟨rfl, hb2⟩
    dsimp only
    repeat' (first | go_values | go_skip | go_guarded | go_step | go_upon)
    go_ret
    exact ⟨rfl, B1.out.trans (hb2.mono B1.out.size)⟩
  have hn1 : ((n : Int) == 1) = false := beq_false_of_ne (by omega)
  have K2' := Lib.hid (K2.out h1)
  have K3' := Lib.hid (K3.out h1)
  have K4' := Lib.hid (K4.out h1)
  have K5' := Lib.hid (K5.out h1)
  have K6' := Lib.hid (K6.out h1)
  clear K1 K2 K3 K4 K5 K6 h1
  have q0 : ∀ nq : WB w1, nq.1.cell? ⟨w.heap.size, 0, none⟩ = some (.int .u64 (W p 0 : Nat)) := fun nq => (A1.out.keep nq.2).c0
  have q1 : ∀ nq : WB w1, nq.1.cell? ⟨w.heap.size, 1, none⟩ = some (.int .u64 (W p 1 : Nat)) := fun nq => (A1.out.keep nq.2).c1
  have q2 : ∀ nq : WB w1, nq.1.cell? ⟨w.heap.size, 2, none⟩ = some (.int .u64 (W p 2 : Nat)) := fun nq => (A1.out.keep nq.2).c2
  have q3 : ∀ nq : WB w1, nq.1.cell? ⟨w.heap.size, 3, none⟩ = some (.int .u64 (W p 3 : Nat)) := fun nq => (A1.out.keep nq.2).c3
  cases Eq with
  | true =>
    have e := K2'.out rfl
    subst e
    clear K2' K3' K4' K5' K6'
    repeat' (go_not_at_region 4; first | go_values | go_skip | go_guarded | go_step | go_upon)
    refine wp_region_anyC (by kernel_rfl) w1 ?_
    refine wpAnyC_take (i := 0) (v := _) rfl (by kernel_rfl) (by kernel_rfl) (by kernel_rfl) (fun _ _ _ h => h) (Or.inl ⟨by rfl, fun w ⟨nq, hw⟩ => by (subst hw; go_simp <;> with_reducible rfl)⟩) (by go_simp <;> with_reducible rfl) ?_
    refine genC06 (fun W => Below w1.heap.size w1 W) (Below.refl _ _).drew ?_
    intro w2 hb2
    refine wpAnyC_ready (CW.of (hb2)) (rs := [1]) (by kernel_rfl) (by simp) ?_
    refine (AllReadyC.cons rfl (fun K hK => ?_) AllReadyC.nil)
    go_simp
    refine Calls.mono (hOf w2) ?_
    rintro _ w3 ⟨rfl, hb3⟩
    dsimp only
    refine hK _ _ ?_
    clear hK K
    have hb4 := hb2.trans (hb3.mono hb2.size)
    refine wpAnyC_ready (CW.of (hb4)) (rs := [2]) (by kernel_rfl) (by simp) ?_
    refine (AllReadyC.cons rfl (fun K hK => ?_) AllReadyC.nil)
    go_simp
    refine Calls.mono (hNot2 w3) ?_
    rintro _ w5 ⟨rfl, hb5⟩
    dsimp only
    refine hK _ _ ?_
    clear hK K
    have hb6 := hb4.trans (hb5.mono hb4.size)
    refine wpAnyC_take (i := 3) (v := _) rfl (by kernel_rfl) (by kernel_rfl) (by kernel_rfl) (fun _ _ _ h => h) (Or.inl ⟨by rfl, fun w ⟨nq, hw⟩ => by (subst hw; go_simp <;> with_reducible rfl)⟩) (by go_simp <;> with_reducible rfl) ?_
    refine wpAnyC_done (by kernel_rfl) (CW.of (hb6)) (by go_simp <;> with_reducible rfl) ?_
    have A6 := Lib.hid (A1.out.keep hb6)
    have B6 := Lib.hid (B1.out.trans (hb6.mono B1.out.size))
    clear hb2 hb3 hb4 hb5 hb6 A1 B1 q0 q1 q2 q3 hOf hNot2 hEq
    repeat' (first | go_values | go_skip | go_guarded | go_step | go_upon)
    go_ret
    exact ⟨rfl, B6.out⟩
  | false =>
    have L3 := Lib.hid (K3'.out rfl)
    have L4 := Lib.hid (K4'.out rfl)
    have L5 := Lib.hid (K5'.out rfl)
    have L6 := Lib.hid (K6'.out rfl)
    clear K2' K3' K4' K5' K6'
    repeat' (go_not_at_region 4; first | go_values | go_skip | go_guarded | go_step | go_upon)
    refine wp_region_anyC (by kernel_rfl) w1 ?_
    refine wpAnyC_take (i := 0) (v := _) rfl (by kernel_rfl) (by kernel_rfl) (by kernel_rfl) (fun _ _ _ h => h) (Or.inl ⟨by rfl, fun w ⟨nq, hw⟩ => by (subst hw; go_simp <;> with_reducible rfl)⟩) (by go_simp <;> with_reducible rfl) ?_
    refine genC06 (fun W => Below w1.heap.size w1 W) (Below.refl _ _).drew ?_
    intro w2 hb2
    refine wpAnyC_ready (CW.of (hb2)) (rs := [1]) (by kernel_rfl) (by simp) ?_
    refine (AllReadyC.cons rfl (fun K hK => ?_) AllReadyC.nil)
    go_simp
    refine Calls.mono (hOf w2) ?_
    rintro _ w3 ⟨rfl, hb3⟩
    dsimp only
    refine hK _ _ ?_
    clear hK K
    have hb4 := hb2.trans (hb3.mono hb2.size)
    refine wpAnyC_ready (CW.of (hb4)) (rs := [2]) (by kernel_rfl) (by simp) ?_
    refine (AllReadyC.cons rfl (fun K hK => ?_) AllReadyC.nil)
    go_simp
    refine Calls.mono (hNot2 w3) ?_
    rintro _ w5 ⟨rfl, hb5⟩
    dsimp only
    refine hK _ _ ?_
    clear hK K
    have hb6 := hb4.trans (hb5.mono hb4.size)
    refine wpAnyC_take (i := 3) (v := _) rfl (by kernel_rfl) (by kernel_rfl) (by kernel_rfl) (fun _ _ _ h => h) (Or.inl ⟨by rfl, fun w ⟨nq, hw⟩ => by (subst hw; go_simp <;> with_reducible rfl)⟩) (by go_simp <;> with_reducible rfl) ?_
    refine wpAnyC_done (by kernel_rfl) (CW.of (hb6)) (by go_simp <;> with_reducible rfl) ?_
    have A6 := Lib.hid (A1.out.keep hb6)
    have B6 := Lib.hid (B1.out.trans (hb6.mono B1.out.size))
    clear hb2 hb3 hb4 hb5 hb6 A1 B1 q0 q1 q2 q3 hOf hNot2 hEq
    by_cases h0 : n = 0
    · have e := L3.out h0
      subst e h0
      repeat' (first | go_values | go_skip | go_guarded | go_step | go_upon)
      go_ret
      exact ⟨rfl, B6.out⟩
    have hn0 : ((n : Int) == 0) = false := beq_false_of_ne (by omega)
    by_cases h256 : n = 256
    · have e := L4.out h256
      subst e h256
      repeat' (first | go_values | go_skip | go_guarded | go_step | go_upon)
      go_ret
      exact ⟨rfl, B6.out⟩
    have hn256 : ((n : Int) == 256) = false := beq_false_of_ne (by omega)
    by_cases h128 : 128 < n
    · have e := L5.out h256 h128
      have h128' : (128 : Int) < n := by omega
      obtain ⟨c0, c1, c2, c3⟩ : w5.cell? ⟨w.heap.size, 0, none⟩ = some (.int .u64 (W p 0 : Nat)) ∧ w5.cell? ⟨w.heap.size, 1, none⟩ = some (.int .u64 (W p 1 : Nat)) ∧ w5.cell? ⟨w.heap.size, 2, none⟩ = some (.int .u64 (W p 2 : Nat)) ∧ w5.cell? ⟨w.heap.size, 3, none⟩ = some (.int .u64 (W p 3 : Nat)) := ⟨A6.out.c0, A6.out.c1, A6.out.c2, A6.out.c3⟩
      have hpr := fun W => ref_parts L2 Hlt2.out (by rw [← Hn2.out]; omega) W
      have hpl := prt_len L2
      rw [← Hn2.out] at hpl
      generalize prt L2 = P at hpr e hpl
      have hif1 : ¬ 9223372036854775807 < 2 + P.length := by omega
      obtain ⟨t1, ht1⟩ : ∃ t, [91, 94] ++ P = t := ⟨_, rfl⟩
      have hc1 : (⟨#[91, 94]⟩ : ByteArray) ++ ⟨P.toArray⟩ = ⟨([91, 94] ++ P).toArray⟩ := ba_lits [91, 94] P
      have ht1l : t1.length = 2 + P.length := by rw [← ht1]; simp; omega
      rw [ht1] at hc1 e
      have hif2 : ¬ 9223372036854775807 < t1.length + 1 := by omega
      have hc2 : (⟨t1.toArray⟩ : ByteArray) ++ ⟨#[93]⟩ = ⟨(t1 ++ [93]).toArray⟩ := ba_lits t1 [93]
      rw [← e] at hc2
      have HN := Lib.hid hNot
      clear ht1 ht1l e L3 L4 L5 L6 h0 h256 h128 hNot
      repeat' (first | go_values | go_skip | go_guarded | go_step | go_upon)
      refine Calls.mono (HN.out _) ?_
      rintro _ w6 ⟨rfl, hb6⟩
      dsimp only
      have B7 := Lib.hid (B6.out.trans (hb6.mono B6.out.size))
      clear hb6 B6 A6 c0 c1 c2 c3 HN
      repeat' (first | go_values | go_skip | go_guarded | go_step | go_upon)
      refine Calls.mono (hBy2 _) ?_
      rintro _ w7 ⟨rfl, hb7⟩
      dsimp only
      have B8 := Lib.hid (B7.out.trans (hb7.mono B7.out.size))
      clear hb7 B7 hBy2
      repeat' (first | go_values | go_skip | go_guarded | go_step | go_upon)
      refine Calls.mono (hpr _) ?_
      rintro _ w8 ⟨rfl, hb8⟩
      dsimp only
      have B9 := Lib.hid (B8.out.trans (hb8.mono B8.out.size))
      clear hb8 B8 hpr
      repeat' (first | go_values | go_skip | go_guarded | go_step | go_upon)
      go_ret
      exact ⟨rfl, B9.out⟩
    · have e := L6.out h0 h128
      have h128' : ¬ (128 : Int) < n := by omega
      have hpr := fun W => ref_parts L Hlt.out (by rw [← Hn.out]; omega) W
      rw [← HS.out] at hpr
      have hpl := prt_len L
      rw [← Hn.out] at hpl
      generalize prt L = P at hpr e hpl
      have hif1 : ¬ 9223372036854775807 < 1 + P.length := by omega
      obtain ⟨t1, ht1⟩ : ∃ t, [91] ++ P = t := ⟨_, rfl⟩
      have hc1 : (⟨#[91]⟩ : ByteArray) ++ ⟨P.toArray⟩ = ⟨([91] ++ P).toArray⟩ := ba_lits [91] P
      have ht1l : t1.length = 1 + P.length := by rw [← ht1]; simp; omega
      rw [ht1] at hc1 e
      have hif2 : ¬ 9223372036854775807 < t1.length + 1 := by omega
      have hc2 : (⟨t1.toArray⟩ : ByteArray) ++ ⟨#[93]⟩ = ⟨(t1 ++ [93]).toArray⟩ := ba_lits t1 [93]
      rw [← e] at hc2
      clear ht1 ht1l e L3 L4 L5 L6 h0 h256 h128 hNot hBy2
      repeat' (first | go_values | go_skip | go_guarded | go_step | go_upon)
      refine Calls.mono (hpr _) ?_
      rintro _ w8 ⟨rfl, hb8⟩
      dsimp only
      have B9 := Lib.hid (B6.out.trans (hb8.mono B6.out.size))
      clear hb8 B6 hpr
      repeat' (first | go_values | go_skip | go_guarded | go_step | go_upon)
      go_ret
      exact ⟨rfl, B9.out⟩
end Go.Proofs.YtnbfifmnigeolaaDoor
