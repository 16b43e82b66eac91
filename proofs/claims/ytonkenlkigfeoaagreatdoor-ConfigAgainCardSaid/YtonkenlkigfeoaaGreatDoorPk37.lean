/- Walks: how a set is written (fretsawref06.setText, regex.setText). Condition: the table of math/bits.TrailingZeros64 lies. -/
import Derived.Test.YtonkenlkigfeoaaGreatDoorPk32
import Derived.Test.YtonkenlkigfeoaaGreatDoorPk16
import Derived.Test.YtonkenlkigfeoaaGreatDoorPk13
import Derived.Test.YtonkenlkigfeoaaGreatDoorPk24
namespace Go.Proofs.YtonkenlkigfeoaaGreatDoor
open Go.RowKit
theorem noLn_is : (fun b => !ofL [10] b) = noLn := by
 funext b
 unfold noLn ofL
 simp
theorem part_len (p : Nat → Bool) : ∀ l : List Nat, (l.filter p).length + (l.filter fun b => !p b).length = l.length
 | [] => rfl
 | a :: l => by
   have ih := part_len p l
   by_cases h : p a = true
   · rw [List.filter_cons_of_pos h, List.filter_cons_of_neg (by rw [h]; decide)]; simp only [List.length_cons]; omega
   · rw [List.filter_cons_of_neg h, List.filter_cons_of_pos (by simpa using h)]; simp only [List.length_cons]; omega
theorem bytes_part (p : Nat → Bool) : (bytesTo p 256).length + (bytesTo (fun b => !p b) 256).length = 256 := by
 have := part_len p (List.range 256); rw [List.length_range] at this; exact this
theorem bytes_lt (p : Nat → Bool) : ∀ x ∈ bytesTo p 256, x < 256 := fun _ h => bytesTo_lt h
/-- the steps of setTx -/
structure STx (p : Nat → Bool) (B : Bool) (R : List UInt8) : Prop where
 one : (bytesTo p 256).length = 1 → R = wrt ((bytesTo p 256).getD 0 0) false
 ln : (bytesTo p 256).length ≠ 1 → B = true → R = [46]
 nil : (bytesTo p 256).length ≠ 1 → B = false → (bytesTo p 256).length = 0 → R = [91, 94, 92, 120, 48, 48, 45, 92, 120, 102, 102, 93]
 all : (bytesTo p 256).length ≠ 1 → B = false → (bytesTo p 256).length = 256 → R = [91, 92, 120, 48, 48, 45, 92, 120, 102, 102, 93]
 most : (bytesTo p 256).length ≠ 1 → B = false → (bytesTo p 256).length ≠ 256 → 128 < (bytesTo p 256).length → R = [91, 94] ++ prt (bytesTo (fun b => !p b) 256) ++ [93]
 few : (bytesTo p 256).length ≠ 1 → B = false → (bytesTo p 256).length ≠ 0 → ¬ 128 < (bytesTo p 256).length → R = [91] ++ prt (bytesTo p 256) ++ [93]
theorem stx (p : Nat → Bool) (B : Bool) (hB : B = true ↔ W p 0 = W noLn 0 ∧ W p 1 = W noLn 1 ∧ W p 2 = W noLn 2 ∧ W p 3 = W noLn 3) : STx p B (setTx p) := by
 have hf : B = false → ¬ (W p 0 = W noLn 0 ∧ W p 1 = W noLn 1 ∧ W p 2 = W noLn 2 ∧ W p 3 = W noLn 3) := fun h h' => by rw [hB.2 h'] at h; cases h
 unfold setTx; refine ⟨fun h => if_pos h, fun h1 h2 => ?_, fun h1 h2 h3 => ?_, fun h1 h2 h3 => ?_, fun h1 h2 h3 h4 => ?_, fun h1 h2 h3 h4 => ?_⟩
 · rw [if_neg h1, if_pos (hB.1 h2)]
 · rw [if_neg h1, if_neg (hf h2), if_pos h3]
 · rw [if_neg h1, if_neg (hf h2), if_neg (by omega), if_pos h3]
 · rw [if_neg h1, if_neg (hf h2), if_neg (by omega), if_neg h3, if_pos h4]
 · rw [if_neg h1, if_neg (hf h2), if_neg h3, if_neg (by omega), if_neg h4]
theorem eq4 (a0 a1 a2 a3 b0 b1 b2 b3 : Nat) : (((a0 : Int) == (b0 : Int)) && (((a1 : Int) == (b1 : Int)) && (((a2 : Int) == (b2 : Int)) && ((a3 : Int) == (b3 : Int))))) = true ↔ (a0 = b0 ∧ a1 = b1 ∧ a2 = b2 ∧ a3 = b3) := by
 simp only [Bool.and_eq_true, beq_iff_eq, Int.natCast_inj]
open Go.RowKit
abbrev TabB (w : World) : Prop := TabAt 1 Lib.deBruijn64tab w
theorem TabB.keep {w w' : World} (h : TabB w) (hb : Below w.heap.size w w') : TabB w' := tab_keep (by decide) h hb
set_option maxRecDepth 100000 in
set_option maxHeartbeats 8000000 in
theorem re_setText (p : Nat → Bool) (w : World) (hT : TabB w) : Calls Tryz.prog 69 #[vS p] w fun e w' => e = .returned (.string ⟨(setTx p).toArray⟩) ∧ Below w.heap.size w w' := by
 obtain ⟨R, hR⟩ : ∃ R, setTx p = R := ⟨_, rfl⟩; have Hst := Lib.hid (stx p _ (eq4 (W p 0) (W p 1) (W p 2) (W p 3) (W noLn 0) (W noLn 1) (W noLn 2) (W noLn 3))); rw [hR] at Hst ⊢; obtain ⟨Eq, hEq⟩ : ∃ B, (((W p 0 : Nat) : Int) == ((W noLn 0 : Nat) : Int) && (((W p 1 : Nat) : Int) == ((W noLn 1 : Nat) : Int) && (((W p 2 : Nat) : Int) == ((W noLn 2 : Nat) : Int) && ((W p 3 : Nat) : Int) == ((W noLn 3 : Nat) : Int)))) = B := ⟨_, rfl⟩; rw [hEq] at Hst; obtain ⟨L, hL⟩ : ∃ L, bytesTo p 256 = L := ⟨_, rfl⟩; obtain ⟨L2, hL2⟩ : ∃ L, bytesTo (fun b => !p b) 256 = L := ⟨_, rfl⟩
 have Hst2 : Hid (STx p Eq R) := Hst; have hlt := bytes_lt p; have hlt2 := bytes_lt fun b => !p b
 have hpart := bytes_part p; rw [hL] at hlt hpart; rw [hL2] at hlt2 hpart; obtain ⟨n, hn⟩ : ∃ n, n = L.length := ⟨_, rfl⟩; obtain ⟨n2, hn2⟩ : ∃ n, n = L2.length := ⟨_, rfl⟩; rw [← hn, ← hn2] at hpart; have K1 : Hid (n = 1 → R = wrt (L.getD 0 0) false) := Lib.hid fun h => by have := Hst.out.one; rw [hL, ← hn] at this; exact this h
 have K2 : Hid (n ≠ 1 → Eq = true → R = [46]) := Lib.hid fun h => by have := Hst.out.ln; rw [hL, ← hn] at this; exact this h
 have K3 : Hid (n ≠ 1 → Eq = false → n = 0 → R = [91, 94, 92, 120, 48, 48, 45, 92, 120, 102, 102, 93]) := Lib.hid fun h => by have := Hst.out.nil; rw [hL, ← hn] at this; exact this h
 have K4 : Hid (n ≠ 1 → Eq = false → n = 256 → R = [91, 92, 120, 48, 48, 45, 92, 120, 102, 102, 93]) := Lib.hid fun h => by have := Hst.out.all; rw [hL, ← hn] at this; exact this h
 have K5 : Hid (n ≠ 1 → Eq = false → n ≠ 256 → 128 < n → R = [91, 94] ++ prt L2 ++ [93]) := Lib.hid fun h => by have := Hst.out.most; rw [hL, hL2, ← hn] at this; exact this h
 have K6 : Hid (n ≠ 1 → Eq = false → n ≠ 0 → ¬ 128 < n → R = [91] ++ prt L ++ [93]) := Lib.hid fun h => by have := Hst.out.few; rw [hL, ← hn] at this; exact this h
 obtain ⟨S, hS⟩ : ∃ S : ByteArray, S = ⟨(L.map u8).toArray⟩ := ⟨_, rfl⟩; have hsz : S.size = n := by rw [hS, hn]; simp [ByteArray.size]
 have HS := Lib.hid hS; have Hn := Lib.hid hn; have Hn2 := Lib.hid hn2; have Hlt := Lib.hid hlt; have Hlt2 := Lib.hid hlt2; have H10 : Hid (ofL (⟨#[10]⟩ : ByteArray).data.toList = ofL [10]) := Lib.hid rfl; have hBy := fun W (h : TabB W) => set_Bytes p W h
 have hBy2 := fun W (h : TabB W) => set_Bytes (fun b => !p b) W h
 have hNot := fun W => set_Not p W
 have hNot2 := fun W => set_Not (ofL [10]) W
 rw [noLn_is] at hNot2; have hOf : ∀ W, Calls Tryz.prog 91 #[.string ⟨#[10]⟩] W fun e w' => e = .returned (vS (ofL [10])) ∧ Below W.heap.size W w' := fun W => set_Of ⟨#[10]⟩ (by decide) W
 obtain ⟨S2, hS2⟩ : ∃ S : ByteArray, S = ⟨(L2.map u8).toArray⟩ := ⟨_, rfl⟩; have hsz2 : S2.size = n2 := by rw [hS2, hn2]; simp [ByteArray.size]
 have HS2 := Lib.hid hS2; rw [hL, ← hS] at hBy; rw [hL2, ← hS2] at hBy2; have hP1 : n ≤ 256 := by omega
 have hP2 : n2 ≤ 256 := by omega
 clear hR hL hL2 hn hn2 hS hS2 hlt hlt2 Hst Hst2 H10; have HA : Hid (SetAt (w.alloc (.cells (sc p) 26)) w.heap.size p) := Lib.hid (Go.heap_alloc_new _ _); have HB : Hid (Below w.heap.size w (w.alloc (.cells (sc p) 26))) := Lib.hid ((Below.refl _ _).alloc (Nat.le_refl _) _); have HT := Lib.hid hT; clear hT; go_enter Tryz.func69, Tryz.ntmps69; wkk; refine Calls.mono (hBy _ (HT.out.keep HB.out)) ?_; rintro _ w1 ⟨rfl, hb1⟩; dsimp only; have A1 := Lib.hid (HA.out.keep hb1); have B1 := Lib.hid (HB.out.trans (hb1.mono HB.out.size)); clear hb1 HA HB hBy
 by_cases h1 : n = 1
 · have e := K1.out h1; subst e
   have hx := Hlt.out (L.getD 0 0) (by
     rw [List.getD_eq_getElem?_getD, List.getElem?_eq_getElem (by rw [← Hn.out, h1]; decide)]
     exact List.getElem_mem _)
   have i0 := fun W => str_at L Hlt.out 0 (by rw [← Hn.out, h1]; decide) W
   rw [← HS.out] at i0; have hR1 : ∀ W, Calls Tryz.prog 89 #[.int .u8 (L.getD 0 0 : Nat), .string ⟨#[]⟩] W _ := fun W => re_byteText (L.getD 0 0) hx false W
   subst h1; clear K1 K2 K3 K4 K5 K6 hBy2 hNot hNot2 hOf hEq hpart; change ∀ W, (Instr.index 9 (.string S) (.int .i64 0)).run Tryz.prog W = _ at i0; wkk; refine Calls.mono (hR1 _) ?_; rintro _ w2 ⟨rfl, hb2⟩; dsimp only; wkk; go_ret; exact ⟨rfl, B1.out.trans (hb2.mono B1.out.size)⟩
 have hn1 : ((n : Int) == 1) = false := beq_false_of_ne (by omega); have K2' := Lib.hid (K2.out h1); have K3' := Lib.hid (K3.out h1); have K4' := Lib.hid (K4.out h1); have K5' := Lib.hid (K5.out h1); have K6' := Lib.hid (K6.out h1); clear K1 K2 K3 K4 K5 K6 h1; have q0 : ∀ nq : WB w1, nq.1.cell? ⟨w.heap.size, 0, none⟩ = some (.int .u64 (W p 0 : Nat)) := fun nq => (A1.out.keep nq.2).c0
 have q1 : ∀ nq : WB w1, nq.1.cell? ⟨w.heap.size, 1, none⟩ = some (.int .u64 (W p 1 : Nat)) := fun nq => (A1.out.keep nq.2).c1
 have q2 : ∀ nq : WB w1, nq.1.cell? ⟨w.heap.size, 2, none⟩ = some (.int .u64 (W p 2 : Nat)) := fun nq => (A1.out.keep nq.2).c2
 have q3 : ∀ nq : WB w1, nq.1.cell? ⟨w.heap.size, 3, none⟩ = some (.int .u64 (W p 3 : Nat)) := fun nq => (A1.out.keep nq.2).c3
 cases Eq with
 | true =>
   have e := K2'.out rfl; subst e; clear K2' K3' K4' K5' K6'
   repeat' (go_not_at_region 4; first | go_values | go_skip | go_guarded | go_step | go_upon)
   refine wp_region_anyC (by kernel_rfl) w1 ?_; refine tkC 0 rfl ?_; refine genC06 (fun W => Below w1.heap.size w1 W) (Below.refl _ _).drew ?_; intro w2 hb2; refine wpAnyC_ready (CW.of (hb2)) (rs := [1]) (by kernel_rfl) (by simp) ?_; refine (AllReadyC.cons rfl (fun K hK => ?_) AllReadyC.nil); go_simp; refine Calls.mono (hOf w2) ?_; rintro _ w3 ⟨rfl, hb3⟩; dsimp only; refine hK _ _ ?_; clear hK K; have hb4 := hb2.trans (hb3.mono hb2.size); refine wpAnyC_ready (CW.of (hb4)) (rs := [2]) (by kernel_rfl) (by simp) ?_; refine (AllReadyC.cons rfl (fun K hK => ?_) AllReadyC.nil); go_simp
   refine Calls.mono (hNot2 w3) ?_; rintro _ w5 ⟨rfl, hb5⟩; dsimp only; refine hK _ _ ?_; clear hK K; have hb6 := hb4.trans (hb5.mono hb4.size); refine tkC 3 rfl ?_; refine tkC 4 rfl ?_; refine wpAnyC_done (by kernel_rfl) (CW.of (hb6)) (by go_simp <;> with_reducible rfl) ?_; have A6 := Lib.hid (A1.out.keep hb6); have B6 := Lib.hid (B1.out.trans (hb6.mono B1.out.size)); clear hb2 hb3 hb4 hb5 hb6 A1 B1 q0 q1 q2 q3 hOf hNot2 hEq; wkk; go_ret; exact ⟨rfl, B6.out⟩
 | false =>
   have L3 := Lib.hid (K3'.out rfl); have L4 := Lib.hid (K4'.out rfl); have L5 := Lib.hid (K5'.out rfl); have L6 := Lib.hid (K6'.out rfl); clear K2' K3' K4' K5' K6'
   repeat' (go_not_at_region 4; first | go_values | go_skip | go_guarded | go_step | go_upon)
   refine wp_region_anyC (by kernel_rfl) w1 ?_; refine tkC 0 rfl ?_; refine genC06 (fun W => Below w1.heap.size w1 W) (Below.refl _ _).drew ?_; intro w2 hb2; refine wpAnyC_ready (CW.of (hb2)) (rs := [1]) (by kernel_rfl) (by simp) ?_; refine (AllReadyC.cons rfl (fun K hK => ?_) AllReadyC.nil); go_simp; refine Calls.mono (hOf w2) ?_; rintro _ w3 ⟨rfl, hb3⟩; dsimp only; refine hK _ _ ?_; clear hK K; have hb4 := hb2.trans (hb3.mono hb2.size); refine wpAnyC_ready (CW.of (hb4)) (rs := [2]) (by kernel_rfl) (by simp) ?_; refine (AllReadyC.cons rfl (fun K hK => ?_) AllReadyC.nil); go_simp
   refine Calls.mono (hNot2 w3) ?_; rintro _ w5 ⟨rfl, hb5⟩; dsimp only; refine hK _ _ ?_; clear hK K; have hb6 := hb4.trans (hb5.mono hb4.size); refine tkC 3 rfl ?_; refine tkC 4 rfl ?_; refine wpAnyC_done (by kernel_rfl) (CW.of (hb6)) (by go_simp <;> with_reducible rfl) ?_; have A6 := Lib.hid (A1.out.keep hb6); have B6 := Lib.hid (B1.out.trans (hb6.mono B1.out.size)); clear hb2 hb3 hb4 hb5 hb6 A1 B1 q0 q1 q2 q3 hOf hNot2 hEq
   by_cases h0 : n = 0
   · have e := L3.out h0; subst e h0; wkk; go_ret; exact ⟨rfl, B6.out⟩
   have hn0 : ((n : Int) == 0) = false := beq_false_of_ne (by omega)
   by_cases h128 : 128 < n
   · have h128' : (128 : Int) < n := by omega
     obtain ⟨c0, c1, c2, c3⟩ : w5.cell? ⟨w.heap.size, 0, none⟩ = some (.int .u64 (W p 0 : Nat)) ∧ w5.cell? ⟨w.heap.size, 1, none⟩ = some (.int .u64 (W p 1 : Nat)) ∧ w5.cell? ⟨w.heap.size, 2, none⟩ = some (.int .u64 (W p 2 : Nat)) ∧ w5.cell? ⟨w.heap.size, 3, none⟩ = some (.int .u64 (W p 3 : Nat)) := ⟨A6.out.c0, A6.out.c1, A6.out.c2, A6.out.c3⟩; have HN := Lib.hid hNot; clear hNot; wkk; refine Calls.mono (HN.out _) ?_; rintro _ w6 ⟨rfl, hb6⟩; dsimp only; have B7 := Lib.hid (B6.out.trans (hb6.mono B6.out.size)); clear hb6 B6 A6 c0 c1 c2 c3 HN; wkk
     refine Calls.mono (hBy2 _ (HT.out.keep B7.out)) ?_; rintro _ w7 ⟨rfl, hb7⟩; dsimp only; have B8 := Lib.hid (B7.out.trans (hb7.mono B7.out.size)); clear hb7 B7 hBy2
     by_cases h256 : n = 256
     · have e := L4.out h256; have hz : S2 = ⟨#[]⟩ := by
         have hl2 : L2.length = 0 := by rw [← Hn2.out]; omega
         rw [HS2.out, List.length_eq_zero_iff.1 hl2]; rfl
       subst e hz; clear L3 L4 L5 L6 h256; wkk; go_ret; exact ⟨rfl, B8.out⟩
     have e := L5.out h256 h128; have hz : S2.toList.isEmpty = false := by
       rw [Lib.toList_data, HS2.out]; have hl2 : L2.length ≠ 0 := by rw [← Hn2.out]; omega
       cases hL2 : L2 with
       | nil => rw [hL2] at hl2; exact absurd rfl hl2
       | cons a l => rfl
     clear L3 L4 L5 L6 h0 h256 h128; have Hix : Hid (∀ i, i < n2 → ∀ w, (Instr.index 9 (.string S2) (.int .i64 (i : Int))).run Tryz.prog w = .ok (.int .u8 ((L2.getD i 0 : Nat) : Int)) w) := Lib.hid fun i hi w => by rw [HS2.out]; exact str_at L2 Hlt2.out i (by rw [← Hn2.out]; exact hi) w
     have Hlt' : Hid (∀ i, L2.getD i 0 < 256) := Lib.hid fun i => by
       by_cases h : i < L2.length
       · rw [List.getD_eq_getElem?_getD, List.getElem?_eq_getElem h]; exact Hlt2.out _ (List.getElem_mem h)
       · rw [List.getD_eq_getElem?_getD, List.getElem?_eq_none (by omega)]; decide
     have H0 : Hid (R = [91, 94] ++ prtF L2 n2 0 ++ [93] ∧ n2 - 0 ≤ n2) := Lib.hid ⟨by rw [e, Hn2.out]; rfl, by omega⟩; clear e; wkk
     go_loopg [4, 5] n2 (fun gk s4 s5 wr => ∃ (i f : Nat) (s : List UInt8), s5 = .int .i64 i ∧ s4 = .string ⟨s.toArray⟩ ∧ n2 - i ≤ gk ∧ i ≤ n2 ∧ s.length ≤ 9 * i + 2 ∧ Hid (R = s ++ prtF L2 f i ++ [93] ∧ n2 - i ≤ f) ∧ Hid (Below w.heap.size w wr))
     case atStart => exact ⟨0, n2, [91, 94], rfl, rfl, by omega, Nat.zero_le _, by simp, H0, B8⟩
     case round =>
       clear H0; obtain ⟨i, f, s, rfl, rfl, hg, hi, hsl, HP, HB⟩ := hrel
       by_cases hin : i < n2
       · have hin' : (i : Int) < n2 := by omega
         have HG0 : Hid (runF L2 i (n2 - i) 1 = runN L2 i ∧ n2 - i < n2 - i + 1) := Lib.hid ⟨by unfold runN; rw [← Hn2.out], by omega⟩; have hN := runN_b (l := L2) (i := i) (by rw [← Hn2.out]; exact hin); rw [← Hn2.out] at hN; obtain ⟨N, hNe⟩ : ∃ N, runN L2 i = N := ⟨_, rfl⟩; rw [hNe] at HG0 hN; have HN := Lib.hid hNe; clear hNe; wkk
         go_loopg [6] (n2 - i) (fun gj s6 wi => ∃ (k f' : Nat), s6 = .int .i64 k ∧ 1 ≤ k ∧ i + k ≤ n2 ∧ n2 - i - k ≤ gj ∧ Hid (runF L2 i f' k = N ∧ n2 - i < f' + k) ∧ Hid (Below w.heap.size w wi))
         case atStart => exact ⟨1, n2 - i, rfl, Nat.le_refl _, hin, by omega, Lib.hid ⟨HG0.out.1, by omega⟩, HB⟩
         case round =>
           clear HB HG0; obtain ⟨k, f', rfl, hk1, hk2, hgj, HJ, HB⟩ := hrel; have hw1 : IntKind.i64.wrap ((i : Int) + (k : Int)) = (i : Int) + (k : Int) := wi64 (by unfold I64; omega); have hw0 : IntKind.i64.wrap ((k : Int) + 1) = (k : Int) + 1 := wi64 (by unfold I64; omega); have hi0 := Hix.out i hin; have hxi := Hlt'.out i; obtain ⟨xi, hxie⟩ : ∃ x, L2.getD i 0 = x := ⟨_, rfl⟩; rw [hxie] at hi0 hxi; have HXi := Lib.hid hxie; clear hxie; have hw2 : IntKind.i64.wrap (xi : Int) = (xi : Int) := wi64 (by unfold I64; omega)
           have hw3 : IntKind.i64.wrap ((xi : Int) + (k : Int)) = (xi : Int) + (k : Int) := wi64 (by unfold I64; omega)
           by_cases hgo : i + k < n2 ∧ L2.getD (i + k) 0 = L2.getD i 0 + k
           · obtain ⟨hg1, hg2⟩ := hgo; obtain ⟨f2, _, hf2⟩ := runF_go (l := L2) (i := i) (f := f') (n := k) (by rw [← Hn2.out]; exact HJ.out.2) ⟨by rw [← Hn2.out]; exact hg1, hg2⟩; have HJ2 : Hid (runF L2 i f2 (k + 1) = N ∧ n2 - i < f2 + (k + 1)) := Lib.hid ⟨by rw [← hf2]; exact HJ.out.1, by have := HJ.out.2; omega⟩; have i1 := Hix.out (i + k) hg1; rw [hg2, HXi.out, Int.natCast_add, Int.natCast_add] at i1; have hl1 : (i : Int) + (k : Int) < (n2 : Int) := by omega
             have hw4 : IntKind.i64.wrap ((xi : Int) + (k : Int)) = (xi : Int) + (k : Int) := hw3; clear hf2 hg2 HJ HXi
             repeat' (go_not_at_region 16; first | go_values | go_skip | go_guarded | go_step | go_upon)
             refine wp_region_anyC (by kernel_rfl) wr ?_; refine tkC 0 rfl ?_; refine tkC 1 rfl ?_; refine tkC 2 rfl ?_; refine tkC 3 rfl ?_; refine tkC 4 rfl ?_; refine tkC 5 rfl ?_; refine tkC 6 rfl ?_; refine tkC 7 rfl ?_; refine tkC 8 rfl ?_; refine tkC 9 rfl ?_; refine tkC 10 rfl ?_; refine tkC 11 rfl ?_; refine tkC 12 rfl ?_; refine tkC 13 rfl ?_; refine tkC 14 rfl ?_; refine tkC 15 rfl ?_; refine tkC 16 rfl ?_; refine tkC 17 rfl ?_; refine tkC 18 rfl ?_; refine tkC 19 rfl ?_; refine tkC 20 rfl ?_
             refine wpAnyC_done (by kernel_rfl) (CW.of ((Below.refl _ _).drew)) (by go_simp <;> with_reducible rfl) ?_; clear i1 hw2 hw3 hw4 hi0; wkk; go_roundg (gk - 1)
             case rel => exact ⟨k + 1, f2, by go_num, by omega, by omega, by omega, HJ2, Lib.hid (HB.out.trans ((Below.refl _ _).drew))⟩
             case measure => omega
           · have hstop : N = k := by
               rw [← HJ.out.1]; exact runF_stop (fun h => hgo ⟨by rw [Hn2.out]; exact h.1, h.2⟩)
             subst hstop; have hdec : (¬ i + N < n2) ∨ (i + N < n2 ∧ L2.getD (i + N) 0 ≠ L2.getD i 0 + N) := by
               by_cases h : i + N < n2
               · exact .inr ⟨h, fun e => hgo ⟨h, e⟩⟩
               · exact .inl h
             clear HJ hgo
             rcases hdec with hd | ⟨hd, hd2⟩
             · have hl1 : ¬ (i : Int) + (N : Int) < (n2 : Int) := by omega
               repeat' (go_not_at_region 16; first | go_values | go_skip | go_guarded | go_step | go_upon)
               refine wp_region_anyC (by kernel_rfl) wr ?_; refine tkC 0 rfl ?_; refine tkC 1 rfl ?_; refine tkC 2 rfl ?_; refine tkC 3 rfl ?_; refine tkC 4 rfl ?_; refine tkC 5 rfl ?_; refine tkC 6 rfl ?_; refine skC 7 rfl ?_; refine skC 8 rfl ?_; refine skC 9 rfl ?_; refine skC 10 rfl ?_; refine skC 11 rfl ?_; refine skC 12 rfl ?_; refine skC 13 rfl ?_; refine skC 14 rfl ?_; refine skC 15 rfl ?_; refine skC 16 rfl ?_; refine skC 17 rfl ?_; refine skC 18 rfl ?_; refine skC 19 rfl ?_; refine tkC 20 rfl ?_
               refine wpAnyC_done (by kernel_rfl) (CW.of ((Below.refl _ _).drew)) (by go_simp <;> with_reducible rfl) ?_; clear hl1 hd hw2 hw3; have HBd : Hid (Below w.heap.size w wr.drew) := Lib.hid (HB.out.trans ((Below.refl _ _).drew)); obtain ⟨f0, rfl⟩ : ∃ g, f = g + 1 := ⟨f - 1, by have := HP.out.2; omega⟩; have HP1 := Lib.hid HP.out.1; have HPf := Lib.hid HP.out.2; have hiL : i < L2.length := by rw [← Hn2.out]; exact hin
               have hw1l := wrt_len xi true; have hsl2 : s.length ≤ 2306 := by omega
               by_cases h4 : 4 ≤ N
               · have H2 := prtF_run (f := f0) hiL (by rw [HN.out]; exact h4); rw [HN.out, HXi.out] at H2; obtain ⟨j, hj⟩ : ∃ j, i + N - 1 = j := ⟨_, rfl⟩; rw [hj] at H2; have hs3 : (4 : Int) ≤ N := by omega
                 have hxj := Hlt'.out j; have hj0 := Hix.out j (by omega); have hw5 : IntKind.i64.wrap ((i : Int) + (N : Int) - 1) = (j : Int) := by rw [wi64 (by unfold I64; omega)]; omega
                 obtain ⟨xj, hxje⟩ : ∃ x, L2.getD j 0 = x := ⟨_, rfl⟩; rw [hxje] at hj0 hxj H2; have hw2l := wrt_len xj true; obtain ⟨t2, ht2⟩ : ∃ t, wrt xi true ++ [45] = t := ⟨_, rfl⟩; obtain ⟨t3, ht3⟩ : ∃ t, t2 ++ wrt xj true = t := ⟨_, rfl⟩; obtain ⟨t4, ht4⟩ : ∃ t, s ++ t3 = t := ⟨_, rfl⟩; have hl2 : t2.length ≤ 5 := by rw [← ht2, List.length_append, List.length_cons, List.length_nil]; omega
                 have hl3 : t3.length ≤ 9 := by rw [← ht3, List.length_append]; omega
                 have hl4 : t4.length ≤ s.length + 9 := by rw [← ht4, List.length_append]; omega
                 have HPn : Hid (R = t4 ++ prtF L2 f0 (i + N) ++ [93] ∧ n2 - (i + N) ≤ f0) := Lib.hid ⟨by rw [HP1.out, H2, ← ht4, ← ht3, ← ht2]; simp only [List.append_assoc], by have := HPf.out; omega⟩; have hc2 : (⟨(wrt xi true).toArray⟩ : ByteArray) ++ ⟨#[45]⟩ = ⟨(wrt xi true ++ [45]).toArray⟩ := ba_lits (wrt xi true) [45]; have hc3 := ba_lits t2 (wrt xj true); have hc4 := ba_lits s t3; rw [ht2] at hc2; rw [ht3] at hc3; rw [ht4] at hc4; have hR1 : ∀ W, Calls Tryz.prog 89 #[.int .u8 (xi : Nat), .string ⟨#[45, 47]⟩] W _ := fun W => re_byteText xi hxi true W
                 have hR2 : ∀ W, Calls Tryz.prog 89 #[.int .u8 (xj : Nat), .string ⟨#[45, 47]⟩] W _ := fun W => re_byteText xj hxj true W
                 clear ht2 ht3 ht4 H2 hj hxje; generalize wrt xi true = W1 at hc2 hR1 hw1l; generalize wrt xj true = W2 at hc3 hR2 hw2l; have hif1 : ¬ 9223372036854775807 < W1.length + 1 := by omega
                 have hif2 : ¬ 9223372036854775807 < t2.length + W2.length := by omega
                 have hif3 : ¬ 9223372036854775807 < s.length + t3.length := by omega
                 repeat' (go_not_at_region 19; first | go_values | go_skip | go_guarded | go_step | go_upon)
                 refine gen_wd (fun W => Below w.heap.size w W) HBd.out ?_; intro w5 hb5; have HB5 := Lib.hid hb5; clear hb5 HBd HB; refine wp_region_anyC (by kernel_rfl) w5 ?_; refine tkC 0 rfl ?_; refine tkC 1 rfl ?_; refine tkC 2 rfl ?_; refine tkC 3 rfl ?_; refine tkC 6 rfl ?_; refine tkC 7 rfl ?_; refine tkC 8 rfl ?_; refine tkC 9 rfl ?_; refine tkC 10 rfl ?_; refine tkC 11 rfl ?_; refine genC06 (fun W => Below w5.heap.size w5 W) (Below.refl _ _).drew ?_; intro w6 hb6; refine wpAnyC_ready (CW.of (hb6)) (rs := [4]) (by kernel_rfl) (by simp) ?_
                 refine (AllReadyC.cons rfl (fun K hK => ?_) AllReadyC.nil); go_simp; refine Calls.mono (hR1 w6) ?_; rintro _ w7 ⟨rfl, hb7⟩; dsimp only; refine hK _ _ ?_; clear hK K; have hb8 := hb6.trans (hb7.mono hb6.size); clear hb6 hb7; refine tkC 5 rfl ?_; refine wpAnyC_ready (CW.of (hb8)) (rs := [12]) (by kernel_rfl) (by simp) ?_; refine (AllReadyC.cons rfl (fun K hK => ?_) AllReadyC.nil); go_simp; refine Calls.mono (hR2 w7) ?_; rintro _ w9 ⟨rfl, hb9⟩; dsimp only; refine hK _ _ ?_; clear hK K; have hb10 := hb8.trans (hb9.mono hb8.size); clear hb8 hb9
                 refine tkC 13 rfl ?_; refine tkC 14 rfl ?_; refine tkC 15 rfl ?_; refine wpAnyC_done (by kernel_rfl) (CW.of (hb10)) (by go_simp <;> with_reducible rfl) ?_; have HB10 := Lib.hid (HB5.out.trans (hb10.mono HB5.out.size)); clear hb10 HB5 hR1 hR2 hc2 hc3 hc4 hif1 hif2 hif3 hi0 hj0; wkk; go_roundg (n2 - (i + N))
                 case rel => exact ⟨i + N, f0, t4, by go_num, rfl, Nat.le_refl _, by omega, by omega, HPn, HB10⟩
                 case measure => omega
               · have H2 := prtF_one (f := f0) hiL (by rw [HN.out]; exact h4); rw [HXi.out] at H2; have hs3 : ¬ (4 : Int) ≤ N := by omega
                 have hw6 : IntKind.i64.wrap ((i : Int) + 1) = (i : Int) + 1 := wi64 (by unfold I64; omega); obtain ⟨t1, ht1⟩ : ∃ t, s ++ wrt xi true = t := ⟨_, rfl⟩; have hl1 : t1.length ≤ s.length + 4 := by rw [← ht1, List.length_append]; omega
                 have HPn : Hid (R = t1 ++ prtF L2 f0 (i + 1) ++ [93] ∧ n2 - (i + 1) ≤ f0) := Lib.hid ⟨by rw [HP1.out, H2, ← ht1]; simp only [List.append_assoc], by have := HPf.out; omega⟩; have hc1 := ba_lits s (wrt xi true); rw [ht1] at hc1; have hR1 : ∀ W, Calls Tryz.prog 89 #[.int .u8 (xi : Nat), .string ⟨#[45, 47]⟩] W _ := fun W => re_byteText xi hxi true W
                 clear ht1 H2; generalize wrt xi true = W1 at hc1 hR1 hw1l; have hif1 : ¬ 9223372036854775807 < s.length + W1.length := by omega
                 repeat' (go_not_at_region 21; first | go_values | go_skip | go_guarded | go_step | go_upon)
                 refine gen_wd (fun W => Below w.heap.size w W) HBd.out ?_; intro w5 hb5; have HB5 := Lib.hid hb5; clear hb5 HBd HB; wkk; refine Calls.mono (hR1 _) ?_; rintro _ w6 ⟨rfl, hb6⟩; dsimp only; have HB6 := Lib.hid (HB5.out.trans (hb6.mono HB5.out.size)); clear hb6 HB5 hR1; wkk; go_roundg (n2 - (i + 1))
                 case rel => exact ⟨i + 1, f0, t1, by go_num, rfl, Nat.le_refl _, by omega, by omega, HPn, HB6⟩
                 case measure => omega
             · have hl1 : (i : Int) + (N : Int) < (n2 : Int) := by omega
               have i1 := Hix.out (i + N) hd; rw [Int.natCast_add] at i1; have hxk := Hlt'.out (i + N); obtain ⟨y, hy⟩ : ∃ y, L2.getD (i + N) 0 = y := ⟨_, rfl⟩; rw [hy] at i1 hd2 hxk; rw [HXi.out] at hd2; have hw4 : IntKind.i64.wrap (y : Int) = (y : Int) := wi64 (by unfold I64; omega); have hne : ((y : Int) == (xi : Int) + (N : Int)) = false := beq_false_of_ne (by omega); clear hy hd2
               repeat' (go_not_at_region 16; first | go_values | go_skip | go_guarded | go_step | go_upon)
               refine wp_region_anyC (by kernel_rfl) wr ?_; refine tkC 0 rfl ?_; refine tkC 1 rfl ?_; refine tkC 2 rfl ?_; refine tkC 3 rfl ?_; refine tkC 4 rfl ?_; refine tkC 5 rfl ?_; refine tkC 6 rfl ?_; refine tkC 7 rfl ?_; refine tkC 8 rfl ?_; refine tkC 9 rfl ?_; refine tkC 10 rfl ?_; refine tkC 11 rfl ?_; refine tkC 12 rfl ?_; refine tkC 13 rfl ?_; refine tkC 14 rfl ?_; refine tkC 15 rfl ?_; refine tkC 16 rfl ?_; refine tkC 17 rfl ?_; refine tkC 18 rfl ?_; refine tkC 19 rfl ?_; refine tkC 20 rfl ?_
               refine wpAnyC_done (by kernel_rfl) (CW.of ((Below.refl _ _).drew)) (by go_simp <;> with_reducible rfl) ?_; clear i1 hw2 hw3 hw4 hne hl1 hd hxk; have HBd : Hid (Below w.heap.size w wr.drew) := Lib.hid (HB.out.trans ((Below.refl _ _).drew)); obtain ⟨f0, rfl⟩ : ∃ g, f = g + 1 := ⟨f - 1, by have := HP.out.2; omega⟩; have HP1 := Lib.hid HP.out.1; have HPf := Lib.hid HP.out.2; have hiL : i < L2.length := by rw [← Hn2.out]; exact hin
               have hw1l := wrt_len xi true; have hsl2 : s.length ≤ 2306 := by omega
               by_cases h4 : 4 ≤ N
               · have H2 := prtF_run (f := f0) hiL (by rw [HN.out]; exact h4); rw [HN.out, HXi.out] at H2; obtain ⟨j, hj⟩ : ∃ j, i + N - 1 = j := ⟨_, rfl⟩; rw [hj] at H2; have hs3 : (4 : Int) ≤ N := by omega
                 have hxj := Hlt'.out j; have hj0 := Hix.out j (by omega); have hw5 : IntKind.i64.wrap ((i : Int) + (N : Int) - 1) = (j : Int) := by rw [wi64 (by unfold I64; omega)]; omega
                 obtain ⟨xj, hxje⟩ : ∃ x, L2.getD j 0 = x := ⟨_, rfl⟩; rw [hxje] at hj0 hxj H2; have hw2l := wrt_len xj true; obtain ⟨t2, ht2⟩ : ∃ t, wrt xi true ++ [45] = t := ⟨_, rfl⟩; obtain ⟨t3, ht3⟩ : ∃ t, t2 ++ wrt xj true = t := ⟨_, rfl⟩; obtain ⟨t4, ht4⟩ : ∃ t, s ++ t3 = t := ⟨_, rfl⟩; have hl2 : t2.length ≤ 5 := by rw [← ht2, List.length_append, List.length_cons, List.length_nil]; omega
                 have hl3 : t3.length ≤ 9 := by rw [← ht3, List.length_append]; omega
                 have hl4 : t4.length ≤ s.length + 9 := by rw [← ht4, List.length_append]; omega
                 have HPn : Hid (R = t4 ++ prtF L2 f0 (i + N) ++ [93] ∧ n2 - (i + N) ≤ f0) := Lib.hid ⟨by rw [HP1.out, H2, ← ht4, ← ht3, ← ht2]; simp only [List.append_assoc], by have := HPf.out; omega⟩; have hc2 : (⟨(wrt xi true).toArray⟩ : ByteArray) ++ ⟨#[45]⟩ = ⟨(wrt xi true ++ [45]).toArray⟩ := ba_lits (wrt xi true) [45]; have hc3 := ba_lits t2 (wrt xj true); have hc4 := ba_lits s t3; rw [ht2] at hc2; rw [ht3] at hc3; rw [ht4] at hc4; have hR1 : ∀ W, Calls Tryz.prog 89 #[.int .u8 (xi : Nat), .string ⟨#[45, 47]⟩] W _ := fun W => re_byteText xi hxi true W
                 have hR2 : ∀ W, Calls Tryz.prog 89 #[.int .u8 (xj : Nat), .string ⟨#[45, 47]⟩] W _ := fun W => re_byteText xj hxj true W
                 clear ht2 ht3 ht4 H2 hj hxje; generalize wrt xi true = W1 at hc2 hR1 hw1l; generalize wrt xj true = W2 at hc3 hR2 hw2l; have hif1 : ¬ 9223372036854775807 < W1.length + 1 := by omega
                 have hif2 : ¬ 9223372036854775807 < t2.length + W2.length := by omega
                 have hif3 : ¬ 9223372036854775807 < s.length + t3.length := by omega
                 repeat' (go_not_at_region 19; first | go_values | go_skip | go_guarded | go_step | go_upon)
                 refine gen_wd (fun W => Below w.heap.size w W) HBd.out ?_; intro w5 hb5; have HB5 := Lib.hid hb5; clear hb5 HBd HB; refine wp_region_anyC (by kernel_rfl) w5 ?_; refine tkC 0 rfl ?_; refine tkC 1 rfl ?_; refine tkC 2 rfl ?_; refine tkC 3 rfl ?_; refine tkC 6 rfl ?_; refine tkC 7 rfl ?_; refine tkC 8 rfl ?_; refine tkC 9 rfl ?_; refine tkC 10 rfl ?_; refine tkC 11 rfl ?_; refine genC06 (fun W => Below w5.heap.size w5 W) (Below.refl _ _).drew ?_; intro w6 hb6; refine wpAnyC_ready (CW.of (hb6)) (rs := [4]) (by kernel_rfl) (by simp) ?_
                 refine (AllReadyC.cons rfl (fun K hK => ?_) AllReadyC.nil); go_simp; refine Calls.mono (hR1 w6) ?_; rintro _ w7 ⟨rfl, hb7⟩; dsimp only; refine hK _ _ ?_; clear hK K; have hb8 := hb6.trans (hb7.mono hb6.size); clear hb6 hb7; refine tkC 5 rfl ?_; refine wpAnyC_ready (CW.of (hb8)) (rs := [12]) (by kernel_rfl) (by simp) ?_; refine (AllReadyC.cons rfl (fun K hK => ?_) AllReadyC.nil); go_simp; refine Calls.mono (hR2 w7) ?_; rintro _ w9 ⟨rfl, hb9⟩; dsimp only; refine hK _ _ ?_; clear hK K; have hb10 := hb8.trans (hb9.mono hb8.size); clear hb8 hb9
                 refine tkC 13 rfl ?_; refine tkC 14 rfl ?_; refine tkC 15 rfl ?_; refine wpAnyC_done (by kernel_rfl) (CW.of (hb10)) (by go_simp <;> with_reducible rfl) ?_; have HB10 := Lib.hid (HB5.out.trans (hb10.mono HB5.out.size)); clear hb10 HB5 hR1 hR2 hc2 hc3 hc4 hif1 hif2 hif3 hi0 hj0; wkk; go_roundg (n2 - (i + N))
                 case rel => exact ⟨i + N, f0, t4, by go_num, rfl, Nat.le_refl _, by omega, by omega, HPn, HB10⟩
                 case measure => omega
               · have H2 := prtF_one (f := f0) hiL (by rw [HN.out]; exact h4); rw [HXi.out] at H2; have hs3 : ¬ (4 : Int) ≤ N := by omega
                 have hw6 : IntKind.i64.wrap ((i : Int) + 1) = (i : Int) + 1 := wi64 (by unfold I64; omega); obtain ⟨t1, ht1⟩ : ∃ t, s ++ wrt xi true = t := ⟨_, rfl⟩; have hl1 : t1.length ≤ s.length + 4 := by rw [← ht1, List.length_append]; omega
                 have HPn : Hid (R = t1 ++ prtF L2 f0 (i + 1) ++ [93] ∧ n2 - (i + 1) ≤ f0) := Lib.hid ⟨by rw [HP1.out, H2, ← ht1]; simp only [List.append_assoc], by have := HPf.out; omega⟩; have hc1 := ba_lits s (wrt xi true); rw [ht1] at hc1; have hR1 : ∀ W, Calls Tryz.prog 89 #[.int .u8 (xi : Nat), .string ⟨#[45, 47]⟩] W _ := fun W => re_byteText xi hxi true W
                 clear ht1 H2; generalize wrt xi true = W1 at hc1 hR1 hw1l; have hif1 : ¬ 9223372036854775807 < s.length + W1.length := by omega
                 repeat' (go_not_at_region 21; first | go_values | go_skip | go_guarded | go_step | go_upon)
                 refine gen_wd (fun W => Below w.heap.size w W) HBd.out ?_; intro w5 hb5; have HB5 := Lib.hid hb5; clear hb5 HBd HB; wkk; refine Calls.mono (hR1 _) ?_; rintro _ w6 ⟨rfl, hb6⟩; dsimp only; have HB6 := Lib.hid (HB5.out.trans (hb6.mono HB5.out.size)); clear hb6 HB5 hR1; wkk; go_roundg (n2 - (i + 1))
                 case rel => exact ⟨i + 1, f0, t1, by go_num, rfl, Nat.le_refl _, by omega, by omega, HPn, HB6⟩
                 case measure => omega
       · obtain rfl : i = n2 := by omega
         have e : R = s ++ [93] := by rw [HP.out.1, prtF_end (by rw [← Hn2.out]; omega), List.append_nil]
         subst e; have hc1 : (⟨s.toArray⟩ : ByteArray) ++ ⟨#[93]⟩ = ⟨(s ++ [93]).toArray⟩ := ba_lits s [93]; have hif1 : ¬ 9223372036854775807 < s.length + 1 := by omega
         clear HP; wkk; go_ret; exact ⟨rfl, HB.out⟩
   · have e := L6.out h0 h128; have h128' : ¬ (128 : Int) < n := by omega
     clear L3 L4 L5 L6 h0 h128 hNot hBy2; have Hix : Hid (∀ i, i < n → ∀ w, (Instr.index 9 (.string S) (.int .i64 (i : Int))).run Tryz.prog w = .ok (.int .u8 ((L.getD i 0 : Nat) : Int)) w) := Lib.hid fun i hi w => by rw [HS.out]; exact str_at L Hlt.out i (by rw [← Hn.out]; exact hi) w
     have Hlt' : Hid (∀ i, L.getD i 0 < 256) := Lib.hid fun i => by
       by_cases h : i < L.length
       · rw [List.getD_eq_getElem?_getD, List.getElem?_eq_getElem h]; exact Hlt.out _ (List.getElem_mem h)
       · rw [List.getD_eq_getElem?_getD, List.getElem?_eq_none (by omega)]; decide
     have H0 : Hid (R = [91] ++ prtF L n 0 ++ [93] ∧ n - 0 ≤ n) := Lib.hid ⟨by rw [e, Hn.out]; rfl, by omega⟩; clear e; wkk
     go_loopg [4, 5] n (fun gk s4 s5 wr => ∃ (i f : Nat) (s : List UInt8), s5 = .int .i64 i ∧ s4 = .string ⟨s.toArray⟩ ∧ n - i ≤ gk ∧ i ≤ n ∧ s.length ≤ 9 * i + 2 ∧ Hid (R = s ++ prtF L f i ++ [93] ∧ n - i ≤ f) ∧ Hid (Below w.heap.size w wr))
     case atStart => exact ⟨0, n, [91], rfl, rfl, by omega, Nat.zero_le _, by simp, H0, B6⟩
     case round =>
       clear H0; obtain ⟨i, f, s, rfl, rfl, hg, hi, hsl, HP, HB⟩ := hrel
       by_cases hin : i < n
       · have hin' : (i : Int) < n := by omega
         have HG0 : Hid (runF L i (n - i) 1 = runN L i ∧ n - i < n - i + 1) := Lib.hid ⟨by unfold runN; rw [← Hn.out], by omega⟩; have hN := runN_b (l := L) (i := i) (by rw [← Hn.out]; exact hin); rw [← Hn.out] at hN; obtain ⟨N, hNe⟩ : ∃ N, runN L i = N := ⟨_, rfl⟩; rw [hNe] at HG0 hN; have HN := Lib.hid hNe; clear hNe; wkk
         go_loopg [6] (n - i) (fun gj s6 wi => ∃ (k f' : Nat), s6 = .int .i64 k ∧ 1 ≤ k ∧ i + k ≤ n ∧ n - i - k ≤ gj ∧ Hid (runF L i f' k = N ∧ n - i < f' + k) ∧ Hid (Below w.heap.size w wi))
         case atStart => exact ⟨1, n - i, rfl, Nat.le_refl _, hin, by omega, Lib.hid ⟨HG0.out.1, by omega⟩, HB⟩
         case round =>
           clear HB HG0; obtain ⟨k, f', rfl, hk1, hk2, hgj, HJ, HB⟩ := hrel; have hw1 : IntKind.i64.wrap ((i : Int) + (k : Int)) = (i : Int) + (k : Int) := wi64 (by unfold I64; omega); have hw0 : IntKind.i64.wrap ((k : Int) + 1) = (k : Int) + 1 := wi64 (by unfold I64; omega); have hi0 := Hix.out i hin; have hxi := Hlt'.out i; obtain ⟨xi, hxie⟩ : ∃ x, L.getD i 0 = x := ⟨_, rfl⟩; rw [hxie] at hi0 hxi; have HXi := Lib.hid hxie; clear hxie; have hw2 : IntKind.i64.wrap (xi : Int) = (xi : Int) := wi64 (by unfold I64; omega)
           have hw3 : IntKind.i64.wrap ((xi : Int) + (k : Int)) = (xi : Int) + (k : Int) := wi64 (by unfold I64; omega)
           by_cases hgo : i + k < n ∧ L.getD (i + k) 0 = L.getD i 0 + k
           · obtain ⟨hg1, hg2⟩ := hgo; obtain ⟨f2, _, hf2⟩ := runF_go (l := L) (i := i) (f := f') (n := k) (by rw [← Hn.out]; exact HJ.out.2) ⟨by rw [← Hn.out]; exact hg1, hg2⟩; have HJ2 : Hid (runF L i f2 (k + 1) = N ∧ n - i < f2 + (k + 1)) := Lib.hid ⟨by rw [← hf2]; exact HJ.out.1, by have := HJ.out.2; omega⟩; have i1 := Hix.out (i + k) hg1; rw [hg2, HXi.out, Int.natCast_add, Int.natCast_add] at i1; have hl1 : (i : Int) + (k : Int) < (n : Int) := by omega
             have hw4 : IntKind.i64.wrap ((xi : Int) + (k : Int)) = (xi : Int) + (k : Int) := hw3; clear hf2 hg2 HJ HXi
             repeat' (go_not_at_region 16; first | go_values | go_skip | go_guarded | go_step | go_upon)
             refine wp_region_anyC (by kernel_rfl) wr ?_; refine tkC 0 rfl ?_; refine tkC 1 rfl ?_; refine tkC 2 rfl ?_; refine tkC 3 rfl ?_; refine tkC 4 rfl ?_; refine tkC 5 rfl ?_; refine tkC 6 rfl ?_; refine tkC 7 rfl ?_; refine tkC 8 rfl ?_; refine tkC 9 rfl ?_; refine tkC 10 rfl ?_; refine tkC 11 rfl ?_; refine tkC 12 rfl ?_; refine tkC 13 rfl ?_; refine tkC 14 rfl ?_; refine tkC 15 rfl ?_; refine tkC 16 rfl ?_; refine tkC 17 rfl ?_; refine tkC 18 rfl ?_; refine tkC 19 rfl ?_; refine tkC 20 rfl ?_
             refine wpAnyC_done (by kernel_rfl) (CW.of ((Below.refl _ _).drew)) (by go_simp <;> with_reducible rfl) ?_; clear i1 hw2 hw3 hw4 hi0; wkk; go_roundg (gk - 1)
             case rel => exact ⟨k + 1, f2, by go_num, by omega, by omega, by omega, HJ2, Lib.hid (HB.out.trans ((Below.refl _ _).drew))⟩
             case measure => omega
           · have hstop : N = k := by
               rw [← HJ.out.1]; exact runF_stop (fun h => hgo ⟨by rw [Hn.out]; exact h.1, h.2⟩)
             subst hstop; have hdec : (¬ i + N < n) ∨ (i + N < n ∧ L.getD (i + N) 0 ≠ L.getD i 0 + N) := by
               by_cases h : i + N < n
               · exact .inr ⟨h, fun e => hgo ⟨h, e⟩⟩
               · exact .inl h
             clear HJ hgo
             rcases hdec with hd | ⟨hd, hd2⟩
             · have hl1 : ¬ (i : Int) + (N : Int) < (n : Int) := by omega
               repeat' (go_not_at_region 16; first | go_values | go_skip | go_guarded | go_step | go_upon)
               refine wp_region_anyC (by kernel_rfl) wr ?_; refine tkC 0 rfl ?_; refine tkC 1 rfl ?_; refine tkC 2 rfl ?_; refine tkC 3 rfl ?_; refine tkC 4 rfl ?_; refine tkC 5 rfl ?_; refine tkC 6 rfl ?_; refine skC 7 rfl ?_; refine skC 8 rfl ?_; refine skC 9 rfl ?_; refine skC 10 rfl ?_; refine skC 11 rfl ?_; refine skC 12 rfl ?_; refine skC 13 rfl ?_; refine skC 14 rfl ?_; refine skC 15 rfl ?_; refine skC 16 rfl ?_; refine skC 17 rfl ?_; refine skC 18 rfl ?_; refine skC 19 rfl ?_; refine tkC 20 rfl ?_
               refine wpAnyC_done (by kernel_rfl) (CW.of ((Below.refl _ _).drew)) (by go_simp <;> with_reducible rfl) ?_; clear hl1 hd hw2 hw3; have HBd : Hid (Below w.heap.size w wr.drew) := Lib.hid (HB.out.trans ((Below.refl _ _).drew)); obtain ⟨f0, rfl⟩ : ∃ g, f = g + 1 := ⟨f - 1, by have := HP.out.2; omega⟩; have HP1 := Lib.hid HP.out.1; have HPf := Lib.hid HP.out.2; have hiL : i < L.length := by rw [← Hn.out]; exact hin
               have hw1l := wrt_len xi true; have hsl2 : s.length ≤ 2306 := by omega
               by_cases h4 : 4 ≤ N
               · have H2 := prtF_run (f := f0) hiL (by rw [HN.out]; exact h4); rw [HN.out, HXi.out] at H2; obtain ⟨j, hj⟩ : ∃ j, i + N - 1 = j := ⟨_, rfl⟩; rw [hj] at H2; have hs3 : (4 : Int) ≤ N := by omega
                 have hxj := Hlt'.out j; have hj0 := Hix.out j (by omega); have hw5 : IntKind.i64.wrap ((i : Int) + (N : Int) - 1) = (j : Int) := by rw [wi64 (by unfold I64; omega)]; omega
                 obtain ⟨xj, hxje⟩ : ∃ x, L.getD j 0 = x := ⟨_, rfl⟩; rw [hxje] at hj0 hxj H2; have hw2l := wrt_len xj true; obtain ⟨t2, ht2⟩ : ∃ t, wrt xi true ++ [45] = t := ⟨_, rfl⟩; obtain ⟨t3, ht3⟩ : ∃ t, t2 ++ wrt xj true = t := ⟨_, rfl⟩; obtain ⟨t4, ht4⟩ : ∃ t, s ++ t3 = t := ⟨_, rfl⟩; have hl2 : t2.length ≤ 5 := by rw [← ht2, List.length_append, List.length_cons, List.length_nil]; omega
                 have hl3 : t3.length ≤ 9 := by rw [← ht3, List.length_append]; omega
                 have hl4 : t4.length ≤ s.length + 9 := by rw [← ht4, List.length_append]; omega
                 have HPn : Hid (R = t4 ++ prtF L f0 (i + N) ++ [93] ∧ n - (i + N) ≤ f0) := Lib.hid ⟨by rw [HP1.out, H2, ← ht4, ← ht3, ← ht2]; simp only [List.append_assoc], by have := HPf.out; omega⟩; have hc2 : (⟨(wrt xi true).toArray⟩ : ByteArray) ++ ⟨#[45]⟩ = ⟨(wrt xi true ++ [45]).toArray⟩ := ba_lits (wrt xi true) [45]; have hc3 := ba_lits t2 (wrt xj true); have hc4 := ba_lits s t3; rw [ht2] at hc2; rw [ht3] at hc3; rw [ht4] at hc4; have hR1 : ∀ W, Calls Tryz.prog 89 #[.int .u8 (xi : Nat), .string ⟨#[45, 47]⟩] W _ := fun W => re_byteText xi hxi true W
                 have hR2 : ∀ W, Calls Tryz.prog 89 #[.int .u8 (xj : Nat), .string ⟨#[45, 47]⟩] W _ := fun W => re_byteText xj hxj true W
                 clear ht2 ht3 ht4 H2 hj hxje; generalize wrt xi true = W1 at hc2 hR1 hw1l; generalize wrt xj true = W2 at hc3 hR2 hw2l; have hif1 : ¬ 9223372036854775807 < W1.length + 1 := by omega
                 have hif2 : ¬ 9223372036854775807 < t2.length + W2.length := by omega
                 have hif3 : ¬ 9223372036854775807 < s.length + t3.length := by omega
                 repeat' (go_not_at_region 19; first | go_values | go_skip | go_guarded | go_step | go_upon)
                 refine gen_wd (fun W => Below w.heap.size w W) HBd.out ?_; intro w5 hb5; have HB5 := Lib.hid hb5; clear hb5 HBd HB; refine wp_region_anyC (by kernel_rfl) w5 ?_; refine tkC 0 rfl ?_; refine tkC 1 rfl ?_; refine tkC 2 rfl ?_; refine tkC 3 rfl ?_; refine tkC 6 rfl ?_; refine tkC 7 rfl ?_; refine tkC 8 rfl ?_; refine tkC 9 rfl ?_; refine tkC 10 rfl ?_; refine tkC 11 rfl ?_; refine genC06 (fun W => Below w5.heap.size w5 W) (Below.refl _ _).drew ?_; intro w6 hb6; refine wpAnyC_ready (CW.of (hb6)) (rs := [4]) (by kernel_rfl) (by simp) ?_
                 refine (AllReadyC.cons rfl (fun K hK => ?_) AllReadyC.nil); go_simp; refine Calls.mono (hR1 w6) ?_; rintro _ w7 ⟨rfl, hb7⟩; dsimp only; refine hK _ _ ?_; clear hK K; have hb8 := hb6.trans (hb7.mono hb6.size); clear hb6 hb7; refine tkC 5 rfl ?_; refine wpAnyC_ready (CW.of (hb8)) (rs := [12]) (by kernel_rfl) (by simp) ?_; refine (AllReadyC.cons rfl (fun K hK => ?_) AllReadyC.nil); go_simp; refine Calls.mono (hR2 w7) ?_; rintro _ w9 ⟨rfl, hb9⟩; dsimp only; refine hK _ _ ?_; clear hK K; have hb10 := hb8.trans (hb9.mono hb8.size); clear hb8 hb9
                 refine tkC 13 rfl ?_; refine tkC 14 rfl ?_; refine tkC 15 rfl ?_; refine wpAnyC_done (by kernel_rfl) (CW.of (hb10)) (by go_simp <;> with_reducible rfl) ?_; have HB10 := Lib.hid (HB5.out.trans (hb10.mono HB5.out.size)); clear hb10 HB5 hR1 hR2 hc2 hc3 hc4 hif1 hif2 hif3 hi0 hj0; wkk; go_roundg (n - (i + N))
                 case rel => exact ⟨i + N, f0, t4, by go_num, rfl, Nat.le_refl _, by omega, by omega, HPn, HB10⟩
                 case measure => omega
               · have H2 := prtF_one (f := f0) hiL (by rw [HN.out]; exact h4); rw [HXi.out] at H2; have hs3 : ¬ (4 : Int) ≤ N := by omega
                 have hw6 : IntKind.i64.wrap ((i : Int) + 1) = (i : Int) + 1 := wi64 (by unfold I64; omega); obtain ⟨t1, ht1⟩ : ∃ t, s ++ wrt xi true = t := ⟨_, rfl⟩; have hl1 : t1.length ≤ s.length + 4 := by rw [← ht1, List.length_append]; omega
                 have HPn : Hid (R = t1 ++ prtF L f0 (i + 1) ++ [93] ∧ n - (i + 1) ≤ f0) := Lib.hid ⟨by rw [HP1.out, H2, ← ht1]; simp only [List.append_assoc], by have := HPf.out; omega⟩; have hc1 := ba_lits s (wrt xi true); rw [ht1] at hc1; have hR1 : ∀ W, Calls Tryz.prog 89 #[.int .u8 (xi : Nat), .string ⟨#[45, 47]⟩] W _ := fun W => re_byteText xi hxi true W
                 clear ht1 H2; generalize wrt xi true = W1 at hc1 hR1 hw1l; have hif1 : ¬ 9223372036854775807 < s.length + W1.length := by omega
                 repeat' (go_not_at_region 21; first | go_values | go_skip | go_guarded | go_step | go_upon)
                 refine gen_wd (fun W => Below w.heap.size w W) HBd.out ?_; intro w5 hb5; have HB5 := Lib.hid hb5; clear hb5 HBd HB; wkk; refine Calls.mono (hR1 _) ?_; rintro _ w6 ⟨rfl, hb6⟩; dsimp only; have HB6 := Lib.hid (HB5.out.trans (hb6.mono HB5.out.size)); clear hb6 HB5 hR1; wkk; go_roundg (n - (i + 1))
                 case rel => exact ⟨i + 1, f0, t1, by go_num, rfl, Nat.le_refl _, by omega, by omega, HPn, HB6⟩
                 case measure => omega
             · have hl1 : (i : Int) + (N : Int) < (n : Int) := by omega
               have i1 := Hix.out (i + N) hd; rw [Int.natCast_add] at i1; have hxk := Hlt'.out (i + N); obtain ⟨y, hy⟩ : ∃ y, L.getD (i + N) 0 = y := ⟨_, rfl⟩; rw [hy] at i1 hd2 hxk; rw [HXi.out] at hd2; have hw4 : IntKind.i64.wrap (y : Int) = (y : Int) := wi64 (by unfold I64; omega); have hne : ((y : Int) == (xi : Int) + (N : Int)) = false := beq_false_of_ne (by omega); clear hy hd2
               repeat' (go_not_at_region 16; first | go_values | go_skip | go_guarded | go_step | go_upon)
               refine wp_region_anyC (by kernel_rfl) wr ?_; refine tkC 0 rfl ?_; refine tkC 1 rfl ?_; refine tkC 2 rfl ?_; refine tkC 3 rfl ?_; refine tkC 4 rfl ?_; refine tkC 5 rfl ?_; refine tkC 6 rfl ?_; refine tkC 7 rfl ?_; refine tkC 8 rfl ?_; refine tkC 9 rfl ?_; refine tkC 10 rfl ?_; refine tkC 11 rfl ?_; refine tkC 12 rfl ?_; refine tkC 13 rfl ?_; refine tkC 14 rfl ?_; refine tkC 15 rfl ?_; refine tkC 16 rfl ?_; refine tkC 17 rfl ?_; refine tkC 18 rfl ?_; refine tkC 19 rfl ?_; refine tkC 20 rfl ?_
               refine wpAnyC_done (by kernel_rfl) (CW.of ((Below.refl _ _).drew)) (by go_simp <;> with_reducible rfl) ?_; clear i1 hw2 hw3 hw4 hne hl1 hd hxk; have HBd : Hid (Below w.heap.size w wr.drew) := Lib.hid (HB.out.trans ((Below.refl _ _).drew)); obtain ⟨f0, rfl⟩ : ∃ g, f = g + 1 := ⟨f - 1, by have := HP.out.2; omega⟩; have HP1 := Lib.hid HP.out.1; have HPf := Lib.hid HP.out.2; have hiL : i < L.length := by rw [← Hn.out]; exact hin
               have hw1l := wrt_len xi true; have hsl2 : s.length ≤ 2306 := by omega
               by_cases h4 : 4 ≤ N
               · have H2 := prtF_run (f := f0) hiL (by rw [HN.out]; exact h4); rw [HN.out, HXi.out] at H2; obtain ⟨j, hj⟩ : ∃ j, i + N - 1 = j := ⟨_, rfl⟩; rw [hj] at H2; have hs3 : (4 : Int) ≤ N := by omega
                 have hxj := Hlt'.out j; have hj0 := Hix.out j (by omega); have hw5 : IntKind.i64.wrap ((i : Int) + (N : Int) - 1) = (j : Int) := by rw [wi64 (by unfold I64; omega)]; omega
                 obtain ⟨xj, hxje⟩ : ∃ x, L.getD j 0 = x := ⟨_, rfl⟩; rw [hxje] at hj0 hxj H2; have hw2l := wrt_len xj true; obtain ⟨t2, ht2⟩ : ∃ t, wrt xi true ++ [45] = t := ⟨_, rfl⟩; obtain ⟨t3, ht3⟩ : ∃ t, t2 ++ wrt xj true = t := ⟨_, rfl⟩; obtain ⟨t4, ht4⟩ : ∃ t, s ++ t3 = t := ⟨_, rfl⟩; have hl2 : t2.length ≤ 5 := by rw [← ht2, List.length_append, List.length_cons, List.length_nil]; omega
                 have hl3 : t3.length ≤ 9 := by rw [← ht3, List.length_append]; omega
                 have hl4 : t4.length ≤ s.length + 9 := by rw [← ht4, List.length_append]; omega
                 have HPn : Hid (R = t4 ++ prtF L f0 (i + N) ++ [93] ∧ n - (i + N) ≤ f0) := Lib.hid ⟨by rw [HP1.out, H2, ← ht4, ← ht3, ← ht2]; simp only [List.append_assoc], by have := HPf.out; omega⟩; have hc2 : (⟨(wrt xi true).toArray⟩ : ByteArray) ++ ⟨#[45]⟩ = ⟨(wrt xi true ++ [45]).toArray⟩ := ba_lits (wrt xi true) [45]; have hc3 := ba_lits t2 (wrt xj true); have hc4 := ba_lits s t3; rw [ht2] at hc2; rw [ht3] at hc3; rw [ht4] at hc4; have hR1 : ∀ W, Calls Tryz.prog 89 #[.int .u8 (xi : Nat), .string ⟨#[45, 47]⟩] W _ := fun W => re_byteText xi hxi true W
                 have hR2 : ∀ W, Calls Tryz.prog 89 #[.int .u8 (xj : Nat), .string ⟨#[45, 47]⟩] W _ := fun W => re_byteText xj hxj true W
                 clear ht2 ht3 ht4 H2 hj hxje; generalize wrt xi true = W1 at hc2 hR1 hw1l; generalize wrt xj true = W2 at hc3 hR2 hw2l; have hif1 : ¬ 9223372036854775807 < W1.length + 1 := by omega
                 have hif2 : ¬ 9223372036854775807 < t2.length + W2.length := by omega
                 have hif3 : ¬ 9223372036854775807 < s.length + t3.length := by omega
                 repeat' (go_not_at_region 19; first | go_values | go_skip | go_guarded | go_step | go_upon)
                 refine gen_wd (fun W => Below w.heap.size w W) HBd.out ?_; intro w5 hb5; have HB5 := Lib.hid hb5; clear hb5 HBd HB; refine wp_region_anyC (by kernel_rfl) w5 ?_; refine tkC 0 rfl ?_; refine tkC 1 rfl ?_; refine tkC 2 rfl ?_; refine tkC 3 rfl ?_; refine tkC 6 rfl ?_; refine tkC 7 rfl ?_; refine tkC 8 rfl ?_; refine tkC 9 rfl ?_; refine tkC 10 rfl ?_; refine tkC 11 rfl ?_; refine genC06 (fun W => Below w5.heap.size w5 W) (Below.refl _ _).drew ?_; intro w6 hb6; refine wpAnyC_ready (CW.of (hb6)) (rs := [4]) (by kernel_rfl) (by simp) ?_
                 refine (AllReadyC.cons rfl (fun K hK => ?_) AllReadyC.nil); go_simp; refine Calls.mono (hR1 w6) ?_; rintro _ w7 ⟨rfl, hb7⟩; dsimp only; refine hK _ _ ?_; clear hK K; have hb8 := hb6.trans (hb7.mono hb6.size); clear hb6 hb7; refine tkC 5 rfl ?_; refine wpAnyC_ready (CW.of (hb8)) (rs := [12]) (by kernel_rfl) (by simp) ?_; refine (AllReadyC.cons rfl (fun K hK => ?_) AllReadyC.nil); go_simp; refine Calls.mono (hR2 w7) ?_; rintro _ w9 ⟨rfl, hb9⟩; dsimp only; refine hK _ _ ?_; clear hK K; have hb10 := hb8.trans (hb9.mono hb8.size); clear hb8 hb9
                 refine tkC 13 rfl ?_; refine tkC 14 rfl ?_; refine tkC 15 rfl ?_; refine wpAnyC_done (by kernel_rfl) (CW.of (hb10)) (by go_simp <;> with_reducible rfl) ?_; have HB10 := Lib.hid (HB5.out.trans (hb10.mono HB5.out.size)); clear hb10 HB5 hR1 hR2 hc2 hc3 hc4 hif1 hif2 hif3 hi0 hj0; wkk; go_roundg (n - (i + N))
                 case rel => exact ⟨i + N, f0, t4, by go_num, rfl, Nat.le_refl _, by omega, by omega, HPn, HB10⟩
                 case measure => omega
               · have H2 := prtF_one (f := f0) hiL (by rw [HN.out]; exact h4); rw [HXi.out] at H2; have hs3 : ¬ (4 : Int) ≤ N := by omega
                 have hw6 : IntKind.i64.wrap ((i : Int) + 1) = (i : Int) + 1 := wi64 (by unfold I64; omega); obtain ⟨t1, ht1⟩ : ∃ t, s ++ wrt xi true = t := ⟨_, rfl⟩; have hl1 : t1.length ≤ s.length + 4 := by rw [← ht1, List.length_append]; omega
                 have HPn : Hid (R = t1 ++ prtF L f0 (i + 1) ++ [93] ∧ n - (i + 1) ≤ f0) := Lib.hid ⟨by rw [HP1.out, H2, ← ht1]; simp only [List.append_assoc], by have := HPf.out; omega⟩; have hc1 := ba_lits s (wrt xi true); rw [ht1] at hc1; have hR1 : ∀ W, Calls Tryz.prog 89 #[.int .u8 (xi : Nat), .string ⟨#[45, 47]⟩] W _ := fun W => re_byteText xi hxi true W
                 clear ht1 H2; generalize wrt xi true = W1 at hc1 hR1 hw1l; have hif1 : ¬ 9223372036854775807 < s.length + W1.length := by omega
                 repeat' (go_not_at_region 21; first | go_values | go_skip | go_guarded | go_step | go_upon)
                 refine gen_wd (fun W => Below w.heap.size w W) HBd.out ?_; intro w5 hb5; have HB5 := Lib.hid hb5; clear hb5 HBd HB; wkk; refine Calls.mono (hR1 _) ?_; rintro _ w6 ⟨rfl, hb6⟩; dsimp only; have HB6 := Lib.hid (HB5.out.trans (hb6.mono HB5.out.size)); clear hb6 HB5 hR1; wkk; go_roundg (n - (i + 1))
                 case rel => exact ⟨i + 1, f0, t1, by go_num, rfl, Nat.le_refl _, by omega, by omega, HPn, HB6⟩
                 case measure => omega
       · obtain rfl : i = n := by omega
         have e : R = s ++ [93] := by rw [HP.out.1, prtF_end (by rw [← Hn.out]; omega), List.append_nil]
         subst e; have hc1 : (⟨s.toArray⟩ : ByteArray) ++ ⟨#[93]⟩ = ⟨(s ++ [93]).toArray⟩ := ba_lits s [93]; have hif1 : ¬ 9223372036854775807 < s.length + 1 := by omega
         clear HP; wkk; go_ret; exact ⟨rfl, HB.out⟩
end Go.Proofs.YtonkenlkigfeoaaGreatDoor
