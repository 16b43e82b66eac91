/- Walks: how a byte is written (the reference's letter, Sign, written). Conditions: a byte. -/
import Derived.Test.YtonkenlkigfeoaaGreatDoorPk11
import Derived.Test.YtonkenlkigfeoaaGreatDoorPk04
import Derived.Deep.LoopGhost
import Derived.Deep.CutBlock
import Derived.Lib.SlBytesConst
namespace Go.Proofs.YtonkenlkigfeoaaGreatDoor
open Go.RowKit
set_option maxRecDepth 100000 in
theorem ref_letter (n : Nat) (hn : n < 16) (w : World) : Calls Tryz.prog 102 #[.int .u8 (n : Nat)] w fun e w' => e = .returned (.string ⟨[hexd n].toArray⟩) ∧ Below w.heap.size w w' := by
 by_cases h : n < 10
 · have h1 : (n : Int) < 10 := by omega
   have hw : IntKind.u8.wrap (48 + (n : Int)) = ((48 + n : Nat) : Int) := by rw [IntKind.wrap_u8]; omega
   have e : hexd n = u8 (48 + n) := by unfold hexd; rw [if_pos h]
   rw [e]; clear e h; generalize 48 + n = m at hw ⊢; go_enter Tryz.func102, Tryz.ntmps102; wkka (first | (with_reducible refine wp_conv_lit1 Tryz.underlying82 Tryz.underlying5 Tryz.underlying9 rfl _ rfl rfl ?_)); go_ret; exact ⟨rfl, (Below.refl _ _).alloc (Nat.le_refl _) _⟩
 · have h1 : ¬ (n : Int) < 10 := by omega
   have hw : IntKind.u8.wrap (97 + (n : Int)) = 97 + (n : Int) := by rw [IntKind.wrap_u8]; omega
   have hw2 : IntKind.u8.wrap (97 + (n : Int) - 10) = ((87 + n : Nat) : Int) := by rw [IntKind.wrap_u8]; omega
   have e : hexd n = u8 (87 + n) := by unfold hexd; rw [if_neg h]
   rw [e]; clear e h; generalize 87 + n = m at hw2 ⊢; go_enter Tryz.func102, Tryz.ntmps102; wkka (first | (with_reducible refine wp_conv_lit1 Tryz.underlying82 Tryz.underlying5 Tryz.underlying9 rfl _ rfl rfl ?_)); go_ret; exact ⟨rfl, (Below.refl _ _).alloc (Nat.le_refl _) _⟩
theorem sgL_get (k : Nat) (hk : k < 14) : sgL[k]? = some (sgL.getD k 0) := by
 rw [List.getD_eq_getElem?_getD, List.getElem?_eq_getElem (by exact hk)]; rfl
abbrev sgC : Array Value := #[.int .u8 92, .int .u8 40, .int .u8 41, .int .u8 91, .int .u8 93, .int .u8 123, .int .u8 125, .int .u8 46, .int .u8 42, .int .u8 43, .int .u8 63, .int .u8 124, .int .u8 94, .int .u8 36]
theorem sgC_get (k : Nat) (hk : k < 14) : sgC[k]? = some (.int .u8 ((sgL.getD k 0 : Nat) : Int)) := by
 rcases (by omega : k = 0 ∨ k = 1 ∨ k = 2 ∨ k = 3 ∨ k = 4 ∨ k = 5 ∨ k = 6 ∨ k = 7 ∨ k = 8 ∨ k = 9 ∨ k = 10 ∨ k = 11 ∨ k = 12 ∨ k = 13) with rfl | rfl | rfl | rfl | rfl | rfl | rfl | rfl | rfl | rfl | rfl | rfl | rfl | rfl <;> rfl
theorem sgL_lt (k : Nat) : sgL.getD k 0 < 256 := by
 by_cases hk : k < 14
 · rcases (by omega : k = 0 ∨ k = 1 ∨ k = 2 ∨ k = 3 ∨ k = 4 ∨ k = 5 ∨ k = 6 ∨ k = 7 ∨ k = 8 ∨ k = 9 ∨ k = 10 ∨ k = 11 ∨ k = 12 ∨ k = 13) with rfl | rfl | rfl | rfl | rfl | rfl | rfl | rfl | rfl | rfl | rfl | rfl | rfl | rfl <;> decide
 · rw [List.getD_eq_getElem?_getD, List.getElem?_eq_none (by show 14 ≤ k; omega)]; decide
set_option maxRecDepth 100000 in
theorem ref_Sign (c : Int) (w : World) : Calls Tryz.prog 101 #[.int .i64 c] w fun e w' => (∃ B, e = .returned (.bool B) ∧ (B = true ↔ ∃ k, k < 14 ∧ ((sgL.getD k 0 : Nat) : Int) = c)) ∧ Below w.heap.size w w' := by
 have hcv := Lib.run_convert_bytes_const (P := Tryz.prog) w 82 5 sgC 14 14 Tryz.underlying82 Tryz.underlying5; have hX : (w.alloc (.cells sgC 5 (14, 15))).heap[w.heap.size]? = some (.cells sgC 5 (14, 15)) := Go.heap_alloc_new _ _; have hB : Below w.heap.size w (w.alloc (.cells sgC 5 (14, 15))) := (Below.refl _ _).alloc (Nat.le_refl _) _; change _ = Result.ok _ (w.alloc (.cells sgC 5 (14, 15))) at hcv; unfold sgC at hcv; have HX := Lib.hid hX; have HB := Lib.hid hB; clear hX hB; go_enter Tryz.func101, Tryz.ntmps101; wkk; clear hcv
 refine gen_wd (fun W => W.heap[w.heap.size]? = some (.cells sgC 5 (14, 15)) ∧ Below w.heap.size w W) ⟨HX.out, HB.out⟩ ?_; clear HX HB; rintro w1 ⟨hX, hB⟩; have HX := Lib.hid hX; have HB := Lib.hid hB; clear hX hB; generalize hg : w.heap.size = g at HX ⊢; rw [hg] at HB
 go_loopg [8] 14 (fun gk s8 wr => ∃ k : Nat, s8 = .int .i64 k ∧ k + gk = 14 ∧ Hid (∀ j, j < k → ((sgL.getD j 0 : Nat) : Int) ≠ c) ∧ Hid (wr.heap[g]? = some (.cells sgC 5 (14, 15))) ∧ Hid (Below g w wr))
 case atStart => exact ⟨0, rfl, rfl, Lib.hid (fun j hj => by omega), HX, HB⟩
 case round =>
   clear HX HB; obtain ⟨k, rfl, hk, HN, HX, HB⟩ := hrel
   by_cases hk4 : k < 14
   · have hk5 : (k : Int) < 14 := by omega
     have c0 : wr.cell? ⟨g, k, none⟩ = some (.int .u8 ((sgL.getD k 0 : Nat) : Int)) := (cell_of_row _ _ k _ _ _ HX.out).trans (sgC_get k hk4); have hlt := sgL_lt k; have HN2 : Hid (((sgL.getD k 0 : Nat) : Int) ≠ c → ∀ j, j < k + 1 → ((sgL.getD j 0 : Nat) : Int) ≠ c) := Lib.hid fun h j hj => by
       by_cases e : j = k
       · rw [e]; exact h
       · exact HN.out j (by omega)
     have HY : Hid (((sgL.getD k 0 : Nat) : Int) = c → ∃ k, k < 14 ∧ ((sgL.getD k 0 : Nat) : Int) = c) := Lib.hid fun h => ⟨k, hk4, h⟩
     generalize sgL.getD k 0 = x at c0 HN2 HY hlt; have hw : IntKind.i64.wrap (x : Int) = (x : Int) := wi64 (by unfold I64; omega)
     by_cases he : (x : Int) = c
     · have heb : ((x : Int) == c) = true := by rw [beq_iff_eq]; exact he
       have HY2 := Lib.hid (HY.out he); clear he HY HN2 HN; wkk; go_ret; exact ⟨⟨true, rfl, ⟨fun _ => HY2.out, fun _ => rfl⟩⟩, by rw [hg]; exact HB.out⟩
     · have heb : ((x : Int) == c) = false := beq_false_of_ne he; have HN3 := Lib.hid (HN2.out he); clear he HY HN2 HN; wkk; go_roundg (gk - 1)
       case rel => exact ⟨k + 1, by go_num, by omega, HN3, HX, HB⟩
       case measure => omega
   · obtain rfl : k = 14 := by omega
     wkk; go_ret; exact ⟨⟨false, rfl, ⟨fun h => (by cases h), fun ⟨j, hj, h⟩ => absurd h (HN.out j hj)⟩⟩, by rw [hg]; exact HB.out⟩
theorem sgn_iff {n : Nat} : (∃ k, k < 14 ∧ ((sgL.getD k 0 : Nat) : Int) = (n : Int)) ↔ n ∈ sgL := by
 constructor
 · rintro ⟨k, hk, h⟩; have h2 : sgL.getD k 0 = n := by omega
   rw [← h2]; exact List.mem_of_getElem? (sgL_get k hk)
 · intro h; obtain ⟨k, hk⟩ := List.getElem?_of_mem h; have hl : k < 14 := (List.getElem?_eq_some_iff.1 hk).1; refine ⟨k, hl, ?_⟩; rw [sgL_get k hl] at hk; simp only [Option.some.injEq] at hk; rw [hk]
theorem ba_lits (a b : List UInt8) : (⟨a.toArray⟩ : ByteArray) ++ ⟨b.toArray⟩ = ⟨(a ++ b).toArray⟩ := by
 apply ByteArray.ext; rw [ByteArray.data_append]
 simp
set_option maxRecDepth 100000 in
set_option maxHeartbeats 1000000 in
theorem ref_written (n : Nat) (hn : n < 256) (inn : Bool) (w : World) : Calls Tryz.prog 83 #[.int .u8 (n : Nat), .bool inn] w fun e w' => e = .returned (.string ⟨(wrt n inn).toArray⟩) ∧ Below w.heap.size w w' := by
 obtain ⟨R, hR⟩ : ∃ R, wrt n inn = R := ⟨_, rfl⟩; have HR := Lib.hid hR; rw [hR]; clear hR
 by_cases h1 : n = 10
 · subst h1; have e : [92, 110] = R := HR.out; subst e; go_enter Tryz.func83, Tryz.ntmps83; wkk; go_ret; exact ⟨rfl, Below.refl _ _⟩
 have b1 : ((n : Int) == 10) = false := beq_false_of_ne (by omega)
 by_cases h2 : n = 9
 · subst h2; have e : [92, 116] = R := HR.out; subst e; go_enter Tryz.func83, Tryz.ntmps83; wkk; go_ret; exact ⟨rfl, Below.refl _ _⟩
 have b2 : ((n : Int) == 9) = false := beq_false_of_ne (by omega)
 by_cases h3 : n = 13
 · subst h3; have e : [92, 114] = R := HR.out; subst e; go_enter Tryz.func83, Tryz.ntmps83; wkk; go_ret; exact ⟨rfl, Below.refl _ _⟩
 have b3 : ((n : Int) == 13) = false := beq_false_of_ne (by omega); have H4 : Hid ((n ∈ sgL ∨ (inn = true ∧ (n = 45 ∨ n = 47))) → R = [92, u8 n]) := Lib.hid fun h => by
   rw [← HR.out]; unfold wrt; rw [if_neg h1, if_neg h2, if_neg h3, if_pos h]
 have H5 : Hid (¬ (n ∈ sgL ∨ (inn = true ∧ (n = 45 ∨ n = 47))) → (32 < n ∧ n < 127) → R = [u8 n]) := Lib.hid fun h h' => by
   rw [← HR.out]; unfold wrt; rw [if_neg h1, if_neg h2, if_neg h3, if_neg h, if_pos h']
 have H6 : Hid (¬ (n ∈ sgL ∨ (inn = true ∧ (n = 45 ∨ n = 47))) → ¬ (32 < n ∧ n < 127) → R = [92, 120, hexd (n / 16), hexd (n % 16)]) := Lib.hid fun h h' => by
   rw [← HR.out]; unfold wrt; rw [if_neg h1, if_neg h2, if_neg h3, if_neg h, if_neg h']
 clear HR h1 h2 h3; have hw : IntKind.i64.wrap (n : Int) = (n : Int) := wi64 (by unfold I64; omega); have hS := ref_Sign n w; rw [sgn_iff] at hS; have hcat : (⟨#[92]⟩ : ByteArray) ++ ⟨#[u8 n]⟩ = ⟨#[92, u8 n]⟩ := ba_lits [92] [u8 n]; go_enter Tryz.func83, Tryz.ntmps83; wkk; refine Calls.mono (hS) ?_; rintro _ w1 ⟨⟨B, rfl, hBi⟩, hb1⟩; dsimp only; have HB := Lib.hid hb1; clear hS hb1
 -- the letter stands behind a backslash?
 by_cases hq : n ∈ sgL ∨ (inn = true ∧ (n = 45 ∨ n = 47))
 · have e := H4.out hq; subst e; clear H4 H5 H6
   cases B with
   | true =>
     clear hBi hq; wkka (first | (with_reducible refine wp_conv_lit1 Tryz.underlying82 Tryz.underlying5 Tryz.underlying9 rfl _ rfl rfl ?_)); go_ret; exact ⟨by first | rfl | (congr 2), HB.out.alloc HB.out.size _⟩
   | false =>
     have hq2 : inn = true ∧ (n = 45 ∨ n = 47) := by
       rcases hq with h | h
       · exact absurd (hBi.2 h) (by decide)
       · exact h
     obtain ⟨rfl, hq3⟩ := hq2; clear hBi hq
     rcases hq3 with rfl | rfl
     · wkka (first | (with_reducible refine wp_conv_lit1 Tryz.underlying82 Tryz.underlying5 Tryz.underlying9 rfl _ rfl rfl ?_)); go_ret; exact ⟨by first | rfl | (congr 2), HB.out.alloc HB.out.size _⟩
     · wkka (first | (with_reducible refine wp_conv_lit1 Tryz.underlying82 Tryz.underlying5 Tryz.underlying9 rfl _ rfl rfl ?_)); go_ret; exact ⟨by first | rfl | (congr 2), HB.out.alloc HB.out.size _⟩
 · have hnB : B = false := by
     cases B with
     | true => exact absurd (.inl (hBi.1 rfl)) hq
     | false => rfl
   subst hnB; have H5' := Lib.hid (H5.out hq); have H6' := Lib.hid (H6.out hq); have hin : inn = false ∨ (inn = true ∧ ((n : Int) == 45) = false ∧ ((n : Int) == 47) = false) := by
     cases inn with
     | false => exact .inl rfl
     | true => exact .inr ⟨rfl, beq_false_of_ne (fun h => hq (.inr ⟨rfl, .inl (by omega)⟩)), beq_false_of_ne (fun h => hq (.inr ⟨rfl, .inr (by omega)⟩))⟩
   clear hBi hq H4 H5 H6; have hd1 : (n : Int) / 16 = ((n / 16 : Nat) : Int) := by omega
   have hd2 : (n : Int) % 16 = ((n % 16 : Nat) : Int) := by omega
   have hl1 := fun w => ref_letter (n / 16) (by omega) w
   have hl2 := fun w => ref_letter (n % 16) (by omega) w
   by_cases hr : 32 < n ∧ n < 127
   · have e := H5'.out hr; subst e; have hr1 : (33 : Int) ≤ n := by omega
     have hr2 : (n : Int) ≤ 126 := by omega
     clear H5' H6' hl1 hl2 hd1 hd2
     rcases hin with rfl | ⟨rfl, b4, b5⟩
     · wkka (first | (with_reducible refine wp_conv_lit1 Tryz.underlying82 Tryz.underlying5 Tryz.underlying9 rfl _ rfl rfl ?_)); go_ret; exact ⟨rfl, HB.out.alloc HB.out.size _⟩
     · wkka (first | (with_reducible refine wp_conv_lit1 Tryz.underlying82 Tryz.underlying5 Tryz.underlying9 rfl _ rfl rfl ?_)); go_ret; exact ⟨rfl, HB.out.alloc HB.out.size _⟩
   · have e := H6'.out hr; subst e; have hc1 : (⟨#[92, 120]⟩ : ByteArray) ++ ⟨#[hexd (n / 16)]⟩ = ⟨#[92, 120, hexd (n / 16)]⟩ := ba_lits [92, 120] [hexd (n / 16)]; have hc2 : (⟨#[92, 120, hexd (n / 16)]⟩ : ByteArray) ++ ⟨#[hexd (n % 16)]⟩ = ⟨#[92, 120, hexd (n / 16), hexd (n % 16)]⟩ := ba_lits [92, 120, hexd (n / 16)] [hexd (n % 16)]; obtain ⟨x1, hx1⟩ : ∃ x, hexd (n / 16) = x := ⟨_, rfl⟩; obtain ⟨x2, hx2⟩ : ∃ x, hexd (n % 16) = x := ⟨_, rfl⟩; rw [hx1] at hl1 hc1 hc2; rw [hx2] at hl2 hc2; have HX1 := Lib.hid hx1; have HX2 := Lib.hid hx2; clear hx1 hx2; generalize n / 16 = m1 at hl1 hd1
     generalize n % 16 = m2 at hl2 hd2; have hr' : ¬ (33 : Int) ≤ n ∨ ((33 : Int) ≤ n ∧ ¬ (n : Int) ≤ 126) := by omega
     clear H5' H6' hr
     rcases hin with rfl | ⟨rfl, b4, b5⟩ <;> rcases hr' with hr1 | ⟨hr1, hr2⟩
     all_goals
       wkk; refine Calls.mono (hl1 _) ?_; rintro _ w2 ⟨rfl, hb2⟩; dsimp only; have HB2 := Lib.hid (HB.out.trans (hb2.mono HB.out.size)); clear hb2 HB hl1; wkk; refine Calls.mono (hl2 _) ?_; rintro _ w3 ⟨rfl, hb3⟩; dsimp only; have HB3 := Lib.hid (HB2.out.trans (hb3.mono HB2.out.size)); clear hb3 HB2 hl2; wkk; go_ret; exact ⟨(by have h1 := HX1.out; have h2 := HX2.out; subst h1 h2; rfl), HB3.out⟩
open Go.RowKit
theorem genC06 {P : Program} {md : Region.Mode} {ops : Array Oper} {C : World → Prop} {Q : Exit → Act → World → Prop} {fuel : Nat} {listed : Array Bool} {a : Act} {w : World} (F : World → Prop) (hF : F w) (h : ∀ w', F w' → wpAnyC P md ops C Q fuel listed a w') : wpAnyC P md ops C Q fuel listed a w := h w hF
theorem str_at (L : List Nat) (hL : ∀ x ∈ L, x < 256) (i : Nat) (hi : i < L.length) (w : World) : (Instr.index 9 (.string ⟨(L.map u8).toArray⟩) (.int .i64 (i : Int))).run Tryz.prog w = .ok (.int .u8 ((L.getD i 0 : Nat) : Int)) w := by
 have hx : L.getD i 0 = L[i] := by rw [List.getD_eq_getElem?_getD, List.getElem?_eq_getElem hi]; rfl
 have hlt := hL _ (List.getElem_mem hi); have hs : (⟨(L.map u8).toArray⟩ : ByteArray).size = L.length := by simp [ByteArray.size]
 have hin : i < (⟨(L.map u8).toArray⟩ : ByteArray).size := by rw [hs]; exact hi
 have hg : ((⟨(L.map u8).toArray⟩ : ByteArray)[i]'hin).toNat = L[i] := by
   have e : (⟨(L.map u8).toArray⟩ : ByteArray)[i]'hin = (L.map u8).toArray[i]'(by simpa using hi) := rfl; rw [e, List.getElem_toArray, List.getElem_map, u8_toNat_lt hlt]
 have hi' : 0 ≤ (i : Int) ∧ (i : Int) < ((⟨(L.map u8).toArray⟩ : ByteArray).size : Int) := by rw [hs]; omega
 rw [run_index_string w _ _ _ _ Tryz.underlying9, dif_pos hi', hx, ← hg]; rfl
set_option maxRecDepth 100000 in
set_option maxHeartbeats 4000000 in
theorem ref_parts (L : List Nat) (hL : ∀ x ∈ L, x < 256) (hn : L.length ≤ 256) (w : World) : Calls Tryz.prog 86 #[.string ⟨(L.map u8).toArray⟩] w fun e w' => e = .returned (.string ⟨(prt L).toArray⟩) ∧ Below w.heap.size w w' := by
 obtain ⟨S, hS⟩ : ∃ S : ByteArray, S = ⟨(L.map u8).toArray⟩ := ⟨_, rfl⟩; obtain ⟨n, hnn⟩ : ∃ n, n = L.length := ⟨_, rfl⟩; have hsz : S.size = n := by rw [hS, hnn]; simp [ByteArray.size]
 have Hix : Hid (∀ i, i < n → ∀ w, (Instr.index 9 (.string S) (.int .i64 (i : Int))).run Tryz.prog w = .ok (.int .u8 ((L.getD i 0 : Nat) : Int)) w) := Lib.hid fun i hi w => by rw [hS]; exact str_at L hL i (by rw [← hnn]; exact hi) w
 have Hlt : Hid (∀ i, L.getD i 0 < 256) := Lib.hid fun i => by
   by_cases h : i < L.length
   · rw [List.getD_eq_getElem?_getD, List.getElem?_eq_getElem h]; exact hL _ (List.getElem_mem h)
   · rw [List.getD_eq_getElem?_getD, List.getElem?_eq_none (by omega)]; decide
 have Hn := Lib.hid hnn; have hn256 : n ≤ 256 := by rw [hnn]; exact hn
 rw [← hS]; have H0 : Hid (prt L = [] ++ prtF L n 0 ∧ n - 0 ≤ n) := Lib.hid ⟨by rw [hnn]; rfl, by omega⟩; clear hS hnn hL hn; go_enter Tryz.func86, Tryz.ntmps86; wkk
 go_loopg [3, 4] n (fun gk s3 s4 wr => ∃ (i f : Nat) (s : List UInt8), s4 = .int .i64 i ∧ s3 = .string ⟨s.toArray⟩ ∧ n - i ≤ gk ∧ i ≤ n ∧ s.length ≤ 9 * i ∧ Hid (prt L = s ++ prtF L f i ∧ n - i ≤ f) ∧ Hid (Below w.heap.size w wr))
 case atStart => exact ⟨0, n, [], rfl, rfl, by omega, Nat.zero_le _, Nat.zero_le _, H0, Lib.hid (Below.refl _ _)⟩
 case round =>
   clear H0; obtain ⟨i, f, s, rfl, rfl, hg, hi, hsl, HP, HB⟩ := hrel
   by_cases hin : i < n
   · have hin' : (i : Int) < n := by omega
     have HG0 : Hid (runF L i (n - i) 1 = runN L i ∧ n - i < n - i + 1) := Lib.hid ⟨by unfold runN; rw [← Hn.out], by omega⟩; have hN := runN_b (l := L) (i := i) (by rw [← Hn.out]; exact hin); rw [← Hn.out] at hN; obtain ⟨N, hNe⟩ : ∃ N, runN L i = N := ⟨_, rfl⟩; rw [hNe] at HG0 hN; have HN := Lib.hid hNe; clear hNe; wkk
     go_loopg [5] (n - i) (fun gj s5 wi => ∃ (j f' : Nat), s5 = .int .i64 j ∧ i ≤ j ∧ j < n ∧ n - j ≤ gj ∧ Hid (L.getD j 0 = L.getD i 0 + (j - i) ∧ runF L i f' (j - i + 1) = N ∧ n - i < f' + (j - i + 1)) ∧ Hid (Below w.heap.size w wi))
     case atStart => exact ⟨i, n - i, rfl, Nat.le_refl _, hin, Nat.le_refl _, Lib.hid ⟨by omega, by rw [Nat.sub_self]; exact HG0.out.1, by omega⟩, HB⟩
     case round =>
       clear HB HG0; obtain ⟨j, f', rfl, hj1, hj2, hgj, HJ, HB⟩ := hrel; have hw1 : IntKind.i64.wrap ((j : Int) + 1) = (j : Int) + 1 := wi64 (by unfold I64; omega)
       -- the run goes on?
       by_cases hgo : j + 1 < n ∧ L.getD (j + 1) 0 = L.getD j 0 + 1
       · obtain ⟨hg1, hg2⟩ := hgo
         have hstep := runF_go (l := L) (i := i) (f := f') (n := j - i + 1) (by rw [← Hn.out]; exact HJ.out.2.2) ⟨by rw [← Hn.out]; omega, by
           rw [show i + (j - i + 1) = j + 1 by omega, hg2, HJ.out.1]; omega⟩
         obtain ⟨f2, _, hf2⟩ := hstep; have HJ2 : Hid (L.getD (j + 1) 0 = L.getD i 0 + (j + 1 - i) ∧ runF L i f2 (j + 1 - i + 1) = N ∧ n - i < f2 + (j + 1 - i + 1)) := Lib.hid ⟨by rw [hg2, HJ.out.1]; omega, by rw [show j + 1 - i + 1 = j - i + 1 + 1 by omega, ← hf2]; exact HJ.out.2.1, by have := HJ.out.2.2; omega⟩; have i1 := Hix.out (j + 1) hg1; have i2 := Hix.out j hj2; rw [Int.natCast_add] at i1; change ∀ w, (Instr.index 9 (.string S) (.int .i64 ((j : Int) + 1))).run Tryz.prog w = _ at i1; rw [hg2] at i1; have hx := Hlt.out j; generalize L.getD j 0 = x at i1 i2 hx
         rw [Int.natCast_add] at i1; change ∀ w, (Instr.index 9 (.string S) (.int .i64 ((j : Int) + 1))).run Tryz.prog w = Result.ok (.int .u8 ((x : Int) + 1)) w at i1; have hw2 : IntKind.i64.wrap ((x : Int) + 1) = (x : Int) + 1 := wi64 (by unfold I64; omega); have hw3 : IntKind.i64.wrap (x : Int) = (x : Int) := wi64 (by unfold I64; omega); have hl1 : (j : Int) + 1 < (n : Int) := by omega
         clear hf2 hg2 HJ hx
         repeat' (go_not_at_region 5; first | go_values | go_skip | go_guarded | go_step | go_upon)
         refine wp_region_anyC (by kernel_rfl) wr ?_; refine tkC 0 rfl ?_; refine tkC 1 rfl ?_; refine tkC 2 rfl ?_; refine tkC 3 rfl ?_; refine tkC 4 rfl ?_; refine tkC 5 rfl ?_; refine tkC 6 rfl ?_; refine tkC 7 rfl ?_; refine tkC 8 rfl ?_; refine tkC 9 rfl ?_; refine tkC 10 rfl ?_; refine tkC 11 rfl ?_; refine tkC 12 rfl ?_; refine tkC 13 rfl ?_; refine tkC 14 rfl ?_; refine tkC 15 rfl ?_; refine tkC 16 rfl ?_; refine tkC 17 rfl ?_; refine wpAnyC_done (by kernel_rfl) (CW.of ((Below.refl _ _).drew)) (by go_simp <;> with_reducible rfl) ?_; clear i1 i2 hw2 hw3; wkk
         go_roundg (gk - 1)
         case rel => exact ⟨j + 1, f2, by go_num, by omega, hg1, by omega, HJ2, Lib.hid (HB.out.trans ((Below.refl _ _).drew))⟩
         case measure => omega
       · have hstop : N = j - i + 1 := by
           rw [← HJ.out.2.1]
           exact runF_stop (fun h => hgo ⟨by rw [Hn.out]; omega, by
             have := h.2; rw [show i + (j - i + 1) = j + 1 by omega] at this
             rw [this, HJ.out.1]; omega⟩)
         have Hj : Hid (L.getD j 0 = L.getD i 0 + (j - i)) := Lib.hid HJ.out.1; have hj0 := Hix.out j hj2; have hi0 := Hix.out i hin; have hxi := Hlt.out i; have hxj := Hlt.out j; have hdec : (¬ j + 1 < n) ∨ (j + 1 < n ∧ L.getD (j + 1) 0 ≠ L.getD j 0 + 1) := by
           by_cases h : j + 1 < n
           · exact .inr ⟨h, fun e => hgo ⟨h, e⟩⟩
           · exact .inl h
         have hsub : IntKind.i64.wrap ((j : Int) - (i : Int)) = (j : Int) - (i : Int) := wi64 (by unfold I64; omega); clear HJ hgo
         rcases hdec with hd | ⟨hd, hd2⟩
         · have hl1 : ¬ (j : Int) + 1 < (n : Int) := by omega
           repeat' (go_not_at_region 5; first | go_values | go_skip | go_guarded | go_step | go_upon)
           refine wp_region_anyC (by kernel_rfl) wr ?_; refine tkC 0 rfl ?_; refine tkC 1 rfl ?_; refine tkC 2 rfl ?_; refine tkC 3 rfl ?_; refine tkC 4 rfl ?_; refine tkC 5 rfl ?_; refine skC 6 rfl ?_; refine skC 7 rfl ?_; refine skC 8 rfl ?_; refine skC 9 rfl ?_; refine skC 10 rfl ?_; refine skC 11 rfl ?_; refine skC 12 rfl ?_; refine skC 13 rfl ?_; refine skC 14 rfl ?_; refine skC 15 rfl ?_; refine skC 16 rfl ?_; refine tkC 17 rfl ?_; refine wpAnyC_done (by kernel_rfl) (CW.of ((Below.refl _ _).drew)) (by go_simp <;> with_reducible rfl) ?_; clear hl1 hd
           have HBd : Hid (Below w.heap.size w wr.drew) := Lib.hid (HB.out.trans ((Below.refl _ _).drew)); obtain ⟨f0, rfl⟩ : ∃ g, f = g + 1 := ⟨f - 1, by have := HP.out.2; omega⟩; have HP1 := Lib.hid HP.out.1; have HPf := Lib.hid HP.out.2; have hiL : i < L.length := by rw [← Hn.out]; exact hin
           have hw1l := wrt_len (L.getD i 0) true; have hw2l := wrt_len (L.getD j 0) true; have hsl2 : s.length ≤ 2304 := by omega
           by_cases h4 : 4 ≤ N
           · have hjN : j = i + N - 1 := by omega
             have H2 := prtF_run (f := f0) hiL (by rw [HN.out]; exact h4); rw [HN.out, ← hjN] at H2; have hs3 : ¬ (j : Int) - (i : Int) < 3 := by omega
             obtain ⟨t1, ht1⟩ : ∃ t, s ++ wrt (L.getD i 0) true = t := ⟨_, rfl⟩; obtain ⟨t2, ht2⟩ : ∃ t, t1 ++ [45] = t := ⟨_, rfl⟩; obtain ⟨t3, ht3⟩ : ∃ t, t2 ++ wrt (L.getD j 0) true = t := ⟨_, rfl⟩; have hl1 : t1.length ≤ s.length + 4 := by rw [← ht1, List.length_append]; omega
             have hl2 : t2.length ≤ s.length + 5 := by rw [← ht2, List.length_append, List.length_cons, List.length_nil]; omega
             have hl3 : t3.length ≤ s.length + 9 := by rw [← ht3, List.length_append]; omega
             have HPn : Hid (prt L = t3 ++ prtF L f0 (j + 1) ∧ n - (j + 1) ≤ f0) := Lib.hid ⟨by rw [HP1.out, H2, ← ht3, ← ht2, ← ht1, show i + N = j + 1 by omega]; simp only [List.append_assoc], by have := HPf.out; omega⟩; have hc1 := ba_lits s (wrt (L.getD i 0) true); have hc2 : (⟨t1.toArray⟩ : ByteArray) ++ ⟨#[45]⟩ = ⟨(t1 ++ [45]).toArray⟩ := ba_lits t1 [45]; have hc3 := ba_lits t2 (wrt (L.getD j 0) true); rw [ht1] at hc1; rw [ht2] at hc2; rw [ht3] at hc3; have hR1 := fun W => ref_written (L.getD i 0) hxi true W
             have hR2 := fun W => ref_written (L.getD j 0) hxj true W
             clear ht1 ht2 ht3 H2 Hj hjN hstop; generalize wrt (L.getD i 0) true = W1 at hc1 hR1 hw1l; generalize wrt (L.getD j 0) true = W2 at hc3 hR2 hw2l; generalize L.getD i 0 = xi at hi0 hR1; generalize L.getD j 0 = xj at hj0 hR2; have hif1 : ¬ 9223372036854775807 < s.length + W1.length := by omega
             have hif2 : ¬ 9223372036854775807 < t1.length + 1 := by omega
             have hif3 : ¬ 9223372036854775807 < t2.length + W2.length := by omega
             repeat' (go_not_at_region 10; first | go_values | go_skip | go_guarded | go_step | go_upon)
             refine gen_wd (fun W => Below w.heap.size w W) HBd.out ?_; intro w5 hb5; have HB5 := Lib.hid hb5; clear hb5 HBd HB; refine wp_region_anyC (by kernel_rfl) w5 ?_; refine tkC 0 rfl ?_; refine tkC 1 rfl ?_; refine tkC 2 rfl ?_; refine tkC 3 rfl ?_; refine tkC 7 rfl ?_; refine tkC 8 rfl ?_; refine tkC 9 rfl ?_; refine genC06 (fun W => Below w5.heap.size w5 W) (Below.refl _ _).drew ?_; intro w6 hb6; refine wpAnyC_ready (CW.of (hb6)) (rs := [4]) (by kernel_rfl) (by simp) ?_; refine (AllReadyC.cons rfl (fun K hK => ?_) AllReadyC.nil); go_simp; refine Calls.mono (hR1 w6) ?_
             rintro _ w7 ⟨rfl, hb7⟩; dsimp only; refine hK _ _ ?_; clear hK K; have hb8 := hb6.trans (hb7.mono hb6.size); clear hb6 hb7; refine tkC 5 rfl ?_; refine tkC 6 rfl ?_; refine wpAnyC_ready (CW.of (hb8)) (rs := [10]) (by kernel_rfl) (by simp) ?_; refine (AllReadyC.cons rfl (fun K hK => ?_) AllReadyC.nil); go_simp; refine Calls.mono (hR2 w7) ?_; rintro _ w9 ⟨rfl, hb9⟩; dsimp only; refine hK _ _ ?_; clear hK K; have hb10 := hb8.trans (hb9.mono hb8.size); clear hb8 hb9; refine tkC 11 rfl ?_; refine tkC 12 rfl ?_
             refine wpAnyC_done (by kernel_rfl) (CW.of (hb10)) (by go_simp <;> with_reducible rfl) ?_; have HB10 := Lib.hid (HB5.out.trans (hb10.mono HB5.out.size)); clear hb10 HB5 hR1 hR2 hc1 hc2 hc3 hif1 hif2 hif3 hi0 hj0; wkk; go_roundg (n - (j + 1))
             case rel => exact ⟨j + 1, f0, t3, by go_num, rfl, Nat.le_refl _, by omega, by omega, HPn, HB10⟩
             case measure => omega
           · have H2 := prtF_one (f := f0) hiL (by rw [HN.out]; exact h4); have hs3 : (j : Int) - (i : Int) < 3 := by omega
             obtain ⟨t1, ht1⟩ : ∃ t, s ++ wrt (L.getD i 0) true = t := ⟨_, rfl⟩; have hl1 : t1.length ≤ s.length + 4 := by rw [← ht1, List.length_append]; omega
             have HPn : Hid (prt L = t1 ++ prtF L f0 (i + 1) ∧ n - (i + 1) ≤ f0) := Lib.hid ⟨by rw [HP1.out, H2, ← ht1]; simp only [List.append_assoc], by have := HPf.out; omega⟩; have hc1 := ba_lits s (wrt (L.getD i 0) true); rw [ht1] at hc1; have hR1 := fun W => ref_written (L.getD i 0) hxi true W
             clear ht1 H2 Hj hstop; generalize wrt (L.getD i 0) true = W1 at hc1 hR1 hw1l; generalize L.getD i 0 = xi at hi0 hR1; have hif1 : ¬ 9223372036854775807 < s.length + W1.length := by omega
             repeat' (go_not_at_region 9; first | go_values | go_skip | go_guarded | go_step | go_upon)
             refine gen_wd (fun W => Below w.heap.size w W) HBd.out ?_; intro w5 hb5; have HB5 := Lib.hid hb5; clear hb5 HBd HB; wkk; refine Calls.mono (hR1 _) ?_; rintro _ w6 ⟨rfl, hb6⟩; dsimp only; have HB6 := Lib.hid (HB5.out.trans (hb6.mono HB5.out.size)); clear hb6 HB5 hR1; wkk; go_roundg (n - (i + 1))
             case rel => exact ⟨i + 1, f0, t1, by go_num, rfl, Nat.le_refl _, by omega, by omega, HPn, HB6⟩
             case measure => omega
         · have hl1 : (j : Int) + 1 < (n : Int) := by omega
           have i1 := Hix.out (j + 1) hd; rw [Int.natCast_add] at i1; change ∀ w, (Instr.index 9 (.string S) (.int .i64 ((j : Int) + 1))).run Tryz.prog w = _ at i1; have hxk := Hlt.out (j + 1); obtain ⟨y, hy⟩ : ∃ y, L.getD (j + 1) 0 = y := ⟨_, rfl⟩; obtain ⟨x, hx⟩ : ∃ x, L.getD j 0 = x := ⟨_, rfl⟩; have hj1 := hj0; rw [hx] at hj1 hd2 hxj; rw [hy] at i1 hd2 hxk; have hw2 : IntKind.i64.wrap ((x : Int) + 1) = (x : Int) + 1 := wi64 (by unfold I64; omega); have hw3 : IntKind.i64.wrap (x : Int) = (x : Int) := wi64 (by unfold I64; omega)
           have hw4 : IntKind.i64.wrap (y : Int) = (y : Int) := wi64 (by unfold I64; omega); have hne : ((y : Int) == (x : Int) + 1) = false := beq_false_of_ne (by omega); have Hx := Lib.hid hx; clear hx hy hd2; have Hj0 := Lib.hid hj0; clear hj0
           repeat' (go_not_at_region 5; first | go_values | go_skip | go_guarded | go_step | go_upon)
           refine wp_region_anyC (by kernel_rfl) wr ?_; refine tkC 0 rfl ?_; refine tkC 1 rfl ?_; refine tkC 2 rfl ?_; refine tkC 3 rfl ?_; refine tkC 4 rfl ?_; refine tkC 5 rfl ?_; refine tkC 6 rfl ?_; refine tkC 7 rfl ?_; refine tkC 8 rfl ?_; refine tkC 9 rfl ?_; refine tkC 10 rfl ?_; refine tkC 11 rfl ?_; refine tkC 12 rfl ?_; refine tkC 13 rfl ?_; refine tkC 14 rfl ?_; refine tkC 15 rfl ?_; refine tkC 16 rfl ?_; refine tkC 17 rfl ?_; refine wpAnyC_done (by kernel_rfl) (CW.of ((Below.refl _ _).drew)) (by go_simp <;> with_reducible rfl) ?_; have hj0 := Hj0.out
           rw [← Hx.out] at hxj; clear i1 hw2 hw3 hw4 hne hj1 hl1 hd hxk Hx Hj0; have HBd : Hid (Below w.heap.size w wr.drew) := Lib.hid (HB.out.trans ((Below.refl _ _).drew)); obtain ⟨f0, rfl⟩ : ∃ g, f = g + 1 := ⟨f - 1, by have := HP.out.2; omega⟩; have HP1 := Lib.hid HP.out.1; have HPf := Lib.hid HP.out.2; have hiL : i < L.length := by rw [← Hn.out]; exact hin
           have hw1l := wrt_len (L.getD i 0) true; have hw2l := wrt_len (L.getD j 0) true; have hsl2 : s.length ≤ 2304 := by omega
           by_cases h4 : 4 ≤ N
           · have hjN : j = i + N - 1 := by omega
             have H2 := prtF_run (f := f0) hiL (by rw [HN.out]; exact h4); rw [HN.out, ← hjN] at H2; have hs3 : ¬ (j : Int) - (i : Int) < 3 := by omega
             obtain ⟨t1, ht1⟩ : ∃ t, s ++ wrt (L.getD i 0) true = t := ⟨_, rfl⟩; obtain ⟨t2, ht2⟩ : ∃ t, t1 ++ [45] = t := ⟨_, rfl⟩; obtain ⟨t3, ht3⟩ : ∃ t, t2 ++ wrt (L.getD j 0) true = t := ⟨_, rfl⟩; have hl1 : t1.length ≤ s.length + 4 := by rw [← ht1, List.length_append]; omega
             have hl2 : t2.length ≤ s.length + 5 := by rw [← ht2, List.length_append, List.length_cons, List.length_nil]; omega
             have hl3 : t3.length ≤ s.length + 9 := by rw [← ht3, List.length_append]; omega
             have HPn : Hid (prt L = t3 ++ prtF L f0 (j + 1) ∧ n - (j + 1) ≤ f0) := Lib.hid ⟨by rw [HP1.out, H2, ← ht3, ← ht2, ← ht1, show i + N = j + 1 by omega]; simp only [List.append_assoc], by have := HPf.out; omega⟩; have hc1 := ba_lits s (wrt (L.getD i 0) true); have hc2 : (⟨t1.toArray⟩ : ByteArray) ++ ⟨#[45]⟩ = ⟨(t1 ++ [45]).toArray⟩ := ba_lits t1 [45]; have hc3 := ba_lits t2 (wrt (L.getD j 0) true); rw [ht1] at hc1; rw [ht2] at hc2; rw [ht3] at hc3; have hR1 := fun W => ref_written (L.getD i 0) hxi true W
             have hR2 := fun W => ref_written (L.getD j 0) hxj true W
             clear ht1 ht2 ht3 H2 Hj hjN hstop; generalize wrt (L.getD i 0) true = W1 at hc1 hR1 hw1l; generalize wrt (L.getD j 0) true = W2 at hc3 hR2 hw2l; generalize L.getD i 0 = xi at hi0 hR1; generalize L.getD j 0 = xj at hj0 hR2; have hif1 : ¬ 9223372036854775807 < s.length + W1.length := by omega
             have hif2 : ¬ 9223372036854775807 < t1.length + 1 := by omega
             have hif3 : ¬ 9223372036854775807 < t2.length + W2.length := by omega
             repeat' (go_not_at_region 10; first | go_values | go_skip | go_guarded | go_step | go_upon)
             refine gen_wd (fun W => Below w.heap.size w W) HBd.out ?_; intro w5 hb5; have HB5 := Lib.hid hb5; clear hb5 HBd HB; refine wp_region_anyC (by kernel_rfl) w5 ?_; refine tkC 0 rfl ?_; refine tkC 1 rfl ?_; refine tkC 2 rfl ?_; refine tkC 3 rfl ?_; refine tkC 7 rfl ?_; refine tkC 8 rfl ?_; refine tkC 9 rfl ?_; refine genC06 (fun W => Below w5.heap.size w5 W) (Below.refl _ _).drew ?_; intro w6 hb6; refine wpAnyC_ready (CW.of (hb6)) (rs := [4]) (by kernel_rfl) (by simp) ?_; refine (AllReadyC.cons rfl (fun K hK => ?_) AllReadyC.nil); go_simp; refine Calls.mono (hR1 w6) ?_
             rintro _ w7 ⟨rfl, hb7⟩; dsimp only; refine hK _ _ ?_; clear hK K; have hb8 := hb6.trans (hb7.mono hb6.size); clear hb6 hb7; refine tkC 5 rfl ?_; refine tkC 6 rfl ?_; refine wpAnyC_ready (CW.of (hb8)) (rs := [10]) (by kernel_rfl) (by simp) ?_; refine (AllReadyC.cons rfl (fun K hK => ?_) AllReadyC.nil); go_simp; refine Calls.mono (hR2 w7) ?_; rintro _ w9 ⟨rfl, hb9⟩; dsimp only; refine hK _ _ ?_; clear hK K; have hb10 := hb8.trans (hb9.mono hb8.size); clear hb8 hb9; refine tkC 11 rfl ?_; refine tkC 12 rfl ?_
             refine wpAnyC_done (by kernel_rfl) (CW.of (hb10)) (by go_simp <;> with_reducible rfl) ?_; have HB10 := Lib.hid (HB5.out.trans (hb10.mono HB5.out.size)); clear hb10 HB5 hR1 hR2 hc1 hc2 hc3 hif1 hif2 hif3 hi0 hj0; wkk; go_roundg (n - (j + 1))
             case rel => exact ⟨j + 1, f0, t3, by go_num, rfl, Nat.le_refl _, by omega, by omega, HPn, HB10⟩
             case measure => omega
           · have H2 := prtF_one (f := f0) hiL (by rw [HN.out]; exact h4); have hs3 : (j : Int) - (i : Int) < 3 := by omega
             obtain ⟨t1, ht1⟩ : ∃ t, s ++ wrt (L.getD i 0) true = t := ⟨_, rfl⟩; have hl1 : t1.length ≤ s.length + 4 := by rw [← ht1, List.length_append]; omega
             have HPn : Hid (prt L = t1 ++ prtF L f0 (i + 1) ∧ n - (i + 1) ≤ f0) := Lib.hid ⟨by rw [HP1.out, H2, ← ht1]; simp only [List.append_assoc], by have := HPf.out; omega⟩; have hc1 := ba_lits s (wrt (L.getD i 0) true); rw [ht1] at hc1; have hR1 := fun W => ref_written (L.getD i 0) hxi true W
             clear ht1 H2 Hj hstop; generalize wrt (L.getD i 0) true = W1 at hc1 hR1 hw1l; generalize L.getD i 0 = xi at hi0 hR1; have hif1 : ¬ 9223372036854775807 < s.length + W1.length := by omega
             repeat' (go_not_at_region 9; first | go_values | go_skip | go_guarded | go_step | go_upon)
             refine gen_wd (fun W => Below w.heap.size w W) HBd.out ?_; intro w5 hb5; have HB5 := Lib.hid hb5; clear hb5 HBd HB; wkk; refine Calls.mono (hR1 _) ?_; rintro _ w6 ⟨rfl, hb6⟩; dsimp only; have HB6 := Lib.hid (HB5.out.trans (hb6.mono HB5.out.size)); clear hb6 HB5 hR1; wkk; go_roundg (n - (i + 1))
             case rel => exact ⟨i + 1, f0, t1, by go_num, rfl, Nat.le_refl _, by omega, by omega, HPn, HB6⟩
             case measure => omega
   · obtain rfl : i = n := by omega
     have e : prt L = s := by rw [HP.out.1, prtF_end (by rw [← Hn.out]; omega), List.append_nil]
     subst e; wkk; go_ret; exact ⟨rfl, HB.out⟩
end Go.Proofs.YtonkenlkigfeoaaGreatDoor
