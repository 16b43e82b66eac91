/- Walks: which rules may be, how much they let grow, by the reference (fretsawref11.Right, Grow). Condition: the rules lie in memory. -/
import Derived.Test.YtonkenlkigfeoaaGreatDoorPk18
import Derived.Deep.CutBlock
namespace Go.Proofs.YtonkenlkigfeoaaGreatDoor
open Go.RowKit Go.Deep
set_option maxRecDepth 100000 in
set_option maxHeartbeats 4000000 in
theorem ref_RuleRight (v : Value) (l : List RuleP) (w : World) (h : RowOf ruC 2 w v l) :
   Calls Tryz.prog 35 #[v] w fun e w' => e = .returned (.int .i64 (ruleE l)) ∧ Below w.heap.size w w' := by
 obtain ⟨a, cap, rfl, hcap, hmx, hcell⟩ := h.open ruC_len; obtain ⟨R, hR⟩ : ∃ R, ruleE l = R := ⟨_, rfl⟩; have H1 : Hid (64 < l.length → R = 2) := Lib.hid fun h => by rw [← hR]; exact ruleE_long h
 have H2 : Hid (¬ 64 < l.length → ∀ i, i < l.length → badR l i → R = 110) := Lib.hid fun h i hi hb => by rw [← hR]; exact ruleE_bad h hi hb
 have H3 : Hid (¬ 64 < l.length → (∀ i, i < l.length → ¬ badR l i) → R = 0) := Lib.hid fun h hb => by rw [← hR]; exact ruleE_ok h hb
 rw [hR]; obtain ⟨n, hn⟩ : ∃ n, l.length = n := ⟨_, rfl⟩; have Hlen := Lib.hid (fun (k : Nat) (h : k < n) => (by rw [hn]; exact h : k < l.length)); rw [hn] at hcap H1 H2 H3 ⊢; unfold maxLen at hmx; clear hn hR h
 by_cases h64 : 64 < n
 · have e := H1.out h64; subst e; have h64' : (64 : Int) < n := by omega
   go_enter Tryz.func35, Tryz.ntmps35; wkk; go_ret; exact ⟨rfl, Below.refl _ _⟩
 have h64' : ¬ (64 : Int) < n := by omega
 have Hbad := Lib.hid (H2.out h64); have Hok := Lib.hid (H3.out h64); clear H1 H2 H3; go_enter Tryz.func35, Tryz.ntmps35; wkk
 go_loopg [11] n (fun gk s11 wr => ∃ k : Nat, s11 = .int .i64 k ∧ k + gk = n ∧ Hid (∀ i, i < k → ¬ badR l i) ∧ Hid (Below w.heap.size w wr))
 case atStart => exact ⟨0, rfl, by omega, Lib.hid (fun i hi => by omega), Lib.hid (Below.refl _ _)⟩
 case round =>
   obtain ⟨k, rfl, hk, HG, HB⟩ := hrel
   by_cases hkn : k < n
   · have hkl : k < l.length := Hlen.out k hkn
     rcases hcell with h0 | ⟨b, off, rfl, hbB, hcell⟩
     · omega
     have Hcell := Lib.hid hcell; obtain ⟨c0, c1⟩ := ru_cells hcell k hkl; rw [← HB.out.cell hbB] at c0 c1; have Hb1 : Hid ((frm l k).length < 1 → R = 110) := Lib.hid fun h => Hbad.out k hkn (.inl h)
     have Hb2 : Hid (16 < (frm l k).length → R = 110) := Lib.hid fun h => Hbad.out k hkn (.inr (.inl h))
     have Hb3 : Hid (32 < (rto l k).length → R = 110) := Lib.hid fun h => Hbad.out k hkn (.inr (.inr (.inl h)))
     have Hb4 : Hid (∀ j, j < k → frm l j = frm l k → R = 110) := Lib.hid fun j hj h => Hbad.out k hkn (.inr (.inr (.inr ⟨j, hj, h⟩)))
     have Hg : Hid (¬ (frm l k).length < 1 → ¬ 16 < (frm l k).length → ¬ 32 < (rto l k).length → (∀ j, j < k → frm l j ≠ frm l k) → ∀ i, i < k + 1 → ¬ badR l i) := Lib.hid fun h1 h2 h3 h4 i hi hb => by
       by_cases e : i = k
       · subst e
         rcases hb with h | h | h | ⟨j, hj, h⟩
         · exact h1 h
         · exact h2 h
         · exact h3 h
         · exact h4 j hj h
       · exact HG.out i (by omega) hb
     have hlj : ∀ j, j < k → j < l.length := fun j hj => by omega
     have Hlj := Lib.hid hlj; clear hcell hlj hkl; generalize hfe : frm l k = f at c0 Hb1 Hb2 Hb4 Hg; clear hfe; generalize rto l k = t at c1 Hb3 Hg; have HBx : Hid (Below w.heap.size w (wr.alloc (.cells #[.string ⟨f.toArray⟩, .string ⟨t.toArray⟩] 50))) := Lib.hid (HB.out.alloc HB.out.size _)
     by_cases h1 : f.length < 1
     · have e := Hb1.out h1; subst e; have h1' : (f.length : Int) < 1 := by omega
       wkk; go_ret; exact ⟨rfl, HBx.out⟩
     have h1' : ¬ (f.length : Int) < 1 := by omega
     by_cases h2 : 16 < f.length
     · have e := Hb2.out h2; subst e; have h2' : (16 : Int) < f.length := by omega
       wkk; go_ret; exact ⟨rfl, HBx.out⟩
     have h2' : ¬ (16 : Int) < f.length := by omega
     by_cases h3 : 32 < t.length
     · have e := Hb3.out h3; subst e; have h3' : (32 : Int) < t.length := by omega
       wkk; go_ret; exact ⟨rfl, HBx.out⟩
     have h3' : ¬ (32 : Int) < t.length := by omega
     have Hg2 := Lib.hid (Hg.out h1 h2 h3); clear Hg Hb1 Hb2 Hb3 h1 h2 h3 HG; wkk; clear h1' h2' h3' c0 c1; have HX : Hid ((wr.alloc (.cells #[.string ⟨f.toArray⟩, .string ⟨t.toArray⟩] 50)).heap[wr.heap.size]? = some (.cells #[.string ⟨f.toArray⟩, .string ⟨t.toArray⟩] 50 (0, 0))) := Lib.hid (Go.heap_alloc_new _ _); generalize wr.alloc (.cells #[.string ⟨f.toArray⟩, .string ⟨t.toArray⟩] 50) = wx at HX HBx ⊢; generalize wr.heap.size = gx at HX ⊢
     go_loopg [5] k (fun gj s5 wi => ∃ j : Nat, s5 = .int .i64 j ∧ j + gj = k ∧ Hid (∀ i, i < j → frm l i ≠ f) ∧ Hid (wi.heap[gx]? = some (.cells #[.string ⟨f.toArray⟩, .string ⟨t.toArray⟩] 50 (0, 0))) ∧ Hid (Below w.heap.size w wi))
     case atStart => exact ⟨0, rfl, by omega, Lib.hid (fun i hi => by omega), HX, HBx⟩
     case round =>
       clear HX HBx; obtain ⟨j, rfl, hj, HN, HX, HBi⟩ := hrel
       by_cases hjk : j < k
       · obtain ⟨d0, _⟩ := ru_cells Hcell.out j (Hlj.out j hjk); have hgl : gx < wr.heap.size := (Array.getElem?_eq_some_iff.1 HX.out).1; have q0 : ∀ nq : WB wr, nq.1.cell? ⟨b, off + j * 2, none⟩ = some (.string ⟨(frm l j).toArray⟩) := fun nq => by rw [nq.2.cell (show b < wr.heap.size from Nat.lt_of_lt_of_le hbB HBi.out.size), HBi.out.cell hbB]; exact d0
         have q1 : ∀ nq : WB wr, nq.1.cell? ⟨gx, 0, none⟩ = some (.string ⟨f.toArray⟩) := fun nq => by rw [nq.2.cell hgl, cell_of_row _ _ 0 _ _ _ HX.out]; rfl
         have hjn : (j : Int) < (n : Int) := by omega
         have hjn' : j < n := by omega
         have Hb5 : Hid (frm l j = f → R = 110) := Lib.hid fun h => Hb4.out j hjk h
         have HN2 : Hid (frm l j ≠ f → ∀ i, i < j + 1 → frm l i ≠ f) := Lib.hid fun h i hi => by
           by_cases e : i = j
           · subst e; exact h
           · exact HN.out i (by omega)
         clear d0 HN; generalize frm l j = fj at q0 Hb5 HN2
         by_cases he : fj = f
         · have e := Hb5.out he; subst e he
           repeat' (go_not_at_region 11; first | go_values | go_skip | go_guarded | go_step | go_upon)
           refine wp_region_anyC (by kernel_rfl) wr ?_; refine tkC 0 rfl ?_; refine tkC 1 rfl ?_; refine tkC 2 rfl ?_; refine tkC 3 rfl ?_; refine tkC 4 rfl ?_; refine tkC 5 rfl ?_; refine tkC 6 rfl ?_; refine tkC 7 rfl ?_; refine wpAnyC_done (by kernel_rfl) (CW.of ((Below.refl _ _).drew)) (by go_simp <;> with_reducible rfl) ?_; clear q0 q1; wkk; go_ret; exact ⟨rfl, HBi.out.trans ((Below.refl _ _).drew)⟩
         · have heb : (fj == f) = false := beq_false_of_ne he; have HN3 := Lib.hid (HN2.out he); clear HN2 Hb5
           repeat' (go_not_at_region 11; first | go_values | go_skip | go_guarded | go_step | go_upon)
           refine wp_region_anyC (by kernel_rfl) wr ?_; refine tkC 0 rfl ?_; refine tkC 1 rfl ?_; refine tkC 2 rfl ?_; refine tkC 3 rfl ?_; refine tkC 4 rfl ?_; refine tkC 5 rfl ?_; refine tkC 6 rfl ?_; refine tkC 7 rfl ?_; refine wpAnyC_done (by kernel_rfl) (CW.of ((Below.refl _ _).drew)) (by go_simp <;> with_reducible rfl) ?_; clear q0 q1; wkk; go_roundg (gk - 1)
           case rel => exact ⟨j + 1, by go_num, by omega, HN3, HX, Lib.hid (HBi.out.trans ((Below.refl _ _).drew))⟩
           case measure => omega
       · obtain rfl : j = k := by omega
         have HG3 := Lib.hid (Hg2.out HN.out); clear HN HX Hg2; wkk; go_roundg (n - (j + 1))
         case rel => exact ⟨j + 1, by go_num, by omega, HG3, HBi⟩
         case measure => omega
   · obtain rfl : n = k := by omega
     have e := Hok.out HG.out; subst e; wkk; go_ret; exact ⟨rfl, HB.out⟩
set_option maxRecDepth 100000 in
set_option maxHeartbeats 4000000 in
theorem ref_Grow (v : Value) (l : List RuleP) (w : World) (h : RowOf ruC 2 w v l) (h00 : ruleE l = 0) :
   Calls Tryz.prog 36 #[v] w fun e w' => e = .returned (.int .i64 (growN l : Nat)) ∧ Below w.heap.size w w' := by
 obtain ⟨a, cap, rfl, hcap, hmx, hcell⟩ := h.open ruC_len; obtain ⟨n, hn⟩ : ∃ n, l.length = n := ⟨_, rfl⟩; have Hn := Lib.hid hn; rw [hn] at hcap ⊢; unfold maxLen at hmx; clear hn h; obtain ⟨hl64, hgood⟩ := ruleE_open h00; rw [Hn.out] at hl64 hgood; have Hgood := Lib.hid hgood; have Hgl := Lib.hid (fun k (hk : k ≤ n) => growTo_le h00 k (by rw [Hn.out]; exact hk)); clear hgood h00; go_enter Tryz.func36, Tryz.ntmps36; wkk
 go_loopg [3, 9] n (fun gk s3 s9 wr => ∃ (k m : Nat), s9 = .int .i64 k ∧ s3 = .int .i64 m ∧ k + gk = n ∧ Hid (m = growTo l k) ∧ Hid (Below w.heap.size w wr))
 case atStart => exact ⟨0, 1, rfl, rfl, by omega, Lib.hid rfl, Lib.hid (Below.refl _ _)⟩
 case round =>
   obtain ⟨k, m, rfl, rfl, hk, Hm, HB⟩ := hrel
   by_cases hkn : k < n
   · have hkl : k < l.length := by rw [Hn.out]; exact hkn
     have hm32 := Hgl.out k (by omega); rw [← Hm.out] at hm32; have hbk := Hgood.out k hkn; unfold badR at hbk; have hf1 : 1 ≤ (frm l k).length := by
       by_cases h : (frm l k).length < 1
       · exact absurd (.inl h) hbk
       · omega
     have hf2 : (frm l k).length ≤ 16 := by
       by_cases h : 16 < (frm l k).length
       · exact absurd (.inr (.inl h)) hbk
       · omega
     have ht2 : (rto l k).length ≤ 32 := by
       by_cases h : 32 < (rto l k).length
       · exact absurd (.inr (.inr (.inl h))) hbk
       · omega
     have Hs : Hid (growTo l (k + 1) = max m (upN (frm l k).length (rto l k).length)) := Lib.hid (by rw [growTo, Hm.out])
     rcases hcell with h0 | ⟨b, off, rfl, hbB, hcell⟩
     · omega
     obtain ⟨c0, c1⟩ := ru_cells hcell k hkl; rw [← HB.out.cell hbB] at c0 c1; clear hcell hbk; generalize frm l k = f at c0 hf1 hf2 Hs; generalize rto l k = t at c1 ht2 Hs; have hu := upN_le hf1 ht2; have Hup := Lib.hid (fun q => upN_iff (n := q) (t := t.length) hf1); generalize upN f.length t.length = u at hu Hs Hup; have HBx : Hid (Below w.heap.size w (wr.alloc (.cells #[.string ⟨f.toArray⟩, .string ⟨t.toArray⟩] 50))) := Lib.hid (HB.out.alloc HB.out.size _); wkk; clear c0 c1
     have HX : Hid ((wr.alloc (.cells #[.string ⟨f.toArray⟩, .string ⟨t.toArray⟩] 50)).heap[wr.heap.size]? = some (.cells #[.string ⟨f.toArray⟩, .string ⟨t.toArray⟩] 50 (0, 0))) := Lib.hid (Go.heap_alloc_new _ _); generalize wr.alloc (.cells #[.string ⟨f.toArray⟩, .string ⟨t.toArray⟩] 50) = wx at HX HBx ⊢; generalize wr.heap.size = gx at HX ⊢
     go_loopg [6] u (fun gj s6 wi => ∃ q : Nat, s6 = .int .i64 q ∧ q + gj = u ∧ Hid (wi.heap[gx]? = some (.cells #[.string ⟨f.toArray⟩, .string ⟨t.toArray⟩] 50 (0, 0))) ∧ Hid (Below w.heap.size w wi))
     case atStart => exact ⟨0, rfl, by omega, HX, HBx⟩
     case round =>
       clear HX HBx; obtain ⟨q, rfl, hq, HX, HB⟩ := hrel; have c0 : wr.cell? ⟨gx, 0, none⟩ = some (.string ⟨f.toArray⟩) := by rw [cell_of_row _ _ 0 _ _ _ HX.out]; rfl
       have c1 : wr.cell? ⟨gx, 1, none⟩ = some (.string ⟨t.toArray⟩) := by rw [cell_of_row _ _ 1 _ _ _ HX.out]; rfl
       have hpl : q * f.length ≤ 32 * 16 := Nat.mul_le_mul (by omega) hf2; obtain ⟨p, hp⟩ : ∃ p : Nat, p = q * f.length := ⟨_, rfl⟩; have hw : IntKind.i64.wrap ((q : Int) * (f.length : Int)) = (p : Int) := by
         rw [hp, Int.natCast_mul]; refine wi64 ?_; rw [← Int.natCast_mul]; unfold I64; omega
       have hiff := Hup.out q; rw [← hp] at hiff; clear hp
       by_cases hqu : q < u
       · have hlt := hiff.2 hqu; have hlt' : (p : Int) < (t.length : Int) := by omega
         clear hiff hpl; wkk; go_roundg (gk - 1)
         case rel => exact ⟨q + 1, by go_num, by omega, HX, HB⟩
         case measure => omega
       · have hlt : ¬ p < t.length := fun h => hqu (hiff.1 h)
         have hlt' : ¬ (p : Int) < (t.length : Int) := by omega
         obtain rfl : q = u := by omega
         clear hiff hpl
         by_cases hmu : (m : Int) < (q : Int)
         · have e : max m q = q := by omega
           wkk; go_roundg (n - (k + 1))
           case rel => exact ⟨k + 1, q, by go_num, rfl, by omega, Lib.hid (by rw [Hs.out, e]), HB⟩
           case measure => omega
         · have e : max m q = m := by omega
           wkk; go_roundg (n - (k + 1))
           case rel => exact ⟨k + 1, m, by go_num, rfl, by omega, Lib.hid (by rw [Hs.out, e]), HB⟩
           case measure => omega
   · obtain rfl : n = k := by omega
     have e : m = growN l := by rw [Hm.out]; unfold growN; rw [Hn.out]
     clear Hm; subst e; wkk; go_ret; exact ⟨rfl, HB.out⟩
end Go.Proofs.YtonkenlkigfeoaaGreatDoor
