/- Walks: the size of an expression, up to 1001 (config.size, and the reference's). Conditions: the tree is an expression's. -/
import Derived.Test.YtonkenlkigfeoaaDoorPk09
import Derived.Test.YtonkenlkigfeoaaDoorPk07
import Derived.Deep.LoopGhost
import Derived.Deep.CutBlock
namespace Go.Proofs.YtonkenlkigfeoaaDoor
open Go.RowKit Go.Lib
theorem gen_worldS {P : Program} {c : Code} {Q : Exit → Act → World → Prop} {a : Act} {w : World} (F : World → Prop) (hF : F w) (h : ∀ w', F w' → c.wp P Q a w') : c.wp P Q a w := h w hF
theorem shp_kids {h : Nat} {t : Re} (hs : shp (h + 1) t = true) : okP t ∧ ∀ u ∈ t.kids, shp h u = true := by
 rw [shp] at hs; simp only [Bool.and_eq_true, List.all_eq_true] at hs; exact ⟨okN_iff.1 hs.1, hs.2⟩
/-- the numbers of a node -/
theorem times_node {w : World} {h : Nat} {r : RN} {t : Re} (hr : ReAt w (h + 1) r t) : timesOf t = if r.k = 4 then max 1 (max r.mn r.mx) else 1 := by
 obtain ⟨k, s, a, b, l⟩ := t; obtain ⟨⟨h1, _, h2, h3⟩, _⟩ := hr; unfold timesOf; dsimp only; rw [h1, h2, h3]
section
variable {h : Nat} (IH : ∀ (r : RN) (t : Re) (w : World), shp h t = true → ReAt w h r t → Calls Tryd.prog 36 #[reV r, .int .i64 1001] w fun e w' => e = .returned (.int .i64 (szR h t)) ∧ Below w.heap.size w w')
include IH
set_option maxRecDepth 100000 in
set_option maxHeartbeats 4000000 in
theorem csize_next (r : RN) (t : Re) (w : World) (hs : shp (h + 1) t = true) (hr : ReAt w (h + 1) r t) :
   Calls Tryd.prog 36 #[reV r, .int .i64 1001] w fun e w' => e = .returned (.int .i64 (szR (h + 1) t)) ∧ Below w.heap.size w w' := by
 have HB : Hid (Below w.heap.size w (w.alloc (.cells (reC r).toArray 33))) := Lib.hid ((Below.refl _ _).alloc (Nat.le_refl _) _); have HX : Hid ((w.alloc (.cells (reC r).toArray 33)).heap[w.heap.size]? = some (.cells (reC r).toArray 33 (0, 0))) := Lib.hid (Go.heap_alloc_new _ _); obtain ⟨hokp, hkids⟩ := shp_kids hs; have htm := times_node hr; have ht1 := times_pos t; have ht2 := times_le hokp; obtain ⟨c, hc0⟩ : ∃ c, timesOf t = c := ⟨_, rfl⟩; obtain ⟨rs, hrow, hlen, hk⟩ := hr.kids; have hl := hrow.lenOk; obtain ⟨a, cap, hv, _, _, hc⟩ := hrow.open reC_length
 obtain ⟨rk, rset, rmn, rmx, rv⟩ := r; simp only at hv htm; subst hv; obtain ⟨N, hN⟩ : ∃ N : Int, szR (h + 1) t = N := ⟨_, rfl⟩; rw [hN]; have HL := Lib.hid hlen; have Hall : Hid (∀ k, t.kids.length ≤ k → N = min (szTo h t k) 1001) := Lib.hid fun k hk => by rw [← hN]; exact szTo_all hk
 have Hover : Hid (∀ k, 1001 < szTo h t k → N = 1001) := Lib.hid fun k hk => by rw [← hN]; exact szTo_over hk
 have Hkids := Lib.hid hkids; have Hnn := Lib.hid fun u => szR_nn h u
 have Hsucc : Hid (∀ k u, t.kids[k]? = some u → szTo h t (k + 1) = szTo h t k + szR h u * c) := Lib.hid fun k u hu => by rw [← hc0]; exact szTo_succ hu
 rw [hc0] at htm ht1 ht2; clear hN hlen hr hs hokp hc0 hkids; have htc : (rk = 4 ∧ c = max 1 (max rmn rmx)) ∨ (rk ≠ 4 ∧ c = 1) := by
   by_cases e : rk = 4
   · rw [if_pos e] at htm; exact .inl ⟨e, htm⟩
   · rw [if_neg e] at htm; exact .inr ⟨e, htm⟩
 clear htm; have Htc := Lib.hid htc; clear htc; obtain ⟨C, hC⟩ : ∃ C : Array Value, (reC ⟨rk, rset, rmn, rmx, .slice a rs.length cap⟩).toArray = C := ⟨_, rfl⟩; have HC3 : Hid (C[0]? = some (.int .i64 rk) ∧ C[5]? = some (.int .i64 rmn) ∧ C[6]? = some (.int .i64 rmx)) := Lib.hid (by rw [← hC]; exact ⟨rfl, rfl, rfl⟩); obtain ⟨gt, hgt⟩ : ∃ g, g = w.heap.size := ⟨_, rfl⟩; rw [hC, ← hgt] at HX; rw [hC] at HB; simp only [reC] at hC; have HCe := Lib.hid hC; clear hC; simp only [reV, reC]; go_enter Tryd.func36, Tryd.ntmps36; wkk; rw [← hgt]
 refine gen_worldS (fun W => W.heap[gt]? = some (.cells C 33 (0, 0)) ∧ Below w.heap.size w W) ⟨by rw [HCe.out]; exact HX.out, by rw [HCe.out]; exact HB.out⟩ ?_; clear HX HB; rintro w1 ⟨hx, hb⟩; have HX := Lib.hid hx; have HB := Lib.hid hb; clear hx hb hgt
 go_loopg [5, 12] rs.length (fun gk s5 s12 w' => ∃ (k : Nat) (n : Int), s12 = .int .i64 k ∧ k + gk = rs.length ∧ s5 = .int .i64 n ∧ 2 ≤ n ∧ n ≤ 1001 ∧ Hid (n = szTo h t k) ∧ Hid (w'.heap[gt]? = some (.cells C 33 (0, 0))) ∧ Hid (Below w.heap.size w w'))
 case atStart => exact ⟨0, 2, rfl, by omega, rfl, by omega, by omega, Lib.hid szTo_zero.symm, HX, HB⟩
 case round =>
   clear HX HB; obtain ⟨k, n, rfl, hkl, rfl, hn1, hn2, HC, HX, HW⟩ := hrel
   by_cases hlt : k < rs.length
   · have hlt' : (k : Int) < rs.length := by omega
     rcases hc with hc | ⟨b, off, rfl, hb, hc⟩
     · omega
     obtain ⟨r', hr'⟩ : ∃ r', rs[k]? = some r' := ⟨_, List.getElem?_eq_getElem hlt⟩; obtain ⟨t', ht', hrt⟩ := hk k r' hr'; obtain ⟨c0, c1, c2, c3, c4, c5, c6, c7⟩ := (row_load hc hr').keep HW.out hb; have HBr : Hid (Below wr.heap.size wr (wr.alloc (.cells (reC r').toArray 33))) := Lib.hid ((Below.refl _ _).alloc (Nat.le_refl _) _); have hcall := IH r' t' _ (Hkids.out t' (List.mem_of_getElem? ht')) (hrt.keep (HW.out.trans (HBr.out.mono HW.out.size))); have Hs := Lib.hid (Hsucc.out k t' ht'); have hx1 := Hnn.out t'; generalize szR h t' = x at hcall Hs hx1
     obtain ⟨y, hy⟩ : ∃ y, y = x * c := ⟨_, rfl⟩; have hy0 : 0 ≤ y := by rw [hy]; exact Int.mul_nonneg hx1.1 (by omega)
     have hy1 : y ≤ 1001 * 20 := by rw [hy]; exact Int.mul_le_mul hx1.2 ht2 (by omega) (by omega)
     have hwm : IntKind.i64.wrap (x * c) = y := by rw [← hy]; exact wi64 (by unfold I64; omega)
     have hwa : IntKind.i64.wrap (n + y) = n + y := wi64 (by unfold I64; omega); have hsum : Hid (szTo h t (k + 1) = n + y) := Lib.hid (by rw [Hs.out, hy, HC.out]); have hone := hrt.one; have Hy := Lib.hid hy; have hxw : IntKind.i64.wrap x = x := wi64 (by unfold I64; omega); clear IH hk hc ht' hy Hs hx1; have hgb := (HBr.out.block gt (Array.getElem?_eq_some_iff.1 HX.out).1).trans HX.out; have e0 := (cell_of_row _ _ 0 _ _ _ hgb).trans HC3.out.1; have e5 := (cell_of_row _ _ 5 _ _ _ hgb).trans HC3.out.2.1; have e6 := (cell_of_row _ _ 6 _ _ _ hgb).trans HC3.out.2.2
     have HX2 : Hid (∀ W, Below wr.heap.size wr W → W.heap[gt]? = some (.cells C 33 (0, 0))) := Lib.hid fun W hW => (hW.block gt (Array.getElem?_eq_some_iff.1 HX.out).1).trans HX.out
     clear HX hgb; simp only [reV, reC] at hcall HBr e0 e5 e6
     rcases Htc.out with ⟨h4, hcm⟩ | ⟨h4, hcm⟩
     · have b4 : (rk == 4) = true := by rw [h4]; rfl
       have Hcm := Lib.hid hcm; have H4 := Lib.hid h4; clear hcm h4; wkka (first | (refine store_re (r := r') hone _ _ rfl rfl rfl rfl ?_; simp only [reC])); have hmx : (if (if 1 < rmn then rmn else 1) < rmx then rmx else if 1 < rmn then rmn else 1) = c := by
         rw [Hcm.out]
         split <;> (try split at *) <;> omega
       simp only [hmx]; clear hmx; refine Calls.mono (hcall) ?_; rintro _ w2 ⟨rfl, hb2⟩; dsimp only; clear hcall; have HB2 : Hid (Below w.heap.size w w2) := Lib.hid (HW.out.trans ((HBr.out.trans (hb2.mono HBr.out.size)).mono HW.out.size)); have HX3 := Lib.hid (HX2.out w2 (HBr.out.trans (hb2.mono HBr.out.size))); clear hb2 HBr HW HX2 e0 e5 e6
       by_cases hov : 1001 < n + y
       · have e := Hover.out (k + 1) (by rw [hsum.out]; exact hov); subst e; wkk; go_ret; exact ⟨rfl, HB2.out⟩
       · have hov' : n + y ≤ 1001 := by omega
         wkk; go_roundg (gk - 1)
         case rel => exact ⟨k + 1, n + y, by go_num, by omega, rfl, by omega, by omega, Lib.hid hsum.out.symm, HX3, HB2⟩
         case measure => omega
     · have b4 : (rk == 4) = false := beq_false_of_ne h4; have hyx : y = x := by rw [Hy.out, hcm, Int.mul_one]
       subst hyx; clear h4 Hy hwm; wkka (first | (refine store_re (r := r') hone _ _ rfl rfl rfl rfl ?_; simp only [reC])); refine Calls.mono (hcall) ?_; rintro _ w2 ⟨rfl, hb2⟩; dsimp only; clear hcall; have HB2 : Hid (Below w.heap.size w w2) := Lib.hid (HW.out.trans ((HBr.out.trans (hb2.mono HBr.out.size)).mono HW.out.size)); have HX3 := Lib.hid (HX2.out w2 (HBr.out.trans (hb2.mono HBr.out.size))); clear hb2 HBr HW HX2 e0 e5 e6
       by_cases hov : 1001 < n + y
       · have e := Hover.out (k + 1) (by rw [hsum.out]; exact hov); subst e; wkk; go_ret; exact ⟨rfl, HB2.out⟩
       · have hov' : n + y ≤ 1001 := by omega
         wkk; go_roundg (gk - 1)
         case rel => exact ⟨k + 1, n + y, by go_num, by omega, rfl, by omega, by omega, Lib.hid hsum.out.symm, HX3, HB2⟩
         case measure => omega
   · have hlt' : ¬ (k : Int) < rs.length := by omega
     have e : N = n := by
       have := Hall.out k (by have := HL.out; omega); rw [← HC.out] at this; omega
     subst e; clear IH hk hc; wkk; go_ret; exact ⟨rfl, HW.out⟩
end
/-- the size, up to 1001 -/
theorem config_size : ∀ (h : Nat) (r : RN) (t : Re) (w : World), shp h t = true → ReAt w h r t → Calls Tryd.prog 36 #[reV r, .int .i64 1001] w fun e w' => e = .returned (.int .i64 (szR h t)) ∧ Below w.heap.size w w'
 | 0, _, _, _, _, hr => hr.elim
 | _ + 1, r, t, w, hs, hr => csize_next (config_size _) r t w hs hr
section
end
end Go.Proofs.YtonkenlkigfeoaaDoor
