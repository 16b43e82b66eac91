/- Walk: a tree is like itself, wherever it lies (the document's Like). No conditions. -/
import Derived.Test.YtonkenlkigfeoaaDoorPk09
import Derived.Test.YtonkenlkigfeoaaDoorPk01
import Derived.Test.YtonkenlkigfeoaaDoorPk11
import Derived.Deep.LoopGhost
namespace Go.Proofs.YtonkenlkigfeoaaDoor
open Go.RowKit Go.Lib
section
variable {h : Nat} (IH : ∀ (r r' : RN) (t : Re) (w : World), ReAt w h r t → ReAt w h r' t → Calls Tryd.prog 17 #[reV r, reV r'] w fun e w' => e = .returned (.bool true) ∧ Below w.heap.size w w')
include IH
set_option maxRecDepth 100000 in
set_option maxHeartbeats 2000000 in
theorem like_next (r r' : RN) (t : Re) (w : World) (hr : ReAt w (h + 1) r t) (hr' : ReAt w (h + 1) r' t) :
   Calls Tryd.prog 17 #[reV r, reV r'] w fun e w' => e = .returned (.bool true) ∧ Below w.heap.size w w' := by
 obtain ⟨k, s, mn, mx, kids⟩ := t; obtain ⟨⟨e1, e2, e3, e4⟩, _, _, rs, hrow, hlen, hk⟩ := hr; obtain ⟨⟨g1, g2, g3, g4⟩, _, _, rs', hrow', hlen', hk'⟩ := hr'; have hl := hrow.lenOk; obtain ⟨a, cap, hv, _, _, hc⟩ := hrow.open reC_length; obtain ⟨a', cap', hv', _, _, hc'⟩ := hrow'.open reC_length; obtain ⟨rk, rset, rmn, rmx, rv⟩ := r; obtain ⟨rk', rset', rmn', rmx', rv'⟩ := r'; simp only at e1 e2 e3 e4 g1 g2 g3 g4 hv hv'; subst e1 e2 e3 e4 hv hv'; rw [g1, g2, g3, g4]; obtain ⟨n, hn⟩ : ∃ n, rs.length = n := ⟨_, rfl⟩; have hn' : rs'.length = n := by omega
 rw [hn] at hc hl ⊢; rw [hn'] at hc' ⊢; have Hk := Lib.hid hk; have Hk' := Lib.hid hk'; have HN := Lib.hid (And.intro hn (And.intro hn' (And.intro hlen hlen'))); clear hk hk' hn hn' hlen hlen' hrow hrow' g1 g2 g3 g4; have HB : Hid (Below w.heap.size w ((w.alloc (.cells (reC ⟨rk, rset, rmn, rmx, .slice a n cap⟩).toArray 33)).alloc (.cells (reC ⟨rk, rset, rmn, rmx, .slice a' n cap'⟩).toArray 33))) := Lib.hid (((Below.refl _ _).alloc (Nat.le_refl _) _).alloc (by simp) _)
 have HX1 : Hid (((w.alloc (.cells (reC ⟨rk, rset, rmn, rmx, .slice a n cap⟩).toArray 33)).alloc (.cells (reC ⟨rk, rset, rmn, rmx, .slice a' n cap'⟩).toArray 33)).heap[w.heap.size]? = some (.cells (reC ⟨rk, rset, rmn, rmx, .slice a n cap⟩).toArray 33 (0, 0))) := Lib.hid (by rw [Go.heap_alloc_old _ _ (by simp)]; exact Go.heap_alloc_new w _)
 have HX2 : Hid (((w.alloc (.cells (reC ⟨rk, rset, rmn, rmx, .slice a n cap⟩).toArray 33)).alloc (.cells (reC ⟨rk, rset, rmn, rmx, .slice a' n cap'⟩).toArray 33)).heap[w.heap.size + 1]? = some (.cells (reC ⟨rk, rset, rmn, rmx, .slice a' n cap'⟩).toArray 33 (0, 0))) := Lib.hid (by
   have := Go.heap_alloc_new (w.alloc (.cells (reC ⟨rk, rset, rmn, rmx, .slice a n cap⟩).toArray 33)) (.cells (reC ⟨rk, rset, rmn, rmx, .slice a' n cap'⟩).toArray 33)
   rw [World.size_alloc] at this; exact this)
 simp only [reV, reC] at HB HX1 HX2 ⊢; go_enter Tryd.func17, Tryd.ntmps17; wkk
 go_loopg [44] n (fun gk s44 wr => ∃ i : Nat, s44 = .int .i64 i ∧ i + gk = n ∧ Hid (Below w.heap.size w wr) ∧ Hid (Below (w.heap.size + 2) ((w.alloc (.cells (reC ⟨rk, rset, rmn, rmx, .slice a n cap⟩).toArray 33)).alloc (.cells (reC ⟨rk, rset, rmn, rmx, .slice a' n cap'⟩).toArray 33)) wr))
 case atStart => exact ⟨0, rfl, by omega, HB, Lib.hid (Below.refl _ _)⟩
 case round =>
   obtain ⟨i, rfl, hi, HW, HV⟩ := hrel
   by_cases hlt : i < n
   · have hlt' : (i : Int) < n := by omega
     rcases hc with hc | ⟨b, off, rfl, hb, hc⟩
     · omega
     rcases hc' with hc' | ⟨b', off', rfl, hb', hc'⟩
     · omega
     obtain ⟨x, hx⟩ : ∃ x, rs[i]? = some x := ⟨_, List.getElem?_eq_getElem (by rw [HN.out.1]; exact hlt)⟩; obtain ⟨x', hx'⟩ : ∃ x, rs'[i]? = some x := ⟨_, List.getElem?_eq_getElem (by rw [HN.out.2.1]; exact hlt)⟩; obtain ⟨u, hu⟩ : ∃ u, kids[i]? = some u := ⟨_, List.getElem?_eq_getElem (by have := HN.out; omega)⟩; have hxa := Hk.out i x u hx hu; have hxa' := Hk'.out i x' u hx' hu; have D := (row_load hc hx).keep HW.out hb; have D' := (row_load hc' hx').keep HW.out hb'; have HXr1 : Hid (wr.heap[w.heap.size]? = some _) := Lib.hid ((HV.out.block _ (by omega)).trans HX1.out)
     have HXr2 : Hid (wr.heap[w.heap.size + 1]? = some _) := Lib.hid ((HV.out.block _ (by omega)).trans HX2.out); have hz1 : w.heap.size < wr.heap.size := (Array.getElem?_eq_some_iff.1 HXr1.out).1; have hz2 : w.heap.size + 1 < wr.heap.size := (Array.getElem?_eq_some_iff.1 HXr2.out).1; have hbw : b < wr.heap.size ∧ b' < wr.heap.size := by omega
     have q7 : ∀ nq : WB wr, nq.1.cell? ⟨w.heap.size, 7, none⟩ = some (.slice (some ⟨b, off, none⟩) n cap) := fun nq => by rw [nq.2.cell hz1, cell_of_row _ _ _ _ _ _ HXr1.out]; rfl
     have p7 : ∀ nq : WB wr, nq.1.cell? ⟨w.heap.size + 1, 7, none⟩ = some (.slice (some ⟨b', off', none⟩) n cap') := fun nq => by rw [nq.2.cell hz2, cell_of_row _ _ _ _ _ _ HXr2.out]; rfl
     have DD := fun nq : WB wr => D.keep nq.2 hbw.1
     have DD' := fun nq : WB wr => D'.keep nq.2 hbw.2
     have a0 := fun nq : WB wr => (DD nq).1
     have a1 := fun nq : WB wr => (DD nq).2.1
     have a2 := fun nq : WB wr => (DD nq).2.2.1
     have a3 := fun nq : WB wr => (DD nq).2.2.2.1
     have a4 := fun nq : WB wr => (DD nq).2.2.2.2.1
     have a5 := fun nq : WB wr => (DD nq).2.2.2.2.2.1
     have a6 := fun nq : WB wr => (DD nq).2.2.2.2.2.2.1
     have a7 := fun nq : WB wr => (DD nq).2.2.2.2.2.2.2
     have b0 := fun nq : WB wr => (DD' nq).1
     have b1 := fun nq : WB wr => (DD' nq).2.1
     have b2 := fun nq : WB wr => (DD' nq).2.2.1
     have b3 := fun nq : WB wr => (DD' nq).2.2.2.1
     have b4 := fun nq : WB wr => (DD' nq).2.2.2.2.1
     have b5 := fun nq : WB wr => (DD' nq).2.2.2.2.2.1
     have b6 := fun nq : WB wr => (DD' nq).2.2.2.2.2.2.1
     have b7 := fun nq : WB wr => (DD' nq).2.2.2.2.2.2.2
     have HIH : Hid (∀ nq : WB wr, Calls Tryd.prog 17 #[reV x, reV x'] nq.1 fun e w' => e = .returned (.bool true) ∧ Below nq.1.heap.size nq.1 w') := Lib.hid fun nq => IH x x' u nq.1 (hxa.keep (HW.out.trans (nq.2.mono HW.out.size))) (hxa'.keep (HW.out.trans (nq.2.mono HW.out.size)))
     simp only [reV, reC] at HIH; clear IH D D' DD DD' hc hc' hxa hxa' HXr1 HXr2 HB HX1 HX2 hx hx' hu hz1 hz2 hbw hb hb' hlt; wkk; refine wp_region_wb (by kernel_rfl) (by kernel_rfl) wr (Below.refl _ _) ?_
     repeat (go_big_quiet_step (((go_at_call 17; exact calls_wb (HIH.out _)))))
     refine wpQuiet_nil ?_; rintro _ ⟨nq, rfl⟩; have hnq := nq.2; have HW2 := Lib.hid (HW.out.trans (hnq.mono HW.out.size)); have HV2 := Lib.hid (HV.out.trans (hnq.mono (Nat.le_trans (by simp) HV.out.size))); clear q7 p7 a0 a1 a2 a3 a4 a5 a6 a7 b0 b1 b2 b3 b4 b5 b6 b7; wkk; go_roundg (gk - 1)
     case rel => exact ⟨i + 1, by go_num, by omega, HW2, HV2⟩
     case measure => omega
   · have hlt' : ¬ (i : Int) < n := by omega
     clear IH hc hc' hlt; wkk; go_ret; exact ⟨rfl, HW.out⟩
end
/-- a tree is like itself -/
theorem like_same : ∀ (h : Nat) (r r' : RN) (t : Re) (w : World), ReAt w h r t → ReAt w h r' t → Calls Tryd.prog 17 #[reV r, reV r'] w fun e w' => e = .returned (.bool true) ∧ Below w.heap.size w w'
 | 0, _, _, _, _, hr, _ => hr.elim
 | _ + 1, r, r', t, w, hr, hr' => like_next (like_same _) r r' t w hr hr'
end Go.Proofs.YtonkenlkigfeoaaDoor
