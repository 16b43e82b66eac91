/- Walks: config.Parse's small steps (next, hex, must). Conditions: a text of at most 65536 bytes; a place within a line. -/
import Derived.Test.YtonkenlkigfeoaaDoorPk09
import Derived.Test.YtonkenlkigfeoaaDoorPk03
import Derived.Deep.LoopGhost
namespace Go.Proofs.YtonkenlkigfeoaaDoor
open Go.RowKit Go.Lib
theorem hexV_dig {c : Nat} (h : 48 ≤ c ∧ c ≤ 57) : hexV c = some (c - 48) := by unfold hexV; rw [if_pos h]
theorem hexV_low {c : Nat} (h : 97 ≤ c ∧ c ≤ 102) : hexV c = some (c - 87) := by unfold hexV; rw [if_neg (by omega), if_pos h]
theorem hexV_up {c : Nat} (h : 65 ≤ c ∧ c ≤ 70) : hexV c = some (c - 55) := by unfold hexV; rw [if_neg (by omega), if_neg (by omega), if_pos h]
theorem hexV_no {c : Nat} (h1 : ¬ (48 ≤ c ∧ c ≤ 57)) (h2 : ¬ (97 ≤ c ∧ c ≤ 102)) (h3 : ¬ (65 ≤ c ∧ c ≤ 70)) : hexV c = none := by unfold hexV; rw [if_neg h1, if_neg h2, if_neg h3]
/-- what hex tells -/
def hexI (c : Nat) : Int := match hexV c with | some n => (n : Int) | none => -1
set_option maxRecDepth 100000 in
theorem cf_hex (c : Nat) (hc : c < 256) (w : World) : Calls Tryd.prog 61 #[.int .u8 (c : Int)] w fun e w' => e = .returned (.int .i64 (hexI c)) ∧ w = w' := by
 by_cases a1 : 48 ≤ c
 · have b1 : (c : Int) ≥ 48 := by omega
   by_cases a2 : c ≤ 57
   · have b2 : (c : Int) ≤ 57 := by omega
     have hX : hexI c = ((c - 48 : Nat) : Int) := by unfold hexI; rw [hexV_dig ⟨a1, a2⟩]
     have hw : IntKind.u8.wrap ((c : Int) - 48) = ((c - 48 : Nat) : Int) := by rw [IntKind.wrap_u8]; omega
     have hw2 : IntKind.i64.wrap ((c - 48 : Nat) : Int) = ((c - 48 : Nat) : Int) := wi64 (by unfold I64; omega); rw [hX]; generalize c - 48 = n at hw hw2 ⊢; clear hX hc a1 a2; go_enter Tryd.func61, Tryd.ntmps61; wkk; go_ret; exact ⟨rfl, rfl⟩
   have b2 : ¬ (c : Int) ≤ 57 := by omega
   by_cases a3 : 97 ≤ c
   · have b3 : (c : Int) ≥ 97 := by omega
     have b5 : (c : Int) ≥ 65 := by omega
     have b6 : ¬ (c : Int) ≤ 70 := by omega
     by_cases a4 : c ≤ 102
     · have b4 : (c : Int) ≤ 102 := by omega
       have hX : hexI c = ((c - 87 : Nat) : Int) := by unfold hexI; rw [hexV_low ⟨a3, a4⟩]
       have hw : IntKind.u8.wrap ((c : Int) - 97) = ((c - 97 : Nat) : Int) := by rw [IntKind.wrap_u8]; omega
       have hw2 : IntKind.i64.wrap ((c - 97 : Nat) : Int) = ((c - 97 : Nat) : Int) := wi64 (by unfold I64; omega); have hw3 : IntKind.i64.wrap (((c - 97 : Nat) : Int) + 10) = ((c - 87 : Nat) : Int) := by rw [wi64 (by unfold I64; omega)]; omega
       rw [hX]; generalize c - 97 = n at hw hw2 hw3; generalize c - 87 = m at hw3 ⊢; clear hX hc a1 a2 a3 a4; go_enter Tryd.func61, Tryd.ntmps61; wkk; go_ret; exact ⟨rfl, rfl⟩
     · have b4 : ¬ (c : Int) ≤ 102 := by omega
       have hX : hexI c = -1 := by unfold hexI; rw [hexV_no (by omega) (by omega) (by omega)]
       rw [hX]; clear hX; go_enter Tryd.func61, Tryd.ntmps61; wkk; go_ret; exact ⟨rfl, rfl⟩
   have b3 : ¬ (c : Int) ≥ 97 := by omega
   by_cases a5 : 65 ≤ c
   · have b5 : (c : Int) ≥ 65 := by omega
     by_cases a6 : c ≤ 70
     · have b6 : (c : Int) ≤ 70 := by omega
       have hX : hexI c = ((c - 55 : Nat) : Int) := by unfold hexI; rw [hexV_up ⟨a5, a6⟩]
       have hw : IntKind.u8.wrap ((c : Int) - 65) = ((c - 65 : Nat) : Int) := by rw [IntKind.wrap_u8]; omega
       have hw2 : IntKind.i64.wrap ((c - 65 : Nat) : Int) = ((c - 65 : Nat) : Int) := wi64 (by unfold I64; omega); have hw3 : IntKind.i64.wrap (((c - 65 : Nat) : Int) + 10) = ((c - 55 : Nat) : Int) := by rw [wi64 (by unfold I64; omega)]; omega
       rw [hX]; generalize c - 65 = n at hw hw2 hw3; generalize c - 55 = m at hw3 ⊢; clear hX hc a1 a2 a3 a5 a6; go_enter Tryd.func61, Tryd.ntmps61; wkk; go_ret; exact ⟨rfl, rfl⟩
     · have b6 : ¬ (c : Int) ≤ 70 := by omega
       have hX : hexI c = -1 := by unfold hexI; rw [hexV_no (by omega) (by omega) (by omega)]
       rw [hX]; clear hX; go_enter Tryd.func61, Tryd.ntmps61; wkk; go_ret; exact ⟨rfl, rfl⟩
   · have b5 : ¬ (c : Int) ≥ 65 := by omega
     have hX : hexI c = -1 := by unfold hexI; rw [hexV_no (by omega) (by omega) (by omega)]
     rw [hX]; clear hX; go_enter Tryd.func61, Tryd.ntmps61; wkk; go_ret; exact ⟨rfl, rfl⟩
 · have b1 : ¬ (c : Int) ≥ 48 := by omega
   have b3 : ¬ (c : Int) ≥ 97 := by omega
   have b5 : ¬ (c : Int) ≥ 65 := by omega
   have hX : hexI c = -1 := by unfold hexI; rw [hexV_no (by omega) (by omega) (by omega)]
   rw [hX]; clear hX; go_enter Tryd.func61, Tryd.ntmps61; wkk; go_ret; exact ⟨rfl, rfl⟩
set_option maxRecDepth 100000 in
theorem cf_next (g : Nat) (S : ByteArray) (i en bg : Nat) (V : CV) (hS : S.size ≤ 65536) (hen : en ≤ S.size) (w : World) (h : PcAt w g S i en bg V) :
   Calls Tryd.prog 60 #[.pointer (some ⟨g, 0, none⟩)] w (CPo retB g S en bg V w (nextR S.data.toList en i)) := by
 obtain ⟨X, hX⟩ : ∃ X, nextR S.data.toList en i = X := ⟨_, rfl⟩; rw [hX]; unfold nextR at hX; have q1 : ∀ nq : WB w, nq.1.cell? ⟨g, 1, none⟩ = some (.int .i64 (i : Int)) := fun nq => (h.keep nq.2).c1
 have q2 : ∀ nq : WB w, nq.1.cell? ⟨g, 2, none⟩ = some (.int .i64 (en : Int)) := fun nq => (h.keep nq.2).c2
 have H := Lib.hid h; clear h
 by_cases hlt : i < en
 · rw [if_pos hlt] at hX; have hlt' : ¬ (i : Int) ≥ en := by omega
   have HX := Lib.hid hX.symm; have hx := byte_is S i (by omega); have hw : IntKind.i64.wrap ((i : Int) + 1) = ((i + 1 : Nat) : Int) := by rw [wi64 (by unfold I64; omega)]; omega
   have hw2 : IntKind.i64.wrap (((i + 1 : Nat) : Int) - 1) = (i : Int) := by rw [wi64 (by unfold I64; omega)]; omega
   generalize bt S.data.toList i = x at hx HX; obtain ⟨j, hj⟩ : ∃ j, i + 1 = j := ⟨_, rfl⟩; rw [hj] at hw hw2 HX; clear hX hlt hj hS hen; go_enter Tryd.func60, Tryd.ntmps60; wkk; refine wp_region_wb (by kernel_rfl) (by kernel_rfl) w (Below.refl _ _) ?_
   repeat (go_big_quiet_step ((fail)))
   refine wpQuiet_nil ?_; rintro _ ⟨nq, rfl⟩; have hnq := nq.2; have H1 := Lib.hid (H.out.keep hnq); have c1 := H1.out.c1; have f1 := H1.out.free 1; have He := Lib.hid (Else.of_below (g := g) hnq); clear q1 q2 hnq; wkk; have H2 := Lib.hid (H1.out.set1 j); have He2 := Lib.hid (He.out.setCell 1 (.int .i64 (j : Int))); generalize nq.1.setCell ⟨g, 1, none⟩ (.int .i64 (j : Int)) = w3 at H2 He2 ⊢; clear c1 f1 H1 He; have q0 : ∀ nq : WB w3, nq.1.cell? ⟨g, 0, none⟩ = some (.string S) := fun nq => (H2.out.keep nq.2).c0
   have q1 : ∀ nq : WB w3, nq.1.cell? ⟨g, 1, none⟩ = some (.int .i64 (j : Int)) := fun nq => (H2.out.keep nq.2).c1
   refine wp_region_wb (by kernel_rfl) (by kernel_rfl) w3 (Below.refl _ _) ?_
   repeat (go_big_quiet_step (fail))
   refine wpQuiet_nil ?_; rintro _ ⟨nr, rfl⟩; have H3 := Lib.hid (H2.out.keep nr.2); have He3 := Lib.hid (He2.out.trans (Else.of_below (g := g) nr.2)); clear q0 q1; wkk; go_ret; exact CPo.okI HX.out ⟨rfl, H3.out, He3.out⟩
 · rw [if_neg hlt] at hX; have hlt' : (i : Int) ≥ en := by omega
   have HX := Lib.hid hX.symm; clear hX hlt; go_enter Tryd.func60, Tryd.ntmps60; wkk; refine wp_region_wb (by kernel_rfl) (by kernel_rfl) w (Below.refl _ _) ?_
   repeat (go_big_quiet_step ((fail)))
   refine wpQuiet_nil ?_; rintro _ ⟨nq, rfl⟩; have hnq := nq.2; have H1 := Lib.hid (H.out.keep hnq); have c1 := H1.out.c1; have He := Lib.hid (Else.of_below (g := g) hnq); clear q1 q2 hnq; wkk; have hf := cf_fail (.pointer (some ⟨g, 0, none⟩)) 170 i nq.1; refine Calls.mono hf ?_; rintro _ w2 ⟨rfl, rfl⟩; exact ⟨rfl, CPo.badI HX.out ⟨rfl, He.out⟩⟩
theorem mustR_go {s : List UInt8} {en i : Nat} {c : UInt8} {u : List UInt8} (h : i < en ∧ bt s i = c.toNat) : mustR s en (c :: u) i = mustR s en u (i + 1) := by rw [mustR, if_pos h]
theorem mustR_no {s : List UInt8} {en i : Nat} {c : UInt8} {u : List UInt8} (h : ¬ (i < en ∧ bt s i = c.toNat)) : mustR s en (c :: u) i = .bad 170 i := by rw [mustR, if_neg h]
theorem drop_bt {u : List UInt8} {a : Nat} (h : a < u.length) : ∃ c, u.drop a = c :: u.drop (a + 1) ∧ bt u a = c.toNat := by
 refine ⟨u[a], List.drop_eq_getElem_cons h, ?_⟩; unfold bt; rw [List.getD_eq_getElem?_getD, List.getElem?_eq_getElem h]; rfl
set_option maxRecDepth 100000 in
theorem cf_must (g : Nat) (S U : ByteArray) (hU : U.size ≤ 100) (i en bg : Nat) (V : CV) (hS : S.size ≤ 65536) (hen : en ≤ S.size) (hi : i ≤ en) (w : World) (h : PcAt w g S i en bg V) :
   Calls Tryd.prog 13 #[.pointer (some ⟨g, 0, none⟩), .string U] w (CPo retU g S en bg V w (mustR S.data.toList en U.data.toList i)) := by
 obtain ⟨X, hX⟩ : ∃ X, mustR S.data.toList en U.data.toList i = X := ⟨_, rfl⟩; rw [hX]; have HX0 := Lib.hid hX; have H := Lib.hid h; clear h hX; go_enter Tryd.func13, Tryd.ntmps13; wkk
 go_loopg [7] U.size (fun gk s7 wr => ∃ a j : Nat, s7 = .int .i64 (a : Int) ∧ a + gk = U.size ∧ j ≤ en ∧ Hid (mustR S.data.toList en (U.data.toList.drop a) j = X) ∧ Hid (PcAt wr g S j en bg V) ∧ Hid (Else g w wr))
 case atStart => exact ⟨0, i, rfl, Nat.zero_add _, hi, HX0, H, Lib.hid (Else.refl _ _)⟩
 case round =>
   clear H HX0 hi; obtain ⟨a, j, rfl, hag, hje, HM, HP, HE⟩ := hrel
   by_cases hlt : a < U.size
   · have hlt' : (a : Int) < U.size := by omega
     obtain ⟨c, hd, hc⟩ := drop_bt (u := U.data.toList) (a := a) (by rw [ba_len]; exact hlt); have q0 : ∀ nq : WB wr, nq.1.cell? ⟨g, 0, none⟩ = some (.string S) := fun nq => (HP.out.keep nq.2).c0
     have q1 : ∀ nq : WB wr, nq.1.cell? ⟨g, 1, none⟩ = some (.int .i64 (j : Int)) := fun nq => (HP.out.keep nq.2).c1
     have q2 : ∀ nq : WB wr, nq.1.cell? ⟨g, 2, none⟩ = some (.int .i64 (en : Int)) := fun nq => (HP.out.keep nq.2).c2
     have hm := HM.out; rw [hd] at hm
     by_cases hj : j < en
     · have hj' : ¬ (j : Int) ≥ en := by omega
       have hx := byte_is S j (by omega); have hy := byte_is U a hlt; rw [hc] at hy
       by_cases hxy : bt S.data.toList j = c.toNat
       · have hm2 := Lib.hid ((mustR_go ⟨hj, hxy⟩).symm.trans hm); rw [hxy] at hx; have hb : (((c.toNat : Nat) : Int) != ((c.toNat : Nat) : Int)) = false := by simp
         have hw : IntKind.i64.wrap ((j : Int) + 1) = ((j + 1 : Nat) : Int) := by rw [wi64 (by unfold I64; omega)]; omega
         have hwa : IntKind.i64.wrap ((a : Int) + 1) = ((a + 1 : Nat) : Int) := by rw [wi64 (by unfold I64; omega)]; omega
         have hj2 : j + 1 ≤ en := hj; have ha2 : a + 1 + (gk - 1) = U.size := by omega
         have hgk : gk - 1 < gk := by omega
         generalize c.toNat = x at hx hy hb; generalize j + 1 = j2 at hw hm2 hj2; generalize a + 1 = a2 at hwa hm2 ha2; clear hxy hm hd hc HM hj hje hag hlt; wkk; refine wp_region_wb (by kernel_rfl) (by kernel_rfl) wr (Below.refl _ _) ?_
         repeat (go_big_quiet_step ((fail)))
         refine wpQuiet_nil ?_; rintro _ ⟨nq, rfl⟩; have hnq := nq.2; have H1 := Lib.hid (HP.out.keep hnq); have c1 := H1.out.c1; have f1 := H1.out.free 1; have He := Lib.hid (HE.out.trans (Else.of_below (g := g) hnq)); clear q0 q1 q2 hnq hx hy HP HE; wkk; go_roundg (gk - 1)
         case rel => exact ⟨a2, j2, rfl, ha2, hj2, hm2, Lib.hid (H1.out.set1 _), Lib.hid (He.out.setCell _ _)⟩
         case measure => exact hgk
       · have HX := Lib.hid (hm.symm.trans (mustR_no fun q => hxy q.2)); have hb : (((bt S.data.toList j : Nat) : Int) != ((c.toNat : Nat) : Int)) = true := by
           rw [bne_iff_ne]; omega
         generalize c.toNat = x at hy hb; generalize bt S.data.toList j = y at hx hb; clear hxy hm hd hc HM hj hje hag hlt; wkk; refine wp_region_wb (by kernel_rfl) (by kernel_rfl) wr (Below.refl _ _) ?_
         repeat (go_big_quiet_step ((fail)))
         refine wpQuiet_nil ?_; rintro _ ⟨nq, rfl⟩; have hnq := nq.2; have H1 := Lib.hid (HP.out.keep hnq); have c1 := H1.out.c1; have He := Lib.hid (HE.out.trans (Else.of_below (g := g) hnq)); clear q0 q1 q2 hnq hx hy HP HE; wkk; have hf := cf_fail (.pointer (some ⟨g, 0, none⟩)) 170 j nq.1; refine Calls.mono hf ?_; rintro _ w2 ⟨rfl, rfl⟩; exact ⟨rfl, CPo.badI HX.out ⟨rfl, He.out⟩⟩
     · have hj' : (j : Int) ≥ en := by omega
       have HX := Lib.hid (hm.symm.trans (mustR_no fun q => hj q.1)); clear hm hd hc HM hj hje hag hlt; wkk; refine wp_region_wb (by kernel_rfl) (by kernel_rfl) wr (Below.refl _ _) ?_
       repeat (go_big_quiet_step ((fail)))
       refine wpQuiet_nil ?_; rintro _ ⟨nq, rfl⟩; have hnq := nq.2; have H1 := Lib.hid (HP.out.keep hnq); have c1 := H1.out.c1; have He := Lib.hid (HE.out.trans (Else.of_below (g := g) hnq)); clear q0 q1 q2 hnq HP HE; wkk; have hf := cf_fail (.pointer (some ⟨g, 0, none⟩)) 170 j nq.1; refine Calls.mono hf ?_; rintro _ w2 ⟨rfl, rfl⟩; exact ⟨rfl, CPo.badI HX.out ⟨rfl, He.out⟩⟩
   · have hlt' : ¬ (a : Int) < U.size := by omega
     have HX : Hid (X = .ok () j) := Lib.hid (by
       rw [← HM.out, List.drop_eq_nil_of_le (by rw [ba_len]; omega)]; rfl)
     clear HM hje hag hlt; wkk; go_end0; exact CPo.okI HX.out ⟨rfl, HP.out, HE.out⟩
end Go.Proofs.YtonkenlkigfeoaaDoor
