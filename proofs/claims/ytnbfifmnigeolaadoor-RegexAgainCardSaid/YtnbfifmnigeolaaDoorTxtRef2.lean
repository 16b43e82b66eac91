/- Walk: a tree is written (fretsawref06.Text): its kids, one by one. Conditions: the tree may be; the tables lie. -/
import Derived.Test.YtnbfifmnigeolaaDoorTxtRef
namespace Go.Proofs.YtnbfifmnigeolaaDoor
open Go.RowKit Go.Lib
section
variable {h : Nat} (IH : ∀ (r : RN) (t : Re) (w : World), ReAt w h r t → Gd h t → TT w → Calls Tryd.prog 12 #[reV r] w fun e w' => e = .returned (.string ⟨(txt h t).toArray⟩) ∧ Below w.heap.size w w')
include IH
set_option maxRecDepth 100000 in
set_option maxHeartbeats 4000000 in
theorem rtext_23 (r : RN) (t : Re) (w : World) (hr : ReAt w (h + 1) r t) (hg : Gd (h + 1) t) (hT : TT w) (h23 : t.kind = 2 ∨ t.kind = 3) :
    Calls Tryd.prog 12 #[reV r] w fun e w' => e = .returned (.string ⟨(txt (h + 1) t).toArray⟩) ∧ Below w.heap.size w w' := by
  have HB0 := re_box w r
  have et := txt_23 (h := h) (t := t) (by omega) (by omega)
  have hfew := hg.few
  have Hpl := Lib.hid fun k => part_le hg k t.kind
  have Hps := Lib.hid fun (k : Nat) u (hu : t.kids[k]? = some u) => part_snoc (h := h) t.kind hu
  have Hkid := Lib.hid fun (k : Nat) u (hu : t.kids[k]? = some u) => hg.kid (List.mem_of_getElem? hu)
  obtain ⟨k, s0, s1, s2, s3, mn, mx, a, n, cap, kids, rs, rfl, rfl, hn, hnk, hl, _, hrow, hk, hone, hkd⟩ := hr.node
  change k = 2 ∨ k = 3 at h23
  change txt (h + 1) _ = Lib.join (kids.map (kidT h k)) (sepK k) at et
  change kids.length ≤ 512 at hfew
  change Hid (∀ j, (Lib.join ((kids.take j).map (kidT h k)) (sepK k)).length ≤ 2048000) at Hpl
  change Hid (∀ j u, kids[j]? = some u → (kids.take (j + 1)).map (kidT h k) = (kids.take j).map (kidT h k) ++ [kidT h k u]) at Hps
  change Hid (∀ j u, kids[j]? = some u → Gd h u) at Hkid
  obtain ⟨R, hR⟩ : ∃ R, Lib.join (kids.map (kidT h k)) (sepK k) = R := ⟨_, rfl⟩
  rw [et, hR]
  have HR : Hid (Lib.join ((kids.take n).map (kidT h k)) (sepK k) = R) := Lib.hid (by rw [← hR, hnk, List.take_length])
  have HT := Lib.hid (hT.keep HB0)
  have HB := Lib.hid HB0
  have hn512 : n ≤ 512 := by omega
  obtain ⟨a0, cap0, hv, _, _, hc⟩ := hrow.open reC_length
  simp only [Value.slice.injEq] at hv
  obtain ⟨rfl, -, rfl⟩ := hv
  -- the node's own cells, after
  have HX : Hid (∀ W, Below (w.alloc (.cells (reC ⟨k, (s0, s1, s2, s3), mn, mx, .slice a n cap⟩).toArray 28)).heap.size (w.alloc (.cells (reC ⟨k, (s0, s1, s2, s3), mn, mx, .slice a n cap⟩).toArray 28)) W → Cells8 W w.heap.size 0 ⟨k, (s0, s1, s2, s3), mn, mx, .slice a n cap⟩) := Lib.hid fun W hW => by
    have hlt : w.heap.size < (w.alloc (.cells (reC ⟨k, (s0, s1, s2, s3), mn, mx, .slice a n cap⟩).toArray 28)).heap.size := by simp
    have hgg := Go.heap_alloc_new w (.cells (reC ⟨k, (s0, s1, s2, s3), mn, mx, .slice a n cap⟩).toArray 28)
    refine ⟨?_, ?_, ?_, ?_, ?_, ?_, ?_, ?_⟩ <;> (rw [hW.cell hlt, cell_of_row _ _ _ _ _ _ hgg]; rfl)
  rw [← hn] at hc
  have Hc := Lib.hid hc
  have Hk := Lib.hid hk
  have Hkd := Lib.hid hkd
  have Hone := Lib.hid hone
  have Hn := Lib.hid hn
  have Hnk := Lib.hid hnk
  have HI := Lib.hid IH
  obtain ⟨W0, hW0⟩ : ∃ W0, w.alloc (.cells (reC ⟨k, (s0, s1, s2, s3), mn, mx, .slice a n cap⟩).toArray 28) = W0 := ⟨_, rfl⟩
  have hs0 : W0.heap.size = w.heap.size + 1 := by rw [← hW0]; simp
  rw [hW0] at HT HB HX
  simp only [reC] at hW0
  have hk1 : (k == 1) = false := beq_false_of_ne (by omega)
  have hk4 : (k == 4) = false := beq_false_of_ne (by omega)
  have h23b : ((k == 2) = true ∧ k = 2) ∨ ((k == 2) = false ∧ k = 3) := by
    rcases h23 with rfl | rfl
    · exact .inl ⟨rfl, rfl⟩
    · exact .inr ⟨rfl, rfl⟩
  clear h23 hR et hg hT HB0 hr IH hone hkd hk hrow hc hn hnk
  simp only [reV, reC]
  obtain ⟨x0, x1, x2, x3, x4, x5, x6, x7⟩ := HX.out W0 (Below.refl _ _)
  dsimp only at x0 x1 x2 x3 x4 x5 x6 x7
  go_enter Tryd.func12, Tryd.ntmps12
  repeat' (first | go_values | go_skip | go_guarded | go_step | go_upon)
  clear hW0 x0 x1 x2 x3 x4 x5 x6 x7
  have HS0 : Hid (Lib.join ((kids.take 0).map (kidT h k)) (sepK k) = []) := Lib.hid (by rw [List.take_zero]; exact Lib.join_nil _)
  have HB00 : Hid (Below (w.heap.size + 1) W0 W0) := Lib.hid (Below.refl _ _)
  go_loopg [4, 87] n (fun gk s4 s87 wr => ∃ (j : Nat) (S : List UInt8), s87 = .int .i64 j ∧ s4 = .string ⟨S.toArray⟩ ∧ j ≤ n ∧ n - j ≤ gk ∧ Hid (Lib.join ((kids.take j).map (kidT h k)) (sepK k) = S) ∧ Hid (Below (w.heap.size + 1) W0 wr))
  case atStart => exact ⟨0, [], rfl, rfl, Nat.zero_le _, by omega, HS0, HB00⟩
  case round =>
    clear HS0 HB00
    obtain ⟨j, S, rfl, rfl, hj, hgk, HS, HW⟩ := hrel
    obtain ⟨x0, x1, x2, x3, x4, x5, x6, x7⟩ := HX.out wr (by rw [hs0]; exact HW.out)
    dsimp only at x0 x1 x2 x3 x4 x5 x6 x7
    clear x1 x2 x3 x4 x5 x6 x7
    have hHW : Below w.heap.size w wr := HB.out.trans (HW.out.mono (by omega))
    by_cases hlt : j < n
    · have hlt' : (j : Int) < n := by omega
      obtain ⟨b, off, e, hb, hc⟩ : ∃ b off, a = some ⟨b, off, none⟩ ∧ b < w.heap.size ∧ ∀ (i : Nat) (x : RN) (j : Nat), rs[i]? = some x → j < 8 → w.cell? ⟨b, off + (i * 8 + j), none⟩ = (reC x)[j]? := by
        rcases Hc.out with h | h
        · omega
        · exact h
      subst e
      obtain ⟨r', hr'⟩ : ∃ r', rs[j]? = some r' := ⟨_, List.getElem?_eq_getElem (by rw [← Hn.out]; exact hlt)⟩
      obtain ⟨t', ht', hrt⟩ := Hk.out j r' hr'
      have hone := Hone.out j r' hr'
      have hk' : r'.k = t'.kind := by rw [Hkd.out j r' hr']; simp [kdOf, ht']
      obtain ⟨c0, c1, c2, c3, c4, c5, c6, c7⟩ := (row_load hc hr').keep hHW hb
      have hgu := Hkid.out j t' ht'
      have hul := hgu.len
      have hBr : Below wr.heap.size wr (wr.alloc (.cells (reC r').toArray 28)) := re_box wr r'
      have hT0 : TT wr := HT.out.keep (by rw [hs0]; exact HW.out)
      have hcall := HI.out r' t' _ (hrt.keep (hHW.trans (hBr.mono hHW.size))) hgu (hT0.keep hBr)
      have HBr := Lib.hid hBr
      have hps1 := Hps.out j t' ht'
      obtain ⟨U, hU⟩ : ∃ U, txt h t' = U := ⟨_, rfl⟩
      have hkt : kidT h k t' = brk (decide (k = 2 ∧ r'.k = 3)) U := by unfold kidT; rw [hU, hk']
      rw [hU] at hcall hul
      rw [hkt] at hps1
      -- the next text
      have hjs := join_snoc (sepK k) ((kids.take j).map (kidT h k)) (brk (decide (k = 2 ∧ r'.k = 3)) U)
      rw [← hps1, HS.out] at hjs
      have hSl := Hpl.out j
      rw [HS.out] at hSl
      have hS0 : j = 0 → S = [] := by
        rintro rfl
        rw [← HS.out, List.take_zero]; exact Lib.join_nil _
      have hne : 0 < j → (kids.take j).map (kidT h k) ≠ [] := fun h0 h' => by
        have h' := congrArg List.length h'
        rw [List.length_map, List.length_take, ← Hnk.out, List.length_nil] at h'
        omega
      have hnl : j = 0 → (kids.take j).map (kidT h k) = [] := by rintro rfl; rfl
      obtain ⟨S2, hS2⟩ : ∃ S2, Lib.join ((kids.take (j + 1)).map (kidT h k)) (sepK k) = S2 := ⟨_, rfl⟩
      rw [hS2] at hjs
      have HS2 := Lib.hid hS2
      have HBk := Lib.hid (show wr.heap.size < (wr.alloc (.cells (reC r').toArray 28)).heap.size by simp)
      have hk0 : (wr.alloc (.cells (reC r').toArray 28)).cell? ⟨wr.heap.size, 0, none⟩ = some (.int .i64 r'.k) := by rw [cell_of_row _ _ _ _ _ _ (Go.heap_alloc_new wr _)]; rfl
      have hwl : w.heap.size < wr.heap.size := by have := HW.out.size; omega
      have hx0 : (wr.alloc (.cells (reC r').toArray 28)).cell? ⟨w.heap.size, 0, none⟩ = some (.int .i64 k) := by rw [hBr.cell hwl]; exact x0
      have hmeas : n - (j + 1) < gk := by omega
      have HJ := Lib.hid hjs
      have HS0 := Lib.hid hS0
      have Hne := Lib.hid hne
      have Hnl := Lib.hid hnl
      clear hkt hU hgu hrt hk' hT0 hBr hc hHW ht' hr' hS2 hjs hps1 hS0 hne hnl
      simp only [reV, reC] at hcall HBr hk0 hx0
      have o1 : ¬ 9223372036854775807 < S.length + 1 := by omega
      have o2 : ¬ 9223372036854775807 < S.length + U.length := by omega
      rcases h23b with ⟨hkb, hke⟩ | ⟨hkb, hke⟩
      · have hkc : (k == 3) = false := by rw [hke]; rfl
        have HY : Hid (S2 = S ++ brk (decide (k = 2 ∧ r'.k = 3)) U) := Lib.hid (by
          rw [HJ.out]
          by_cases h0 : j = 0
          · rw [if_pos (Hnl.out h0), HS0.out h0]; rfl
          · rw [if_neg (Hne.out (by omega)), hke]; rfl)
        clear HJ HS0 Hne Hnl
        have hj0 : ¬ 0 < (j : Int) ∨ 0 < (j : Int) := by omega
        by_cases h3 : r'.k = 3
        · have e : S2 = ((S ++ [40]) ++ U) ++ [41] := by rw [HY.out]; unfold brk; rw [if_pos (by simp [hke, h3])]; simp only [List.append_assoc]
          have h3b : (r'.k == 3) = true := by rw [h3]; rfl
          have d1 := ba_lits S [40]
          obtain ⟨y1, hy1⟩ : ∃ y, S ++ [40] = y := ⟨_, rfl⟩
          have hy1l : y1.length ≤ 2048001 := by rw [← hy1]; simp; omega
          have d2 := ba_lits y1 U
          obtain ⟨y2, hy2⟩ : ∃ y, y1 ++ U = y := ⟨_, rfl⟩
          have hy2l : y2.length ≤ 4096001 := by rw [← hy2]; simp; omega
          have d3 := ba_lits y2 [41]
          rw [hy1] at d1 e
          rw [hy2] at d2 e
          rw [← e] at d3
          have o3 : ¬ 9223372036854775807 < y1.length + U.length := by omega
          have o4 : ¬ 9223372036854775807 < y2.length + 1 := by omega
          clear HY h3 hke e hy1 hy2
          rcases hj0 with hj0 | hj0
          · repeat' (first | (refine store_re (r := r') hone _ _ rfl rfl rfl rfl ?_; simp only [reC]) | go_values | go_skip | go_guarded | go_step | go_upon)
            refine Calls.mono (hcall) ?_
            rintro _ w1 ⟨rfl, hb1⟩
            dsimp only
            have HW1 : Hid (Below (w.heap.size + 1) W0 w1) := Lib.hid (HW.out.trans ((HBr.out.trans (hb1.mono HBr.out.size)).mono (by rw [← hs0]; exact HW.out.size)))
            clear hcall c0 c1 c2 c3 c4 c5 c6 c7 x0 hk0 hx0 hb1
            repeat' (first | go_values | go_skip | go_guarded | go_step | go_upon)
            go_roundg (n - (j + 1))
            case rel => exact ⟨j + 1, S2, by go_num, rfl, by omega, Nat.le_refl _, HS2, HW1⟩
            case measure => exact hmeas
          · repeat' (first | (refine store_re (r := r') hone _ _ rfl rfl rfl rfl ?_; simp only [reC]) | go_values | go_skip | go_guarded | go_step | go_upon)
            refine Calls.mono (hcall) ?_
            rintro _ w1 ⟨rfl, hb1⟩
            dsimp only
            have HW1 : Hid (Below (w.heap.size + 1) W0 w1) := Lib.hid (HW.out.trans ((HBr.out.trans (hb1.mono HBr.out.size)).mono (by rw [← hs0]; exact HW.out.size)))
            clear hcall c0 c1 c2 c3 c4 c5 c6 c7 x0 hk0 hx0 hb1
            repeat' (first | go_values | go_skip | go_guarded | go_step | go_upon)
            go_roundg (n - (j + 1))
            case rel => exact ⟨j + 1, S2, by go_num, rfl, by omega, Nat.le_refl _, HS2, HW1⟩
            case measure => exact hmeas
        · have e : S2 = S ++ U := by rw [HY.out]; unfold brk; rw [if_neg (by simp [h3])]
          have h3b : (r'.k == 3) = false := beq_false_of_ne h3
          have d1 := ba_lits S U
          rw [← e] at d1
          clear HY h3 hke e
          rcases hj0 with hj0 | hj0
          · repeat' (first | (refine store_re (r := r') hone _ _ rfl rfl rfl rfl ?_; simp only [reC]) | go_values | go_skip | go_guarded | go_step | go_upon)
            refine Calls.mono (hcall) ?_
            rintro _ w1 ⟨rfl, hb1⟩
            dsimp only
            have HW1 : Hid (Below (w.heap.size + 1) W0 w1) := Lib.hid (HW.out.trans ((HBr.out.trans (hb1.mono HBr.out.size)).mono (by rw [← hs0]; exact HW.out.size)))
            clear hcall c0 c1 c2 c3 c4 c5 c6 c7 x0 hk0 hx0 hb1
            repeat' (first | go_values | go_skip | go_guarded | go_step | go_upon)
            go_roundg (n - (j + 1))
            case rel => exact ⟨j + 1, S2, by go_num, rfl, by omega, Nat.le_refl _, HS2, HW1⟩
            case measure => exact hmeas
          · repeat' (first | (refine store_re (r := r') hone _ _ rfl rfl rfl rfl ?_; simp only [reC]) | go_values | go_skip | go_guarded | go_step | go_upon)
            refine Calls.mono (hcall) ?_
            rintro _ w1 ⟨rfl, hb1⟩
            dsimp only
            have HW1 : Hid (Below (w.heap.size + 1) W0 w1) := Lib.hid (HW.out.trans ((HBr.out.trans (hb1.mono HBr.out.size)).mono (by rw [← hs0]; exact HW.out.size)))
            clear hcall c0 c1 c2 c3 c4 c5 c6 c7 x0 hk0 hx0 hb1
            repeat' (first | go_values | go_skip | go_guarded | go_step | go_upon)
            go_roundg (n - (j + 1))
            case rel => exact ⟨j + 1, S2, by go_num, rfl, by omega, Nat.le_refl _, HS2, HW1⟩
            case measure => exact hmeas
      · have hkc : (k == 3) = true := by rw [hke]; rfl
        have hY : brk (decide (k = 2 ∧ r'.k = 3)) U = U := by unfold brk; rw [if_neg (by simp [hke])]
        rw [hY] at HJ
        by_cases h0 : j = 0
        · have e : S2 = S ++ U := by rw [HJ.out, if_pos (Hnl.out h0), HS0.out h0]; rfl
          have hj0 : ¬ 0 < (j : Int) := by omega
          have d1 := ba_lits S U
          rw [← e] at d1
          clear HJ HS0 Hne Hnl hY hke e h0
          repeat' (first | (refine store_re (r := r') hone _ _ rfl rfl rfl rfl ?_; simp only [reC]) | go_values | go_skip | go_guarded | go_step | go_upon)
          refine Calls.mono (hcall) ?_
          rintro _ w1 ⟨rfl, hb1⟩
          dsimp only
          have HW1 : Hid (Below (w.heap.size + 1) W0 w1) := Lib.hid (HW.out.trans ((HBr.out.trans (hb1.mono HBr.out.size)).mono (by rw [← hs0]; exact HW.out.size)))
          clear hcall c0 c1 c2 c3 c4 c5 c6 c7 x0 hk0 hx0 hb1
          repeat' (first | go_values | go_skip | go_guarded | go_step | go_upon)
          go_roundg (n - (j + 1))
          case rel => exact ⟨j + 1, S2, by go_num, rfl, by omega, Nat.le_refl _, HS2, HW1⟩
          case measure => exact hmeas
        · have e : S2 = (S ++ [124]) ++ U := by rw [HJ.out, if_neg (Hne.out (by omega)), hke]; simp [sepK]
          have hj0 : 0 < (j : Int) := by omega
          have d1 := ba_lits S [124]
          obtain ⟨y1, hy1⟩ : ∃ y, S ++ [124] = y := ⟨_, rfl⟩
          have hy1l : y1.length ≤ 2048001 := by rw [← hy1]; simp; omega
          have d2 := ba_lits y1 U
          rw [hy1] at d1 e
          rw [← e] at d2
          have o3 : ¬ 9223372036854775807 < y1.length + U.length := by omega
          clear HJ HS0 Hne Hnl hY hke e h0 hy1
          repeat' (first | (refine store_re (r := r') hone _ _ rfl rfl rfl rfl ?_; simp only [reC]) | go_values | go_skip | go_guarded | go_step | go_upon)
          refine Calls.mono (hcall) ?_
          rintro _ w1 ⟨rfl, hb1⟩
          dsimp only
          have HW1 : Hid (Below (w.heap.size + 1) W0 w1) := Lib.hid (HW.out.trans ((HBr.out.trans (hb1.mono HBr.out.size)).mono (by rw [← hs0]; exact HW.out.size)))
          clear hcall c0 c1 c2 c3 c4 c5 c6 c7 x0 hk0 hx0 hb1
          repeat' (first | go_values | go_skip | go_guarded | go_step | go_upon)
          go_roundg (n - (j + 1))
          case rel => exact ⟨j + 1, S2, by go_num, rfl, by omega, Nat.le_refl _, HS2, HW1⟩
          case measure => exact hmeas
    · obtain rfl : j = n := by omega
      have e : R = S := by rw [← HR.out]; exact HS.out
      subst e
      clear hlt
      repeat' (first | go_values | go_skip | go_guarded | go_step | go_upon)
      go_ret
      exact ⟨rfl, hHW⟩
end
/-- a tree, written -/
theorem ref_Text : ∀ (h : Nat) (r : RN) (t : Re) (w : World), ReAt w h r t → Gd h t → TT w → Calls Tryd.prog 12 #[reV r] w fun e w' => e = .returned (.string ⟨(txt h t).toArray⟩) ∧ Below w.heap.size w w'
  | 0, _, _, _, hr, _, _ => hr.elim
  | h + 1, r, t, w, hr, hg, hT => by
    by_cases h14 : t.kind = 1 ∨ t.kind = 4
    · exact rtext_14 (ref_Text h) r t w hr hg hT h14
    · exact rtext_23 (ref_Text h) r t w hr hg hT (by have := kind_open (shp_open hg.shp).1; omega)
end Go.Proofs.YtnbfifmnigeolaaDoor
