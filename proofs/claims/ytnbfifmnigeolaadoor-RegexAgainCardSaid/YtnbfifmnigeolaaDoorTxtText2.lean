/- Walk: a tree is written (regex.text): its kids, one by one. Conditions: the tree may be; the tables lie. -/
import Derived.Test.YtnbfifmnigeolaaDoorTxtText
namespace Go.Proofs.YtnbfifmnigeolaaDoor
open Go.RowKit Go.Lib
section
variable {h : Nat} (IH : ∀ (r : RN) (t : Re) (w : World), ReAt w h r t → Gd h t → TT w → Calls Tryd.prog 13 #[reV r] w fun e w' => e = .returned (.string ⟨(txt h t).toArray⟩) ∧ Below w.heap.size w w')
include IH
set_option maxRecDepth 100000 in
set_option maxHeartbeats 4000000 in
theorem text_23 (r : RN) (t : Re) (w : World) (hr : ReAt w (h + 1) r t) (hg : Gd (h + 1) t) (hT : TT w) (h23 : t.kind = 2 ∨ t.kind = 3) :
    Calls Tryd.prog 13 #[reV r] w fun e w' => e = .returned (.string ⟨(txt (h + 1) t).toArray⟩) ∧ Below w.heap.size w w' := by
  have HB0 := re_box w r
  have et := txt_23 (h := h) (t := t) (by omega) (by omega)
  have hfew := hg.few
  have Hpl := Lib.hid fun k => part_le hg k t.kind
  have Hps := Lib.hid fun (k : Nat) u (hu : t.kids[k]? = some u) => part_snoc (h := h) t.kind hu
  have Hkid := Lib.hid fun (k : Nat) u (hu : t.kids[k]? = some u) => hg.kid (List.mem_of_getElem? hu)
  obtain ⟨k, s0, s1, s2, s3, mn, mx, a, n, cap, kids, rs, rfl, rfl, hn, hnk, hl, _, hrow, hk, hone, hkd⟩ := hr.node
  change k = 2 ∨ k = 3 at h23
  change txt (h + 1) _ = Lib.join (kids.map (kidT h k)) (sepK k) at et
  change kids.length ≤ 512 at hfew
  change Hid (∀ j, (Lib.join ((kids.take j).map (kidT h k)) (sepK k)).length ≤ 2048000) at Hpl
  change Hid (∀ j u, kids[j]? = some u → (kids.take (j + 1)).map (kidT h k) = (kids.take j).map (kidT h k) ++ [kidT h k u]) at Hps
  change Hid (∀ j u, kids[j]? = some u → Gd h u) at Hkid
  obtain ⟨R, hR⟩ : ∃ R, Lib.join (kids.map (kidT h k)) (sepK k) = R := ⟨_, rfl⟩
  rw [et, hR]
  have HR : Hid (Lib.join ((kids.take n).map (kidT h k)) (sepK k) = R) := Lib.hid (by rw [← hR, hnk, List.take_length])
  have HT := Lib.hid (hT.keep HB0)
  have HB := Lib.hid HB0
  have hn512 : n ≤ 512 := by omega
  obtain ⟨a0, cap0, hv, _, _, hc⟩ := hrow.open reC_length
  simp only [Value.slice.injEq] at hv
  obtain ⟨rfl, -, rfl⟩ := hv
  -- the node's own cells, after
  have HX : Hid (∀ W, Below (w.alloc (.cells (reC ⟨k, (s0, s1, s2, s3), mn, mx, .slice a n cap⟩).toArray 28)).heap.size (w.alloc (.cells (reC ⟨k, (s0, s1, s2, s3), mn, mx, .slice a n cap⟩).toArray 28)) W → Cells8 W w.heap.size 0 ⟨k, (s0, s1, s2, s3), mn, mx, .slice a n cap⟩) := Lib.hid fun W hW => by
    have hlt : w.heap.size < (w.alloc (.cells (reC ⟨k, (s0, s1, s2, s3), mn, mx, .slice a n cap⟩).toArray 28)).heap.size := by simp
    have hgg := Go.heap_alloc_new w (.cells (reC ⟨k, (s0, s1, s2, s3), mn, mx, .slice a n cap⟩).toArray 28)
    refine ⟨?_, ?_, ?_, ?_, ?_, ?_, ?_, ?_⟩ <;> (rw [hW.cell hlt, cell_of_row _ _ _ _ _ _ hgg]; rfl)
  rw [← hn] at hc
  have Hc := Lib.hid hc
  have Hk := Lib.hid hk
  have Hkd := Lib.hid hkd
  have Hone := Lib.hid hone
  have Hn := Lib.hid hn
  have Hnk := Lib.hid hnk
  have HI := Lib.hid IH
  obtain ⟨W0, hW0⟩ : ∃ W0, w.alloc (.cells (reC ⟨k, (s0, s1, s2, s3), mn, mx, .slice a n cap⟩).toArray 28) = W0 := ⟨_, rfl⟩
  have hs0 : W0.heap.size = w.heap.size + 1 := by rw [← hW0]; simp
  rw [hW0] at HT HB HX
  simp only [reC] at hW0
  have hk1 : (k == 1) = false := beq_false_of_ne (by omega)
  have hk4 : (k == 4) = false := beq_false_of_ne (by omega)
  have h23b : ((k == 2) = true ∧ k = 2) ∨ ((k == 2) = false ∧ k = 3) := by
    rcases h23 with rfl | rfl
    · exact .inl ⟨rfl, rfl⟩
    · exact .inr ⟨rfl, rfl⟩
  clear h23 hR et hg hT HB0 hr IH hone hkd hk hrow hc hn hnk
  simp only [reV, reC]
  obtain ⟨x0, x1, x2, x3, x4, x5, x6, x7⟩ := HX.out W0 (Below.refl _ _)
  dsimp only at x0 x1 x2 x3 x4 x5 x6 x7
  go_enter Tryd.func13, Tryd.ntmps13
  repeat' (first | go_values | go_skip | go_guarded | go_step | go_upon)
  clear hW0 x0 x1 x2 x3 x4 x5 x6 x7
  have HO0 : Hid (OwnR stC 1 (w.heap.size + 1) 9 W0 (.slice none 0 0) ((kids.take 0).map (kidT h k))) := Lib.hid (by rw [List.take_zero]; exact OwnR.nil)
  have HB00 : Hid (Below (w.heap.size + 1) W0 W0) := Lib.hid (Below.refl _ _)
  go_loopg [6, 103] n (fun gk s6 s103 wr => ∃ j : Nat, s103 = .int .i64 j ∧ j ≤ n ∧ n - j ≤ gk ∧ Hid (OwnR stC 1 (w.heap.size + 1) 9 wr s6 ((kids.take j).map (kidT h k))) ∧ Hid (Below (w.heap.size + 1) W0 wr))
  case atStart => exact ⟨0, rfl, Nat.zero_le _, by omega, HO0, HB00⟩
  case round =>
    clear HO0 HB00
    obtain ⟨j, rfl, hj, hgk, HO, HW⟩ := hrel
    obtain ⟨x0, x1, x2, x3, x4, x5, x6, x7⟩ := HX.out wr (by rw [hs0]; exact HW.out)
    dsimp only at x0 x1 x2 x3 x4 x5 x6 x7
    clear x1 x2 x3 x4 x5 x6 x7
    have hHW : Below w.heap.size w wr := HB.out.trans (HW.out.mono (by omega))
    by_cases hlt : j < n
    · have hlt' : (j : Int) < n := by omega
      obtain ⟨b, off, e, hb, hc⟩ : ∃ b off, a = some ⟨b, off, none⟩ ∧ b < w.heap.size ∧ ∀ (i : Nat) (x : RN) (j : Nat), rs[i]? = some x → j < 8 → w.cell? ⟨b, off + (i * 8 + j), none⟩ = (reC x)[j]? := by
        rcases Hc.out with h | h
        · omega
        · exact h
      subst e
      obtain ⟨r', hr'⟩ : ∃ r', rs[j]? = some r' := ⟨_, List.getElem?_eq_getElem (by rw [← Hn.out]; exact hlt)⟩
      obtain ⟨t', ht', hrt⟩ := Hk.out j r' hr'
      have hone := Hone.out j r' hr'
      have hk' : r'.k = t'.kind := by rw [Hkd.out j r' hr']; simp [kdOf, ht']
      obtain ⟨c0, c1, c2, c3, c4, c5, c6, c7⟩ := (row_load hc hr').keep hHW hb
      have hgu := Hkid.out j t' ht'
      have hul := hgu.len
      have hBr : Below wr.heap.size wr (wr.alloc (.cells (reC r').toArray 28)) := re_box wr r'
      have hT0 : TT wr := HT.out.keep (by rw [hs0]; exact HW.out)
      have hcall := HI.out r' t' _ (hrt.keep (hHW.trans (hBr.mono hHW.size))) hgu (hT0.keep hBr)
      have HBr := Lib.hid hBr
      have Hps1 := Lib.hid (Hps.out j t' ht')
      obtain ⟨U, hU⟩ : ∃ U, txt h t' = U := ⟨_, rfl⟩
      have hkt : kidT h k t' = brk (decide (k = 2 ∧ r'.k = 3)) U := by unfold kidT; rw [hU, hk']
      rw [hU] at hcall hul
      rw [hkt] at Hps1
      obtain ⟨L, hL⟩ : ∃ L, (kids.take j).map (kidT h k) = L := ⟨_, rfl⟩
      have hLl : L.length ≤ 512 := by rw [← hL, List.length_map, List.length_take]; omega
      rw [hL] at HO Hps1
      have hk0 : (wr.alloc (.cells (reC r').toArray 28)).cell? ⟨wr.heap.size, 0, none⟩ = some (.int .i64 r'.k) := by rw [cell_of_row _ _ _ _ _ _ (Go.heap_alloc_new wr _)]; rfl
      have HK0 := Lib.hid hk0
      have HLw : Hid (wr.heap.size < (wr.alloc (.cells (reC r').toArray 28)).heap.size) := Lib.hid (by simp)
      clear hL hkt hU hgu hrt hk' hT0 hBr hc hHW ht' hr' hk0
      simp only [reV, reC] at hcall HBr HK0 HLw
      repeat' (first | (refine store_re (r := r') hone _ _ rfl rfl rfl rfl ?_; simp only [reC]) | go_values | go_skip | go_guarded | go_step | go_upon)
      refine Calls.mono (hcall) ?_
      rintro _ w1 ⟨rfl, hb1⟩
      dsimp only
      clear hcall c0 c1 c2 c3 c4 c5 c6 c7 x0
      have y0 : w1.cell? ⟨wr.heap.size, 0, none⟩ = some (.int .i64 r'.k) := by rw [hb1.cell HLw.out]; exact HK0.out
      have hb2 := HBr.out.trans (hb1.mono HBr.out.size)
      have hown := OwnR.keep HO.out hb2 (Nat.le_refl _)
      have HW1 : Hid (Below (w.heap.size + 1) W0 w1) := Lib.hid (HW.out.trans (hb2.mono (by rw [← hs0]; exact HW.out.size)))
      have hwB : w.heap.size + 1 ≤ w1.heap.size := by rw [← hs0]; exact HW1.out.size
      obtain ⟨x0, x1, x2, x3, x4, x5, x6, x7⟩ := HX.out w1 (by rw [hs0]; exact HW1.out)
      dsimp only at x0 x1 x2 x3 x4 x5 x6 x7
      clear x1 x2 x3 x4 x5 x6 x7 hb2 hb1 HBr HK0 HLw HW HO
      have hmeas : n - (j + 1) < gk := by omega
      rcases h23b with ⟨hkb, hke⟩ | ⟨hkb, hke⟩
      · by_cases h3 : r'.k = 3
        · have hY : brk (decide (k = 2 ∧ r'.k = 3)) U = ([40] ++ U) ++ [41] := by unfold brk; rw [if_pos (by simp [hke, h3])]
          rw [hY] at Hps1
          have g1 := ba_lits [40] U
          obtain ⟨y, hy⟩ : ∃ y, [40] ++ U = y := ⟨_, rfl⟩
          have hyl : y.length ≤ 2048001 := by rw [← hy]; simp; omega
          rw [hy] at g1 Hps1
          have g2 := ba_lits y [41]
          have g3 : ¬ 9223372036854775807 < 1 + U.length := by omega
          have g4 : ¬ 9223372036854775807 < y.length + 1 := by omega
          obtain ⟨V, hV⟩ : ∃ V, y ++ [41] = V := ⟨_, rfl⟩
          rw [hV] at g2 Hps1
          have h3b : (r'.k == 3) = true := by rw [h3]; rfl
          clear hY hy h3 hke hV
          repeat' (first | (at_builtin; go_loud (refine app_one 16 w1.heap.size rfl V stC_len (by intro y hy; simp [stC] at hy; subst hy; rfl) Tryd.underlying51 info_stT rfl rfl _ _ rfl rfl rfl rfl hown hwB (by omega) (by unfold maxLen; omega) ?_); intro v4 w4 hown4 hb4 hk4 _) | go_values | go_skip | go_guarded | go_step | go_upon)
          go_roundg (n - (j + 1))
          case rel => exact ⟨j + 1, by go_num, by omega, Nat.le_refl _, Lib.hid (by rw [Hps1.out]; exact hown4), Lib.hid (HW1.out.trans hb4)⟩
          case measure => exact hmeas
        · have hY : brk (decide (k = 2 ∧ r'.k = 3)) U = U := by unfold brk; rw [if_neg (by simp [h3])]
          rw [hY] at Hps1
          have h3b : (r'.k == 3) = false := beq_false_of_ne h3
          generalize U = V at Hps1 hul ⊢
          clear hY h3 hke
          repeat' (first | (at_builtin; go_loud (refine app_one 16 w1.heap.size rfl V stC_len (by intro y hy; simp [stC] at hy; subst hy; rfl) Tryd.underlying51 info_stT rfl rfl _ _ rfl rfl rfl rfl hown hwB (by omega) (by unfold maxLen; omega) ?_); intro v4 w4 hown4 hb4 hk4 _) | go_values | go_skip | go_guarded | go_step | go_upon)
          go_roundg (n - (j + 1))
          case rel => exact ⟨j + 1, by go_num, by omega, Nat.le_refl _, Lib.hid (by rw [Hps1.out]; exact hown4), Lib.hid (HW1.out.trans hb4)⟩
          case measure => exact hmeas
      · have hY : brk (decide (k = 2 ∧ r'.k = 3)) U = U := by unfold brk; rw [if_neg (by simp [hke])]
        rw [hY] at Hps1
        generalize U = V at Hps1 hul ⊢
        clear hY hke
        repeat' (first | (at_builtin; go_loud (refine app_one 16 w1.heap.size rfl V stC_len (by intro y hy; simp [stC] at hy; subst hy; rfl) Tryd.underlying51 info_stT rfl rfl _ _ rfl rfl rfl rfl hown hwB (by omega) (by unfold maxLen; omega) ?_); intro v4 w4 hown4 hb4 hk4 _) | go_values | go_skip | go_guarded | go_step | go_upon)
        go_roundg (n - (j + 1))
        case rel => exact ⟨j + 1, by go_num, by omega, Nat.le_refl _, Lib.hid (by rw [Hps1.out]; exact hown4), Lib.hid (HW1.out.trans hb4)⟩
        case measure => exact hmeas
    · obtain rfl : j = n := by omega
      have hJ := join_own HO.out (sepK k) (by have := Hpl.out j; omega) (by rw [List.length_map, List.length_take]; omega)
      rw [HR.out] at hJ
      clear hlt
      rcases h23b with ⟨hkb, rfl⟩ | ⟨hkb, rfl⟩
      · change Calls Tryd.prog 27 #[_, .string ⟨#[]⟩] wr _ at hJ
        repeat' (first | go_values | go_skip | go_guarded | go_step | go_upon)
        refine Calls.mono (hJ) ?_
        rintro _ w1 ⟨rfl, hb1⟩
        dsimp only
        clear hJ
        repeat' (first | go_values | go_skip | go_guarded | go_step | go_upon)
        go_ret
        exact ⟨rfl, hHW.trans (hb1.mono hHW.size)⟩
      · change Calls Tryd.prog 27 #[_, .string ⟨#[124]⟩] wr _ at hJ
        repeat' (first | go_values | go_skip | go_guarded | go_step | go_upon)
        refine Calls.mono (hJ) ?_
        rintro _ w1 ⟨rfl, hb1⟩
        dsimp only
        clear hJ
        repeat' (first | go_values | go_skip | go_guarded | go_step | go_upon)
        go_ret
        exact ⟨rfl, hHW.trans (hb1.mono hHW.size)⟩
end
/-- a tree, written -/
theorem regex_text : ∀ (h : Nat) (r : RN) (t : Re) (w : World), ReAt w h r t → Gd h t → TT w → Calls Tryd.prog 13 #[reV r] w fun e w' => e = .returned (.string ⟨(txt h t).toArray⟩) ∧ Below w.heap.size w w'
  | 0, _, _, _, hr, _, _ => hr.elim
  | h + 1, r, t, w, hr, hg, hT => by
    by_cases h14 : t.kind = 1 ∨ t.kind = 4
    · exact text_14 (regex_text h) r t w hr hg hT h14
    · exact text_23 (regex_text h) r t w hr hg hT (by have := kind_open (shp_open hg.shp).1; omega)
end Go.Proofs.YtnbfifmnigeolaaDoor
