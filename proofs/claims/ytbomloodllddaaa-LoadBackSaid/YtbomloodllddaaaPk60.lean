/- Walk: two programs, compared by the reference (fretsawref25.Like). Conditions: they lie in memory, and are alike. -/
import Derived.Test.YtbomloodllddaaaPk59
import Derived.Test.YtbomloodllddaaaPk34
namespace Go.Proofs.Ytbomloodllddaaa
open Go.RowKit
/-- two programs in variables -/
structure P2 (w0 : World) (g1 g2 : Nat) (p : Prg) (v1 v2 : PV) (w : World) : Prop where
  bel : Below w0.heap.size w0 w
  b1 : PBox w g1 p v1
  b2 : PBox w g2 p v2
theorem P2.step {w0 w w' : World} {g1 g2 : Nat} {p : Prg} {v1 v2 : PV} (h : P2 w0 g1 g2 p v1 v2 w) (hb : Below w.heap.size w w') : P2 w0 g1 g2 p v1 v2 w' :=
  ⟨h.bel.trans (hb.mono h.bel.size), h.b1.keep hb, h.b2.keep hb⟩
theorem P2.cells {w0 w : World} {g1 g2 : Nat} {p : Prg} {v1 v2 : PV} (h : P2 w0 g1 g2 p v1 v2 w) (k : Nat) : w.cell? ⟨g1, k, none⟩ = (pgC p v1)[k]? ∧ w.cell? ⟨g2, k, none⟩ = (pgC p v2)[k]? := ⟨h.b1.cell k, h.b2.cell k⟩
set_option maxRecDepth 100000 in
set_option maxHeartbeats 4000000 in
theorem r25_Like (p : Prg) (v1 v2 : PV) (w : World) (H1 : PrgAt w v1 p) (H2' : PrgAt w v2 p) : Calls Try.prog 15 #[pgV p v1, pgV p v2] w fun e w' => e = .returned (.bool true) ∧ Below w.heap.size w w' := by
  obtain ⟨ac1, cc1, at1, ct1, ax1, cx1, as1, cs1, ak1, ck1, av1, cv1, hv1⟩ := H1.forms
  obtain ⟨ac2, cc2, at2, ct2, ax2, cx2, as2, cs2, ak2, ck2, av2, cv2, hv2⟩ := H2'.forms
  obtain ⟨_, _, hx1, _, mx1⟩ := H1.texts.slice
  obtain ⟨ts1, ht1, tl1, tr1⟩ := H1.tabs
  obtain ⟨ts2, ht2, tl2, tr2⟩ := H2'.tabs
  obtain ⟨_, _, _, lt1, mt1⟩ := ht1.slice
  subst hv1 hv2
  dsimp only at hx1 ht1 ht2
  obtain ⟨nt, hnt⟩ : ∃ n, n = p.tabs.length := ⟨_, rfl⟩
  obtain ⟨nx, hnx⟩ : ∃ n, n = p.texts.length := ⟨_, rfl⟩
  obtain ⟨nc, hnc⟩ : ∃ n, n = p.code.length := ⟨_, rfl⟩
  have hmt : nt ≤ 9223372036854775807 := by unfold maxLen at *; omega
  have hmx : nx ≤ 9223372036854775807 := by unfold maxLen at *; have := H1.texts.slice; obtain ⟨_, _, _, a, b⟩ := this; unfold maxLen at b; omega
  have HC1 := Lib.hid H1.code
  have HC2 := Lib.hid H2'.code
  have HX1 := Lib.hid H1.texts
  have HX2 := Lib.hid H2'.texts
  have HH1 := Lib.hid H1.hash
  have HH2 := Lib.hid H2'.hash
  have HT1 := Lib.hid ht1
  have HT2 := Lib.hid ht2
  have TR1 := Lib.hid tr1
  have TR2 := Lib.hid tr2
  dsimp only at HC1 HC2 HX1 HX2 HH1 HH2
  rw [← hnc] at HC1 HC2
  rw [← hnx] at HX1 HX2
  rw [← hnt] at HT1 HT2
  rw [← hnt, ← hnx, ← hnc]
  have Hnt := Lib.hid hnt
  have Hnx := Lib.hid hnx
  have HL1 : Hid (ts1.length = p.tabs.length) := Lib.hid tl1
  have HL2 : Hid (ts2.length = p.tabs.length) := Lib.hid tl2
  clear H1 H2' hx1 mx1 ht1 ht2 tl1 tl2 tr1 tr2 lt1 mt1 hnt hnx hnc
  generalize p.hash.seeds.length = ms at *
  generalize p.hash.keys.length = mk at *
  generalize p.hash.vals.length = mv at *
  have HM : Hid (P2 w w.heap.size (w.heap.size + 1) p ⟨.slice ac1 nc cc1, .slice at1 nt ct1, .slice ax1 nx cx1, .slice as1 ms cs1, .slice ak1 mk ck1, .slice av1 mv cv1⟩ ⟨.slice ac2 nc cc2, .slice at2 nt ct2, .slice ax2 nx cx2, .slice as2 ms cs2, .slice ak2 mk ck2, .slice av2 mv cv2⟩ ((w.alloc (.cells (pgC p ⟨.slice ac1 nc cc1, .slice at1 nt ct1, .slice ax1 nx cx1, .slice as1 ms cs1, .slice ak1 mk ck1, .slice av1 mv cv1⟩) 30)).alloc (.cells (pgC p ⟨.slice ac2 nc cc2, .slice at2 nt ct2, .slice ax2 nx cx2, .slice as2 ms cs2, .slice ak2 mk ck2, .slice av2 mv cv2⟩) 30))) := Lib.hid
    ⟨((Below.refl _ _).alloc (Nat.le_refl _) _).alloc (by simp) _, heap_two_old _ _ _, by have := PBox.new (w.alloc (.cells (pgC p ⟨.slice ac1 nc cc1, .slice at1 nt ct1, .slice ax1 nx cx1, .slice as1 ms cs1, .slice ak1 mk ck1, .slice av1 mv cv1⟩) 30)) p ⟨.slice ac2 nc cc2, .slice at2 nt ct2, .slice ax2 nx cx2, .slice as2 ms cs2, .slice ak2 mk ck2, .slice av2 mv cv2⟩; simpa using this⟩
  go_enter Try.func15, Try.ntmps15
  repeat' (go_not_at_region 1; first | go_values | go_skip | go_guarded | go_step | go_upon)
  obtain ⟨g1, hg1⟩ : ∃ g, g = w.heap.size := ⟨_, rfl⟩
  rw [← hg1] at HM ⊢
  refine gen_wd (fun W => P2 w g1 (g1 + 1) p ⟨.slice ac1 nc cc1, .slice at1 nt ct1, .slice ax1 nx cx1, .slice as1 ms cs1, .slice ak1 mk ck1, .slice av1 mv cv1⟩ ⟨.slice ac2 nc cc2, .slice at2 nt ct2, .slice ax2 nx cx2, .slice as2 ms cs2, .slice ak2 mk ck2, .slice av2 mv cv2⟩ W) HM.out ?_
  intro wa hma
  have HA := Lib.hid hma
  clear hma HM hg1
  have z0 : wa.cell? ⟨g1, 0, none⟩ = some (.int .i64 p.grow) := (HA.out.cells 0).1
  have z1 : wa.cell? ⟨g1, 1, none⟩ = some (.int .i64 p.rest) := (HA.out.cells 1).1
  have z2 : wa.cell? ⟨g1, 2, none⟩ = some (.int .i64 p.extra) := (HA.out.cells 2).1
  have z3 : wa.cell? ⟨g1, 3, none⟩ = some (.int .i64 p.signs) := (HA.out.cells 3).1
  have z4 : wa.cell? ⟨g1, 4, none⟩ = some (.slice ac1 nc cc1) := (HA.out.cells 4).1
  have z5 : wa.cell? ⟨g1, 5, none⟩ = some (.slice at1 nt ct1) := (HA.out.cells 5).1
  have z6 : wa.cell? ⟨g1, 6, none⟩ = some (.slice ax1 nx cx1) := (HA.out.cells 6).1
  have y0 : wa.cell? ⟨g1 + 1, 0, none⟩ = some (.int .i64 p.grow) := (HA.out.cells 0).2
  have y1 : wa.cell? ⟨g1 + 1, 1, none⟩ = some (.int .i64 p.rest) := (HA.out.cells 1).2
  have y2 : wa.cell? ⟨g1 + 1, 2, none⟩ = some (.int .i64 p.extra) := (HA.out.cells 2).2
  have y3 : wa.cell? ⟨g1 + 1, 3, none⟩ = some (.int .i64 p.signs) := (HA.out.cells 3).2
  have y4 : wa.cell? ⟨g1 + 1, 4, none⟩ = some (.slice ac2 nc cc2) := (HA.out.cells 4).2
  have y5 : wa.cell? ⟨g1 + 1, 5, none⟩ = some (.slice at2 nt ct2) := (HA.out.cells 5).2
  have y6 : wa.cell? ⟨g1 + 1, 6, none⟩ = some (.slice ax2 nx cx2) := (HA.out.cells 6).2
  repeat' (first | go_values | go_skip | go_guarded | go_step | go_upon)
  refine Calls.mono (rg_Like _ _ p.code _ (HC1.out.keep HA.out.bel) (HC2.out.keep HA.out.bel)) ?_
  rintro _ wb ⟨rfl, hbb⟩
  dsimp only
  have HB := Lib.hid (HA.out.step hbb)
  clear z0 z1 z2 z3 z4 z5 z6 y0 y1 y2 y3 y4 y5 y6 hbb HA
  have z7 : wb.cell? ⟨g1, 7, none⟩ = some (.slice as1 ms cs1) := (HB.out.cells 7).1
  have z8 : wb.cell? ⟨g1, 8, none⟩ = some (.slice ak1 mk ck1) := (HB.out.cells 8).1
  have z9 : wb.cell? ⟨g1, 9, none⟩ = some (.slice av1 mv cv1) := (HB.out.cells 9).1
  have y7 : wb.cell? ⟨g1 + 1, 7, none⟩ = some (.slice as2 ms cs2) := (HB.out.cells 7).2
  have y8 : wb.cell? ⟨g1 + 1, 8, none⟩ = some (.slice ak2 mk ck2) := (HB.out.cells 8).2
  have y9 : wb.cell? ⟨g1 + 1, 9, none⟩ = some (.slice av2 mv cv2) := (HB.out.cells 9).2
  repeat' (first | go_values | go_skip | go_guarded | go_step | go_upon)
  refine Calls.mono (r15_Like _ _ _ _ _ _ p.hash _ (HH1.out.keep HB.out.bel) (HH2.out.keep HB.out.bel)) ?_
  rintro _ wc ⟨rfl, hbc⟩
  dsimp only
  have HA := Lib.hid (HB.out.step hbc)
  clear z7 z8 z9 y7 y8 y9 hbc HB
  have z5 : wc.cell? ⟨g1, 5, none⟩ = some (.slice at1 nt ct1) := (HA.out.cells 5).1
  repeat' (first | go_values | go_skip | go_guarded | go_step | go_upon)
  clear z5
  go_loopw [5, 70] (fun _ sc w' => ∃ k : Nat, sc = .int .i64 k ∧ k ≤ nt ∧ Hid (P2 w g1 (g1 + 1) p ⟨.slice ac1 nc cc1, .slice at1 nt ct1, .slice ax1 nx cx1, .slice as1 ms cs1, .slice ak1 mk ck1, .slice av1 mv cv1⟩ ⟨.slice ac2 nc cc2, .slice at2 nt ct2, .slice ax2 nx cx2, .slice as2 ms cs2, .slice ak2 mk ck2, .slice av2 mv cv2⟩ w')) (fun _ sc _ => nt - (intOf sc).toNat)
  case atStart => exact ⟨0, rfl, Nat.zero_le _, HA⟩
  case round =>
    clear HA
    obtain ⟨k, rfl, hk, HM⟩ := hrel
    by_cases hlt : k < nt
    · have hl1 : k < ts1.length := by rw [HL1.out, ← Hnt.out]; exact hlt
      have hl2 : k < ts2.length := by rw [HL2.out, ← Hnt.out]; exact hlt
      obtain ⟨t1, ht1⟩ : ∃ t, ts1[k]? = some t := ⟨_, List.getElem?_eq_getElem hl1⟩
      obtain ⟨t2, ht2⟩ : ∃ t, ts2[k]? = some t := ⟨_, List.getElem?_eq_getElem hl2⟩
      obtain ⟨d, hd⟩ : ∃ d, p.tabs[k]? = some d := ⟨_, List.getElem?_eq_getElem (by rw [← Hnt.out]; exact hlt)⟩
      obtain ⟨i1, _, r1⟩ := TR1.out k t1 d ht1 hd
      obtain ⟨i2, _, r2⟩ := TR2.out k t2 d ht2 hd
      obtain ⟨_, _, e1, _, _, hc1⟩ := HT1.out.open (f := tbC) (sz := 2) (fun _ => rfl)
      obtain ⟨_, _, e2, _, _, hc2⟩ := HT2.out.open (f := tbC) (sz := 2) (fun _ => rfl)
      simp only [Value.slice.injEq] at e1 e2
      obtain ⟨rfl, _, rfl⟩ := e1
      obtain ⟨rfl, _, rfl⟩ := e2
      rcases hc1 with h0 | ⟨b1, o1, rfl, hb1, hc1⟩
      · omega
      rcases hc2 with h0 | ⟨b2, o2, rfl, hb2, hc2⟩
      · omega
      obtain ⟨m0, m1⟩ := tab_cells hc1 ht1
      obtain ⟨n0, n1⟩ := tab_cells hc2 ht2
      rw [i1] at m0
      rw [i2] at n0
      have hw1 : b1 < wr.heap.size := Nat.lt_of_lt_of_le hb1 HM.out.bel.size
      have hw2 : b2 < wr.heap.size := Nat.lt_of_lt_of_le hb2 HM.out.bel.size
      obtain ⟨d1, d2⟩ := d
      obtain ⟨t11, t12⟩ := t1
      obtain ⟨t21, t22⟩ := t2
      dsimp only at m0 m1 n0 n1 r1 r2
      have q0 : ∀ nq : WB wr, nq.1.cell? ⟨b1, o1 + k * 2, none⟩ = some (.int .i64 d1) := fun nq => by rw [nq.cell hw1, HM.out.bel.cell (show b1 < w.heap.size from hb1)]; exact m0
      have q1 : ∀ nq : WB wr, nq.1.cell? ⟨b1, o1 + k * 2 + 1, none⟩ = some t12 := fun nq => by rw [nq.cell hw1, HM.out.bel.cell (show b1 < w.heap.size from hb1)]; exact m1
      have q2 : ∀ nq : WB wr, nq.1.cell? ⟨b2, o2 + k * 2, none⟩ = some (.int .i64 d1) := fun nq => by rw [nq.cell hw2, HM.out.bel.cell (show b2 < w.heap.size from hb2)]; exact n0
      have q3 : ∀ nq : WB wr, nq.1.cell? ⟨b2, o2 + k * 2 + 1, none⟩ = some t22 := fun nq => by rw [nq.cell hw2, HM.out.bel.cell (show b2 < w.heap.size from hb2)]; exact n1
      have q4 : ∀ nq : WB wr, nq.1.cell? ⟨g1, 5, none⟩ = some (.slice (some ⟨b1, o1, none⟩) nt ct1) := fun nq => ((HM.out.step nq.2).cells 5).1
      have q5 : ∀ nq : WB wr, nq.1.cell? ⟨g1 + 1, 5, none⟩ = some (.slice (some ⟨b2, o2, none⟩) nt ct2) := fun nq => ((HM.out.step nq.2).cells 5).2
      have HI := Lib.hid fun nq : WB wr => r07_Ints t12 t22 d2 nq.1 (r1.keep (HM.out.step nq.2).bel) (r2.keep (HM.out.step nq.2).bel)
      obtain ⟨u1, u2, e3, _, _⟩ := r1.slice
      obtain ⟨u3, u4, e4, _, _⟩ := r2.slice
      subst e3 e4
      clear m0 m1 n0 n1 r1 r2 hc1 hc2 ht1 ht2 hd
      repeat' (first | go_values | go_skip | go_guarded | go_step | go_upon)
      refine wp_region_wb (by kernel_rfl) (by kernel_rfl) wr (Below.refl _ _) ?_
      repeat (go_big_quiet_step ((go_at_call 50; exact calls_wb (HI.out _))))
      refine wpQuiet_nil ?_
      rintro _ ⟨nq, rfl⟩
      have hnq := nq.2
      have HN := Lib.hid (HM.out.step hnq)
      clear q0 q1 q2 q3 q4 q5 hnq HI
      repeat' (first | go_values | go_skip | go_guarded | go_step | go_upon)
      go_roundw
      case rel => exact ⟨k + 1, by go_num, hlt, HN⟩
      case measure => simp [intOf]; omega
    · obtain rfl : nt = k := by omega
      have HA := Lib.hid HM.out
      clear HM hk hlt
      have z6 : wr.cell? ⟨g1, 6, none⟩ = some (.slice ax1 nx cx1) := (HA.out.cells 6).1
      repeat' (first | go_values | go_skip | go_guarded | go_step | go_upon)
      clear z6
      go_loopw [6, 106] (fun _ sc w' => ∃ k : Nat, sc = .int .i64 k ∧ k ≤ nx ∧ Hid (P2 w g1 (g1 + 1) p ⟨.slice ac1 nc cc1, .slice at1 nt ct1, .slice ax1 nx cx1, .slice as1 ms cs1, .slice ak1 mk ck1, .slice av1 mv cv1⟩ ⟨.slice ac2 nc cc2, .slice at2 nt ct2, .slice ax2 nx cx2, .slice as2 ms cs2, .slice ak2 mk ck2, .slice av2 mv cv2⟩ w')) (fun _ sc _ => nx - (intOf sc).toNat)
      case atStart => exact ⟨0, rfl, Nat.zero_le _, HA⟩
      case round =>
        clear HA
        obtain ⟨k, rfl, hk, HM⟩ := hrel
        by_cases hlt : k < nx
        · obtain ⟨x, hx⟩ : ∃ x, p.texts[k]? = some x := ⟨_, List.getElem?_eq_getElem (by rw [← Hnx.out]; exact hlt)⟩
          obtain ⟨b1, o1, rfl, hb1, e1⟩ := row_cell strC_len25 HX1.out HM.out.bel k x hx
          obtain ⟨b2, o2, rfl, hb2, e2⟩ := row_cell strC_len25 HX2.out HM.out.bel k x hx
          have q0 : ∀ nq : WB wr, nq.1.cell? ⟨b1, o1 + k, none⟩ = some (.string ⟨x.toArray⟩) := fun nq => by rw [nq.cell hb1]; exact e1
          have q1 : ∀ nq : WB wr, nq.1.cell? ⟨b2, o2 + k, none⟩ = some (.string ⟨x.toArray⟩) := fun nq => by rw [nq.cell hb2]; exact e2
          have q2 : ∀ nq : WB wr, nq.1.cell? ⟨g1, 6, none⟩ = some (.slice (some ⟨b1, o1, none⟩) nx cx1) := fun nq => ((HM.out.step nq.2).cells 6).1
          have q3 : ∀ nq : WB wr, nq.1.cell? ⟨g1 + 1, 6, none⟩ = some (.slice (some ⟨b2, o2, none⟩) nx cx2) := fun nq => ((HM.out.step nq.2).cells 6).2
          clear e1 e2 hx
          repeat' (first | go_values | go_skip | go_guarded | go_step | go_upon)
          refine wp_region_wb (by kernel_rfl) (by kernel_rfl) wr (Below.refl _ _) ?_
          repeat (go_big_quiet_step ((fail)))
          refine wpQuiet_nil ?_
          rintro _ ⟨nq, rfl⟩
          have hnq := nq.2
          have HN := Lib.hid (HM.out.step hnq)
          clear q0 q1 q2 q3 hnq
          repeat' (first | go_values | go_skip | go_guarded | go_step | go_upon)
          go_roundw
          case rel => exact ⟨k + 1, by go_num, hlt, HN⟩
          case measure => simp [intOf]; omega
        · repeat' (first | go_values | go_skip | go_guarded | go_step | go_upon)
          go_ret
          exact ⟨rfl, HM.out.bel⟩
end Go.Proofs.Ytbomloodllddaaa
