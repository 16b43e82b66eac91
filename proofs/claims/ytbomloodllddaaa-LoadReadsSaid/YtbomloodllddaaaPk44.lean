/- Walk: two programs, compared by the reference (fretsawref25.Like). Conditions: they lie in memory, and are alike. -/
import Derived.Test.YtbomloodllddaaaPk43
import Derived.Test.YtbomloodllddaaaPk31
import Derived.Test.YtbomloodllddaaaPk35
import Derived.Test.YtbomloodllddaaaPk37
namespace Go.Proofs.Ytbomloodllddaaa
open Go.RowKit
/-- two programs in variables -/
structure P2 (w0 : World) (g1 g2 : Nat) (p : Prg) (v1 v2 : PV) (w : World) : Prop where
  bel : Below w0.heap.size w0 w
  b1 : PBox w g1 p v1
  b2 : PBox w g2 p v2
theorem P2.step {w0 w w' : World} {g1 g2 : Nat} {p : Prg} {v1 v2 : PV} (h : P2 w0 g1 g2 p v1 v2 w) (hb : Below w.heap.size w w') : P2 w0 g1 g2 p v1 v2 w' :=
  ⟨h.bel.trans (hb.mono h.bel.size), h.b1.keep hb, h.b2.keep hb⟩
theorem P2.cells {w0 w : World} {g1 g2 : Nat} {p : Prg} {v1 v2 : PV} (h : P2 w0 g1 g2 p v1 v2 w) (k : Nat) : w.cell? ⟨g1, k, none⟩ = (pgC p v1)[k]? ∧ w.cell? ⟨g2, k, none⟩ = (pgC p v2)[k]? := ⟨h.b1.cell k, h.b2.cell k⟩
set_option maxRecDepth 100000 in
set_option maxHeartbeats 4000000 in
theorem r25_Like (p : Prg) (v1 v2 : PV) (w : World) (H1 : PrgAt w v1 p) (H2' : PrgAt w v2 p) : Calls Try.prog 15 #[pgV p v1, pgV p v2] w fun e w' => e = .returned (.bool true) ∧ Below w.heap.size w w' := by
  obtain ⟨ac1, cc1, at1, ct1, ax1, cx1, as1, cs1, ak1, ck1, av1, cv1, hv1⟩ := H1.forms
  obtain ⟨ac2, cc2, at2, ct2, ax2, cx2, as2, cs2, ak2, ck2, av2, cv2, hv2⟩ := H2'.forms
  obtain ⟨_, _, hx1, _, mx1⟩ := H1.texts.slice
  obtain ⟨ts1, ht1, tl1, tr1⟩ := H1.tabs
  obtain ⟨ts2, ht2, tl2, tr2⟩ := H2'.tabs
  obtain ⟨_, _, _, lt1, mt1⟩ := ht1.slice
  subst hv1 hv2
  dsimp only at hx1 ht1 ht2
  obtain ⟨nt, hnt⟩ : ∃ n, n = p.tabs.length := ⟨_, rfl⟩
  obtain ⟨nx, hnx⟩ : ∃ n, n = p.texts.length := ⟨_, rfl⟩
  obtain ⟨nc, hnc⟩ : ∃ n, n = p.code.length := ⟨_, rfl⟩
  have hmt : nt ≤ 9223372036854775807 := by unfold maxLen at *; omega
  have hmx : nx ≤ 9223372036854775807 := by unfold maxLen at *; have := H1.texts.slice; obtain ⟨_, _, _, a, b⟩ := this; unfold maxLen at b; omega
  have HC1 := Lib.hid H1.code
  have HC2 := Lib.hid H2'.code
  have HX1 := Lib.hid H1.texts
  have HX2 := Lib.hid H2'.texts
  have HH1 := Lib.hid H1.hash
  have HH2 := Lib.hid H2'.hash
  have HT1 := Lib.hid ht1
  have HT2 := Lib.hid ht2
  have TR1 := Lib.hid tr1
  have TR2 := Lib.hid tr2
  dsimp only at HC1 HC2 HX1 HX2 HH1 HH2
  rw [← hnc] at HC1 HC2
  rw [← hnx] at HX1 HX2
  rw [← hnt] at HT1 HT2
  rw [← hnt, ← hnx, ← hnc]
  have Hnt := Lib.hid hnt
  have Hnx := Lib.hid hnx
  have HL1 : Hid (ts1.length = p.tabs.length) := Lib.hid tl1
  have HL2 : Hid (ts2.length = p.tabs.length) := Lib.hid tl2
  clear H1 H2' hx1 mx1 ht1 ht2 tl1 tl2 tr1 tr2 lt1 mt1 hnt hnx hnc
  generalize p.hash.seeds.length = ms at *
  generalize p.hash.keys.length = mk at *
  generalize p.hash.vals.length = mv at *
  have HM : Hid (P2 w w.heap.size (w.heap.size + 1) p ⟨.slice ac1 nc cc1, .slice at1 nt ct1, .slice ax1 nx cx1, .slice as1 ms cs1, .slice ak1 mk ck1, .slice av1 mv cv1⟩ ⟨.slice ac2 nc cc2, .slice at2 nt ct2, .slice ax2 nx cx2, .slice as2 ms cs2, .slice ak2 mk ck2, .slice av2 mv cv2⟩ ((w.alloc (.cells (pgC p ⟨.slice ac1 nc cc1, .slice at1 nt ct1, .slice ax1 nx cx1, .slice as1 ms cs1, .slice ak1 mk ck1, .slice av1 mv cv1⟩) 30)).alloc (.cells (pgC p ⟨.slice ac2 nc cc2, .slice at2 nt ct2, .slice ax2 nx cx2, .slice as2 ms cs2, .slice ak2 mk ck2, .slice av2 mv cv2⟩) 30))) := Lib.hid
    ⟨((Below.refl _ _).alloc (Nat.le_refl _) _).alloc (by simp) _, heap_two_old _ _ _, by have := PBox.new (w.alloc (.cells (pgC p ⟨.slice ac1 nc cc1, .slice at1 nt ct1, .slice ax1 nx cx1, .slice as1 ms cs1, .slice ak1 mk ck1, .slice av1 mv cv1⟩) 30)) p ⟨.slice ac2 nc cc2, .slice at2 nt ct2, .slice ax2 nx cx2, .slice as2 ms cs2, .slice ak2 mk ck2, .slice av2 mv cv2⟩; simpa using this⟩
  go_enter Try.func15, Try.ntmps15
  repeat' (go_not_at_region 1; first | go_values | go_skip | go_guarded | go_step | go_upon)
  obtain ⟨g1, hg1⟩ : ∃ g, g = w.heap.size := ⟨_, rfl⟩
  rw [← hg1] at HM ⊢
  refine gen_wd (fun W => P2 w g1 (g1 + 1) p ⟨.slice ac1 nc cc1, .slice at1 nt ct1, .slice ax1 nx cx1, .slice as1 ms cs1, .slice ak1 mk ck1, .slice av1 mv cv1⟩ ⟨.slice ac2 nc cc2, .slice at2 nt ct2, .slice ax2 nx cx2, .slice as2 ms cs2, .slice ak2 mk ck2, .slice av2 mv cv2⟩ W) HM.out ?_
  intro wa hma
  have HA := Lib.hid hma
  clear hma HM hg1
  have z0 : wa.cell? ⟨g1, 0, none⟩ = some (.int .i64 p.grow) := (HA.out.cells 0).1
  have z1 : wa.cell? ⟨g1, 1, none⟩ = some (.int .i64 p.rest) := (HA.out.cells 1).1
  have z2 : wa.cell? ⟨g1, 2, none⟩ = some (.int .i64 p.extra) := (HA.out.cells 2).1
  have z3 : wa.cell? ⟨g1, 3, none⟩ = some (.int .i64 p.signs) := (HA.out.cells 3).1
  have z4 : wa.cell? ⟨g1, 4, none⟩ = some (.slice ac1 nc cc1) := (HA.out.cells 4).1
  have z5 : wa.cell? ⟨g1, 5, none⟩ = some (.slice at1 nt ct1) := (HA.out.cells 5).1
  have z6 : wa.cell? ⟨g1, 6, none⟩ = some (.slice ax1 nx cx1) := (HA.out.cells 6).1
  have y0 : wa.cell? ⟨g1 + 1, 0, none⟩ = some (.int .i64 p.grow) := (HA.out.cells 0).2
  have y1 : wa.cell? ⟨g1 + 1, 1, none⟩ = some (.int .i64 p.rest) := (HA.out.cells 1).2
  have y2 : wa.cell? ⟨g1 + 1, 2, none⟩ = some (.int .i64 p.extra) := (HA.out.cells 2).2
  have y3 : wa.cell? ⟨g1 + 1, 3, none⟩ = some (.int .i64 p.signs) := (HA.out.cells 3).2
  have y4 : wa.cell? ⟨g1 + 1, 4, none⟩ = some (.slice ac2 nc cc2) := (HA.out.cells 4).2
  have y5 : wa.cell? ⟨g1 + 1, 5, none⟩ = some (.slice at2 nt ct2) := (HA.out.cells 5).2
  have y6 : wa.cell? ⟨g1 + 1, 6, none⟩ = some (.slice ax2 nx cx2) := (HA.out.cells 6).2
  repeat' (first | go_values | go_skip | go_guarded | go_step | go_upon)
  refine Calls.mono (rg_Like _ _ p.code _ (HC1.out.keep HA.out.bel) (HC2.out.keep HA.out.bel)) ?_
  rintro _ wb ⟨rfl, hbb⟩
  dsimp only
  have HB := Lib.hid (HA.out.step hbb)
  clear z0 z1 z2 z3 z4 z5 z6 y0 y1 y2 y3 y4 y5 y6 hbb HA
  have z7 : wb.cell? ⟨g1, 7, none⟩ = some (.slice as1 ms cs1) := (HB.out.cells 7).1
  have z8 : wb.cell? ⟨g1, 8, none⟩ = some (.slice ak1 mk ck1) := (HB.out.cells 8).1
  have z9 : wb.cell? ⟨g1, 9, none⟩ = some (.slice av1 mv cv1) := (HB.out.cells 9).1
  have y7 : wb.cell? ⟨g1 + 1, 7, none⟩ = some (.slice as2 ms cs2) := (HB.out.cells 7).2
  have y8 : wb.cell? ⟨g1 + 1, 8, none⟩ = some (.slice ak2 mk ck2) := (HB.out.cells 8).2
  have y9 : wb.cell? ⟨g1 + 1, 9, none⟩ = some (.slice av2 mv cv2) := (HB.out.cells 9).2
  repeat' (first | go_values | go_skip | go_guarded | go_step | go_upon)
  refine Calls.mono (r15_Like _ _ _ _ _ _ p.hash _ (HH1.out.keep HB.out.bel) (HH2.out.keep HB.out.bel)) ?_
  rintro _ wc ⟨rfl, hbc⟩
  dsimp only
  have HA := Lib.hid (HB.out.step hbc)
  clear z7 z8 z9 y7 y8 y9 hbc HB
  have z5 : wc.cell? ⟨g1, 5, none⟩ = some (.slice at1 nt ct1) := (HA.out.cells 5).1
  repeat' (first | go_values | go_skip | go_guarded | go_step | go_upon)
  clear z5
  go_loopw [5, 70] (fun _ sc w' => ∃ k : Nat, sc = .int .i64 k ∧ k ≤ nt ∧ Hid (P2 w g1 (g1 + 1) p ⟨.slice ac1 nc cc1, .slice at1 nt ct1, .slice ax1 nx cx1, .slice as1 ms cs1, .slice ak1 mk ck1, .slice av1 mv cv1⟩ ⟨.slice ac2 nc cc2, .slice at2 nt ct2, .slice ax2 nx cx2, .slice as2 ms cs2, .slice ak2 mk ck2, .slice av2 mv cv2⟩ w')) (fun _ sc _ => nt - (intOf sc).toNat)
  case atStart => exact ⟨0, rfl, Nat.zero_le _, HA⟩
  case round =>
    clear HA
    obtain ⟨k, rfl, hk, HM⟩ := hrel
    by_cases hlt : k < nt
    · have hl1 : k < ts1.length := by rw [HL1.out, ← Hnt.out]; exact hlt
      have hl2 : k < ts2.length := by rw [HL2.out, ← Hnt.out]; exact hlt
      obtain ⟨t1, ht1⟩ : ∃ t, ts1[k]? = some t := ⟨_, List.getElem?_eq_getElem hl1⟩
      obtain ⟨t2, ht2⟩ : ∃ t, ts2[k]? = some t := ⟨_, List.getElem?_eq_getElem hl2⟩
      obtain ⟨d, hd⟩ : ∃ d, p.tabs[k]? = some d := ⟨_, List.getElem?_eq_getElem (by rw [← Hnt.out]; exact hlt)⟩
      obtain ⟨i1, _, r1⟩ := TR1.out k t1 d ht1 hd
      obtain ⟨i2, _, r2⟩ := TR2.out k t2 d ht2 hd
      obtain ⟨_, _, e1, _, _, hc1⟩ := HT1.out.open (f := tbC) (sz := 2) (fun _ => rfl)
      obtain ⟨_, _, e2, _, _, hc2⟩ := HT2.out.open (f := tbC) (sz := 2) (fun _ => rfl)
      simp only [Value.slice.injEq] at e1 e2
      obtain ⟨rfl, _, rfl⟩ := e1
      obtain ⟨rfl, _, rfl⟩ := e2
      rcases hc1 with h0 | ⟨b1, o1, rfl, hb1, hc1⟩
      · omega
      rcases hc2 with h0 | ⟨b2, o2, rfl, hb2, hc2⟩
      · omega
      obtain ⟨m0, m1⟩ := tab_cells hc1 ht1
      obtain ⟨n0, n1⟩ := tab_cells hc2 ht2
      rw [i1] at m0
      rw [i2] at n0
      have hw1 : b1 < wr.heap.size := Nat.lt_of_lt_of_le hb1 HM.out.bel.size
      have hw2 : b2 < wr.heap.size := Nat.lt_of_lt_of_le hb2 HM.out.bel.size
      obtain ⟨d1, d2⟩ := d
      obtain ⟨t11, t12⟩ := t1
      obtain ⟨t21, t22⟩ := t2
      dsimp only at m0 m1 n0 n1 r1 r2
      have q0 : ∀ nq : WB wr, nq.1.cell? ⟨b1, o1 + k * 2, none⟩ = some (.int .i64 d1) := fun nq => by rw [nq.cell hw1, HM.out.bel.cell (show b1 < w.heap.size from hb1)]; exact m0
      have q1 : ∀ nq : WB wr, nq.1.cell? ⟨b1, o1 + k * 2 + 1, none⟩ = some t12 := fun nq => by rw [nq.cell hw1, HM.out.bel.cell (show b1 < w.heap.size from hb1)]; exact m1
      have q2 : ∀ nq : WB wr, nq.1.cell? ⟨b2, o2 + k * 2, none⟩ = some (.int .i64 d1) := fun nq => by rw [nq.cell hw2, HM.out.bel.cell (show b2 < w.heap.size from hb2)]; exact n0
      have q3 : ∀ nq : WB wr, nq.1.cell? ⟨b2, o2 + k * 2 + 1, none⟩ = some t22 := fun nq => by rw [nq.cell hw2, HM.out.bel.cell (show b2 < w.heap.size from hb2)]; exact n1
      have q4 : ∀ nq : WB wr, nq.1.cell? ⟨g1, 5, none⟩ = some (.slice (some ⟨b1, o1, none⟩) nt ct1) := fun nq => ((HM.out.step nq.2).cells 5).1
      have q5 : ∀ nq : WB wr, nq.1.cell? ⟨g1 + 1, 5, none⟩ = some (.slice (some ⟨b2, o2, none⟩) nt ct2) := fun nq => ((HM.out.step nq.2).cells 5).2
      have HI := Lib.hid fun nq : WB wr => r07_Ints t12 t22 d2 nq.1 (r1.keep (HM.out.step nq.2).bel) (r2.keep (HM.out.step nq.2).bel)
      obtain ⟨u1, u2, e3, _, _⟩ := r1.slice
      obtain ⟨u3, u4, e4, _, _⟩ := r2.slice
      subst e3 e4
      clear m0 m1 n0 n1 r1 r2 hc1 hc2 ht1 ht2 hd
      repeat' (first | go_values | go_skip | go_guarded | go_step | go_upon)
      refine wp_region_wb (by kernel_rfl) (by kernel_rfl) wr (Below.refl _ _) ?_
      repeat (go_big_quiet_step ((go_at_call 50; exact calls_wb (HI.out _))))
      refine wpQuiet_nil ?_
      rintro _ ⟨nq, rfl⟩
      have hnq := nq.2
      have HN := Lib.hid (HM.out.step hnq)
      clear q0 q1 q2 q3 q4 q5 hnq HI
      repeat' (first | go_values | go_skip | go_guarded | go_step | go_upon)
      go_roundw
      case rel => exact ⟨k + 1, by go_num, hlt, HN⟩
      case measure => simp [intOf]; omega
    · obtain rfl : nt = k := by omega
      have HA := Lib.hid HM.out
      clear HM hk hlt
      have z6 : wr.cell? ⟨g1, 6, none⟩ = some (.slice ax1 nx cx1) := (HA.out.cells 6).1
      repeat' (first | go_values | go_skip | go_guarded | go_step | go_upon)
      clear z6
      go_loopw [6, 106] (fun _ sc w' => ∃ k : Nat, sc = .int .i64 k ∧ k ≤ nx ∧ Hid (P2 w g1 (g1 + 1) p ⟨.slice ac1 nc cc1, .slice at1 nt ct1, .slice ax1 nx cx1, .slice as1 ms cs1, .slice ak1 mk ck1, .slice av1 mv cv1⟩ ⟨.slice ac2 nc cc2, .slice at2 nt ct2, .slice ax2 nx cx2, .slice as2 ms cs2, .slice ak2 mk ck2, .slice av2 mv cv2⟩ w')) (fun _ sc _ => nx - (intOf sc).toNat)
      case atStart => exact ⟨0, rfl, Nat.zero_le _, HA⟩
      case round =>
        clear HA
        obtain ⟨k, rfl, hk, HM⟩ := hrel
        by_cases hlt : k < nx
        · obtain ⟨x, hx⟩ : ∃ x, p.texts[k]? = some x := ⟨_, List.getElem?_eq_getElem (by rw [← Hnx.out]; exact hlt)⟩
          obtain ⟨b1, o1, rfl, hb1, e1⟩ := row_cell strC_len25 HX1.out HM.out.bel k x hx
          obtain ⟨b2, o2, rfl, hb2, e2⟩ := row_cell strC_len25 HX2.out HM.out.bel k x hx
          have q0 : ∀ nq : WB wr, nq.1.cell? ⟨b1, o1 + k, none⟩ = some (.string ⟨x.toArray⟩) := fun nq => by rw [nq.cell hb1]; exact e1
          have q1 : ∀ nq : WB wr, nq.1.cell? ⟨b2, o2 + k, none⟩ = some (.string ⟨x.toArray⟩) := fun nq => by rw [nq.cell hb2]; exact e2
          have q2 : ∀ nq : WB wr, nq.1.cell? ⟨g1, 6, none⟩ = some (.slice (some ⟨b1, o1, none⟩) nx cx1) := fun nq => ((HM.out.step nq.2).cells 6).1
          have q3 : ∀ nq : WB wr, nq.1.cell? ⟨g1 + 1, 6, none⟩ = some (.slice (some ⟨b2, o2, none⟩) nx cx2) := fun nq => ((HM.out.step nq.2).cells 6).2
          clear e1 e2 hx
          repeat' (first | go_values | go_skip | go_guarded | go_step | go_upon)
          refine wp_region_wb (by kernel_rfl) (by kernel_rfl) wr (Below.refl _ _) ?_
          repeat (go_big_quiet_step ((fail)))
          refine wpQuiet_nil ?_
          rintro _ ⟨nq, rfl⟩
          have hnq := nq.2
          have HN := Lib.hid (HM.out.step hnq)
          clear q0 q1 q2 q3 hnq
          repeat' (first | go_values | go_skip | go_guarded | go_step | go_upon)
          go_roundw
          case rel => exact ⟨k + 1, by go_num, hlt, HN⟩
          case measure => simp [intOf]; omega
        · repeat' (first | go_values | go_skip | go_guarded | go_step | go_upon)
          go_ret
          exact ⟨rfl, HM.out.bel⟩
end Go.Proofs.Ytbomloodllddaaa
/- Walks: the reference reads on in a section (fretsawref25.C: list, ints). Conditions: the text is of at most 10^15 bytes; the place is an int. -/
namespace Go.Proofs.Ytbomloodllddaaa
open Go.RowKit
theorem Else.belowB {g : Nat} {w w' w'' : World} (h : Else g w w') (hb : Below w.heap.size w' w'') : Else g w w'' :=
  ⟨hb.os.trans h.os, hb.tape.trans h.tape, hb.output.trans h.output, Nat.le_trans h.size hb.size, fun k hk h1 => (hb.block k hk).trans (h.block k hk h1)⟩
theorem OwnI.elsG {B g : Nat} {e : TypeId} {k : IntKind} {w w' : World} {v : Value} {l : List Int} (h : OwnI B e k w v l) (he : Else g w w') (hg : g < B) : OwnI B e k w' v l :=
  OwnC.block h fun q hq => he.block q (OwnC.lt h q hq).2 (by have := h.below hq; omega)
theorem rcC_list (s : List UInt8) (hs : s.length ≤ 1000000000000000) (a b : Int) (ha : I64 a) (most : Nat) : ∃ n a' b', rcC s a b most = (n, a', b') ∧ n ≤ most ∧ I64 a' ∧ (b' = 0 → ahead [] (getn s n a') = rdL s a b most) ∧ (b' ≠ 0 → (rdL s a b most).2.2 = b') := by
  by_cases hb : b = 0
  · subst hb
    rw [rdL_zero]
    have hi := vgetI_i64 hs a
    have e1 : rdN s a 0 = vget s a := if_neg (by simp)
    have hge : geta s a most = (if (vget s a).2.2 ≠ 0 then ([], 0, (vget s a).2.2) else if max (most : Int) 0 < ((vget s a).1 : Int) then ([], 0, 2) else getn s (vget s a).1 (vget s a).2.1) := by unfold geta; rfl
    unfold rcC
    rw [e1, hge]
    clear e1 hge
    generalize vget s a = r at hi ⊢
    obtain ⟨r1, r2, r3⟩ := r
    dsimp only at hi ⊢
    by_cases h1 : r3 ≠ 0
    · rw [if_pos h1, if_pos h1]
      exact ⟨0, _, _, rfl, Nat.zero_le _, hi, fun h => absurd h h1, fun _ => rfl⟩
    · rw [if_neg h1, if_neg h1]
      by_cases h2 : most < r1
      · rw [if_pos h2, if_pos (by omega)]
        exact ⟨0, _, _, rfl, Nat.zero_le _, hi, fun h => absurd h (by decide), fun _ => rfl⟩
      · rw [if_neg h2, if_neg (by omega)]
        exact ⟨_, _, _, rfl, by omega, hi, fun _ => ahead_nil s _ _, fun h => absurd h h1⟩
  · have e1 : rdN s a b = (0, a, b) := if_pos hb
    have e2 : rdL s a b most = ([], a, b) := if_pos hb
    unfold rcC
    rw [e1, e2, if_pos hb]
    exact ⟨0, _, _, rfl, Nat.zero_le _, ha, fun h => absurd h hb, fun _ => rfl⟩
/-- the loop of numbers, by the reference -/
structure LS (g : Nat) (s : List UInt8) (wd : Bool) (w : World) (Q : List Nat × Int × Int) (n i : Nat) (a b : Int) (out : List Nat) (v : Value) (w' : World) : Prop where
  rd : CAt w' g s a b wd
  own : OwnI w.heap.size 66 .u64 w' v (nats out)
  els : Else g w w'
  at' : I64 a
  len : out.length = i
  good : b = 0 → ahead out (getn s (n - i) a) = Q
  wrong : b ≠ 0 → Q.2.2 = b
set_option maxRecDepth 100000 in
set_option maxHeartbeats 2000000 in
theorem c_list (g : Nat) (s : List UInt8) (hs : s.length ≤ 1000000000000000) (at' bad : Int) (wd : Bool) (ha : I64 at') (most : Nat) (hm : most ≤ 1000000) (w : World) (h : CAt w g s at' bad wd) :
    Calls Try.prog 47 #[.pointer (some ⟨g, 0, none⟩), .int .i64 most] w fun e w' => ∃ v out a b, e = .returned v ∧ OwnI w.heap.size 66 .u64 w' v (nats out) ∧ CAt w' g s a b wd ∧ Else g w w' ∧ I64 a ∧ b = (rdL s at' bad most).2.2 ∧ (b = 0 → out = (rdL s at' bad most).1 ∧ a = (rdL s at' bad most).2.1) ∧ out.length ≤ most := by
  obtain ⟨Q, hQ⟩ : ∃ Q, Q = rdL s at' bad most := ⟨_, rfl⟩
  rw [← hQ]
  have hg := h.lt
  have hb0 : Below w.heap.size w (w.alloc (.cells #[] 66)) := (Below.refl _ _).alloc (Nat.le_refl _) _
  have Hc := Lib.hid (c_count g s hs at' bad wd ha most hm _ (h.keep hb0))
  have hv := rcC_list s hs at' bad ha most
  rw [← hQ] at hv
  obtain ⟨n, a0, b0, hv1, hv2, hv3, hv4, hv5⟩ := hv
  rw [hv1] at Hc
  dsimp only at Hc
  have HL0 : Hid (∀ w1, CAt w1 g s a0 b0 wd → Else g (w.alloc (.cells #[] 66)) w1 → LS g s wd w Q n 0 a0 b0 [] (.slice (some ⟨w.heap.size, 0, none⟩) 0 0) w1) := Lib.hid fun w1 hr he => by
    refine ⟨hr, ?_, (Else.of_below hb0).trans he, hv3, rfl, fun h => by rw [Nat.sub_zero]; exact hv4 h, hv5⟩
    have ho := OwnI.lit (B := w.heap.size) (e := 66) (k := .u64) w [] (Nat.le_refl _) 0 rfl (by unfold maxLen; omega)
    exact ho.elsG he hg
  clear hv1 hv3 hv4 hv5 hQ h hb0
  go_enter Try.func47, Try.ntmps47
  repeat' (first | go_values | go_skip | go_guarded | go_step | go_upon)
  refine Calls.mono (Hc.out) ?_
  rintro _ w1 ⟨rfl, hr1, he1⟩
  dsimp only
  have HL1 := Lib.hid (HL0.out w1 hr1 he1)
  clear hr1 he1 Hc HL0
  repeat' (first | go_values | go_skip | go_guarded | go_step | go_upon)
  go_loopw [5, 7] (fun s5 s7 wr => ∃ (i : Nat) (a b : Int) (out : List Nat), s7 = .int .i64 i ∧ i ≤ n ∧ Hid (LS g s wd w Q n i a b out s5 wr)) (fun _ s7 _ => n - (intOf s7).toNat)
  case atStart => exact ⟨0, _, _, _, rfl, Nat.zero_le _, HL1⟩
  case round =>
    clear HL1
    obtain ⟨i, a, b, out, rfl, hi, HS⟩ := hrel
    have c2 := HS.out.rd.c2
    by_cases hb : b = 0
    · subst hb
      by_cases hlt : i < n
      · have Hx := Lib.hid (c_number g s hs a 0 wd HS.out.at' wr HS.out.rd)
        have e1 : rdN s a 0 = vget s a := if_neg (by simp)
        rw [e1] at Hx
        have hia := vgetI_i64 hs a
        have hxu := vgetI_u64 s a
        obtain ⟨m, hmm⟩ : ∃ m, n - i = m + 1 := ⟨n - i - 1, by omega⟩
        have Hgood : Hid ((vget s a).2.2 = 0 → ahead (out ++ [(vget s a).1]) (getn s m (vget s a).2.1) = Q) := Lib.hid fun h => by
          rw [← HS.out.good rfl, hmm]
          exact (ahead_step out (n := m) (show vget s a = ((vget s a).1, (vget s a).2.1, 0) from Prod.ext rfl (Prod.ext rfl h))).symm
        have Hbad : Hid ((vget s a).2.2 ≠ 0 → Q.2.2 = (vget s a).2.2) := Lib.hid fun h => by
          rw [← HS.out.good rfl, hmm]
          rw [ahead_bad out (n := m) (show vget s a = ((vget s a).1, (vget s a).2.1, (vget s a).2.2) from rfl) h]
        have Hm : Hid (n - (i + 1) = m) := Lib.hid (by omega)
        generalize vget s a = r at Hx hia hxu Hgood Hbad
        obtain ⟨r1, r2, r3⟩ := r
        dsimp only at Hx hia hxu Hgood Hbad
        have hlen := HS.out.len
        have HOw := Lib.hid HS.out.own
        have hnl : (nats out).length ≤ 1000000 := by rw [nats_len]; omega
        repeat' (first | go_values | go_skip | go_guarded | go_step | go_upon)
        refine Calls.mono (Hx.out) ?_
        rintro _ w2 ⟨rfl, hr2, he2⟩
        dsimp only
        have HO2 : Hid (OwnI w.heap.size 66 .u64 w2 u5 (nats out)) := Lib.hid (HOw.out.elsG he2 hg)
        have HR2 := Lib.hid hr2
        have HE2 := Lib.hid (HS.out.els.trans he2)
        have Hlen := Lib.hid hlen
        have hsz := HE2.out.size
        clear hr2 he2 Hx HOw hlen c2 HS hmm
        repeat' (first | (at_builtin; refine Hid.out ?_) | go_values | go_skip | go_guarded | go_step | go_upon)
        refine Lib.hid ?_
        refine app_ints w.heap.size 8 [_] Try.underlying26 info_u64 (by decide) rfl _ _ rfl rfl rfl rfl rfl HO2.out hsz (by omega) ?_
        intro v1 w3 hown1 hb3 hsz3
        have HL3 : Hid (LS g s wd w Q n (i + 1) r2 r3 (out ++ [r1]) v1 w3) := Lib.hid ⟨HR2.out.keepB hb3 hg, by rw [nats_append]; exact hown1, HE2.out.belowB hb3, hia, by rw [List.length_append, Hlen.out]; rfl, fun h => by rw [Hm.out]; exact Hgood.out h, Hbad.out⟩
        clear hown1 hb3 hsz3 HO2 HR2 HE2 hsz
        repeat' (first | go_values | go_skip | go_guarded | go_step | go_upon)
        go_roundw
        case rel => exact ⟨i + 1, _, _, _, by go_num, by omega, HL3⟩
        case measure => simp [intOf]; omega
      · obtain rfl : n = i := by omega
        have hq : Hid (Q = (out, a, 0)) := Lib.hid (by rw [← HS.out.good rfl, Nat.sub_self]; exact ahead_zero s out a)
        repeat' (first | go_values | go_skip | go_guarded | go_step | go_upon)
        go_ret
        exact ⟨_, out, a, 0, rfl, HS.out.own, HS.out.rd, HS.out.els, HS.out.at', by rw [hq.out], fun _ => ⟨by rw [hq.out], by rw [hq.out]⟩, by rw [HS.out.len]; exact hv2⟩
    · have e1 : (b == 0) = false := beq_false_of_ne hb
      have Hb := Lib.hid hb
      have hlen := HS.out.len
      clear hb
      by_cases hlt : i < n
      all_goals
        repeat' (first | go_values | go_skip | go_guarded | go_step | go_upon)
        go_ret
        exact ⟨_, out, a, b, rfl, HS.out.own, HS.out.rd, HS.out.els, HS.out.at', (HS.out.wrong Hb.out).symm, fun h => absurd h Hb.out, by omega⟩
end Go.Proofs.Ytbomloodllddaaa
/- Walk: the reference reads on in a section (fretsawref25.C.ints). Conditions: the text is of at most 10^15 bytes; the place is an int. -/
namespace Go.Proofs.Ytbomloodllddaaa
open Go.RowKit
def whlL (l : List Nat) : List Int := l.map whl
theorem whlL_len (l : List Nat) : (whlL l).length = l.length := by simp [whlL]
theorem whlL_take (l : List Nat) (k : Nat) (x : Nat) (h : l[k]? = some x) : whlL (l.take (k + 1)) = whlL (l.take k) ++ [whl x] := by
  have hk := (List.getElem?_eq_some_iff.1 h)
  unfold whlL
  rw [List.take_succ_eq_append_getElem hk.1, List.map_append, hk.2]; rfl
theorem whlL_cut {l : List Nat} (h : wideL l = false) : whlL l = cutL l := by
  unfold whlL cutL
  refine List.map_congr_left fun x hx => ?_
  have h1 := List.any_eq_false.1 h x hx
  simp at h1
  unfold whl cutI
  rw [if_neg (by omega)]; omega
theorem intC_len25L (x : Int) : (intC x).length = 1 := rfl
theorem intC_oneL (x : Int) : ∀ u ∈ intC x, u.oneCell' = true := fun u hu => by
  simp [intC] at hu; subst hu; rfl
theorem own_rows {B : Nat} {e : TypeId} {w : World} {v : Value} {l : List Int} (h : OwnR intC 1 B e w v l) : OwnI B e .i64 w v l := by
  unfold OwnR at h
  rw [flat_i64' l] at h
  exact h
where flat_i64' : ∀ l : List Int, l.flatMap intC = l.map (Value.int .i64)
  | [] => rfl
  | x :: l => by rw [List.flatMap_cons, flat_i64' l]; rfl
/-- the loop of ints, by the reference -/
structure IS (g : Nat) (s : List UInt8) (wd : Bool) (w : World) (l : List Nat) (vl : Value) (a b : Int) (i : Nat) (v : Value) (w' : World) : Prop where
  rd : CAt w' g s a b (wd || wideL (l.take i))
  own : OwnR intC 1 w.heap.size 3 w' v (whlL (l.take i))
  src : OwnI w.heap.size 66 .u64 w' vl (nats l)
  els : Else g w w'
set_option maxRecDepth 100000 in
set_option maxHeartbeats 2000000 in
theorem c_ints (g : Nat) (s : List UInt8) (hs : s.length ≤ 1000000000000000) (at' bad : Int) (wd : Bool) (ha : I64 at') (most : Nat) (hm : most ≤ 1000000) (w : World) (h : CAt w g s at' bad wd) :
    Calls Try.prog 40 #[.pointer (some ⟨g, 0, none⟩), .int .i64 most] w fun e w' => ∃ v out a b wd', e = .returned v ∧ OwnI w.heap.size 3 .i64 w' v out ∧ CAt w' g s a b wd' ∧ Else g w w' ∧ I64 a ∧ b = (rdL s at' bad most).2.2 ∧ (b = 0 → a = (rdL s at' bad most).2.1 ∧ wd' = (wd || wideL (rdL s at' bad most).1) ∧ (wideL (rdL s at' bad most).1 = false → out = cutL (rdL s at' bad most).1) ∧ out.length = (rdL s at' bad most).1.length) ∧ out.length ≤ most := by
  have hg := h.lt
  have hb0 : Below w.heap.size w (w.alloc (.cells #[] 3)) := (Below.refl _ _).alloc (Nat.le_refl _) _
  have Hc := Lib.hid (c_list g s hs at' bad wd ha most hm _ (h.keep hb0))
  have ho0 : OwnR intC 1 w.heap.size 3 (w.alloc (.cells #[] 3)) (.slice (some ⟨w.heap.size, 0, none⟩) 0 0) ([] : List Int) :=
    ⟨by simp, .inr ⟨w.heap.size, 0, #[], (0, 0), rfl, Nat.le_refl _, Go.heap_alloc_new _ _, fun j h => by simp at h, Nat.le_refl _, Nat.zero_le _, by simp, by simp⟩⟩
  generalize rdL s at' bad most = Q at Hc ⊢
  have HO0 := Lib.hid ho0
  have Hb0 := Lib.hid hb0
  clear h ho0 hb0
  go_enter Try.func40, Try.ntmps40
  repeat' (first | go_values | go_skip | go_guarded | go_step | go_upon)
  refine Calls.mono (Hc.out) ?_
  rintro _ w1 ⟨vl, l, a, b, rfl, ho1, hr1, he1, hia, hbq, hq, hlm⟩
  dsimp only
  obtain ⟨n, hn⟩ : ∃ n, n = l.length := ⟨_, rfl⟩
  have hob : OwnI w.heap.size 66 .u64 w1 vl (nats l) := ho1.base (by simp)
  obtain ⟨al, cl, hvl⟩ := ho1.form
  rw [nats_len, ← hn] at hvl
  have HS0 : Hid (IS g s wd w l vl a b 0 (.slice (some ⟨w.heap.size, 0, none⟩) 0 0) w1) := Lib.hid
    ⟨by simpa [wideL] using hr1, OwnC.block HO0.out fun q hq => he1.block q (OwnC.lt HO0.out q hq).2 (by have := (OwnC.lt HO0.out q hq).1; omega), hob, (Else.of_below Hb0.out).trans he1⟩
  subst hvl
  have Hbq := Lib.hid hbq
  have Hq := Lib.hid hq
  have HT : Hid (∀ k x, l[k]? = some x → whlL (l.take (k + 1)) = whlL (l.take k) ++ [whl x] ∧ wideL (l.take (k + 1)) = (wideL (l.take k) || decide (W62 < x))) := Lib.hid fun k x h => ⟨whlL_take l k x h, wideL_take l k x h⟩
  have HL : Hid (∀ k, k ≤ n → (whlL (l.take k)).length = k) := Lib.hid fun k hk => by rw [whlL_len, List.length_take]; omega
  have HA : Hid (l.take n = l) := Lib.hid (by rw [hn]; exact List.take_length)
  have HX : Hid (∀ k, k < n → ∃ x, l[k]? = some x) := Lib.hid fun k hk => ⟨_, List.getElem?_eq_getElem (by omega)⟩
  have Hn := Lib.hid hn
  have hnm : n ≤ 1000000 := by omega
  have Hlm : Hid (n ≤ most) := Lib.hid (by omega)
  clear ho1 hr1 he1 Hc hob HO0 Hb0 hbq hq hn hlm
  repeat' (first | go_values | go_skip | go_guarded | go_step | go_upon)
  go_loopw [5, 13] (fun s5 s13 wr => ∃ k : Nat, s13 = .int .i64 k ∧ k ≤ n ∧ Hid (IS g s wd w l (.slice al n cl) a b k s5 wr)) (fun _ s13 _ => n - (intOf s13).toNat)
  case atStart => exact ⟨0, rfl, Nat.zero_le _, HS0⟩
  case round =>
    clear HS0
    obtain ⟨k, rfl, hk, HS⟩ := hrel
    by_cases hlt : k < n
    · obtain ⟨x, hx⟩ := HX.out k hlt
      obtain ⟨hT1, hT2⟩ := HT.out k x hx
      obtain ⟨a', cap', e1, _, hc⟩ := HS.out.src.rd
      simp only [Value.slice.injEq] at e1
      obtain ⟨rfl, hnl, rfl⟩ := e1
      clear hnl
      rcases hc with h0 | ⟨bl, ol, rfl, _, hc⟩
      · have := congrArg List.length h0; rw [nats_len, ← Hn.out] at this; simp at this; omega
      have hc' : wr.cell? ⟨bl, ol + k, none⟩ = some (.int .u64 (x : Nat)) := by
        have := hc k (by rw [nats_len, ← Hn.out]; exact hlt)
        rw [nats_getD l k (by rw [← Hn.out]; exact hlt)] at this
        rw [this]
        have hx' := (List.getElem?_eq_some_iff.1 hx).2
        rw [hx']
      have Hw := Lib.hid (c_whole g s a b _ x wr HS.out.rd)
      rw [show ((wd || wideL (l.take k)) || decide (W62 < x)) = (wd || wideL (l.take (k + 1))) from by rw [hT2, Bool.or_assoc]] at Hw
      have HT1 := Lib.hid hT1
      have hLen := HL.out k hk
      obtain ⟨L, hL⟩ : ∃ L, L = whlL (l.take k) := ⟨_, rfl⟩
      have hown := HS.out.own
      rw [← hL] at hown hLen HT1
      obtain ⟨V, hV⟩ : ∃ V, V = whl x := ⟨_, rfl⟩
      rw [← hV] at Hw HT1
      have HOW := Lib.hid hown
      have hLm : L.length ≤ 1000000 := by omega
      clear hL hV hT1 hT2 hc hx hown hLen
      repeat' (first | go_values | go_skip | go_guarded | go_step | go_upon)
      refine Calls.mono (Hw.out) ?_
      rintro _ w2 ⟨rfl, hr2, hw2⟩
      dsimp only
      have hE2 : Else g w w2 := by
        rcases hw2 with rfl | rfl
        · exact HS.out.els
        · exact HS.out.els.setCell _ _
      have hO2 : OwnR intC 1 w.heap.size 3 w2 u5 L := by
        rcases hw2 with rfl | rfl
        · exact HOW.out
        · exact HOW.out.setOther fun q hq => by have := (HOW.out.below hq).1; omega
      have hS2 : OwnI w.heap.size 66 .u64 w2 (.slice (some ⟨bl, ol, none⟩) n cl) (nats l) := by
        rcases hw2 with rfl | rfl
        · exact HS.out.src
        · exact HS.out.src.setG hg
      have HE2 := Lib.hid hE2
      have HO2 := Lib.hid hO2
      have HS2 := Lib.hid hS2
      have HR2 := Lib.hid hr2
      clear hE2 hO2 hS2 hr2 hw2 HS HOW Hw hc'
      repeat' (first | (at_builtin; refine Hid.out ?_) | go_values | go_skip | go_guarded | go_step | go_upon)
      refine Lib.hid ?_
      have hab : Below w2.heap.size w2 (w2.alloc (.cells #[.int .i64 V] 3)) := (Below.refl _ _).alloc (Nat.le_refl _) _
      have hsz := HE2.out.size
      refine wpList_plain rfl fun K hK => ?_
      refine app_rowW (f := intC) (sz := 1) 8 intC_len25L (fun y _ => intC_oneL y) Try.underlying49 info_i64R rfl (.tmp 17) (.tmp 21) rfl rfl (row_new w2 V _ rfl _ rfl) (HO2.out.keep hab (Nat.le_refl _)) (by simp; omega) (by simp; omega) (by unfold maxLen; simp; omega) ?_
      intro v3 w3 ho3 hg3
      refine hK _ _ ?_
      clear hK K
      have hO2 := HO2.out
      have hne : ∀ q, u5.ownBlock = some q → w.heap.size ≤ q ∧ ∃ cs fz, w2.heap[q]? = some (.cells cs 3 fz) := fun q hq => ⟨(hO2.below hq).1, hO2.typed hq⟩
      have hE3 : Else g w w3 := (HE2.out.trans (Else.of_below hab)).belowB (grown_below hg3 (by simp; omega) fun q hq => (hne q hq).1)
      have hR3 : CAt w3 g s a b (wd || wideL (l.take (k + 1))) := grown_obj hg3 (HR2.out.keep hab) fun e => by have := (hne g e).1; omega
      have hS3 : OwnI w.heap.size 66 .u64 w3 (.slice (some ⟨bl, ol, none⟩) n cl) (nats l) := OwnC.block (HS2.out.keep hab (Nat.le_refl _)) fun q hq => by
        obtain ⟨cs, fz, hcq⟩ := HS2.out.typed hq
        refine hg3.block q (by simp; have := (Array.getElem?_eq_some_iff.1 hcq).1; omega) fun e => ?_
        obtain ⟨_, cs', fz', hc2⟩ := hne q e.symm
        rw [hcq] at hc2; simp at hc2
      have HN : Hid (IS g s wd w l (.slice (some ⟨bl, ol, none⟩) n cl) a b (k + 1) v3 w3) := Lib.hid ⟨hR3, by rw [HT1.out]; exact ho3, hS3, hE3⟩
      clear ho3 hg3 hO2 hne hE3 hR3 hS3 HE2 HO2 HS2 HR2 hab hsz
      repeat' (first | go_values | go_skip | go_guarded | go_step | go_upon)
      go_roundw
      case rel => exact ⟨k + 1, by go_num, hlt, HN⟩
      case measure => simp [intOf]; omega
    · obtain rfl : n = k := by omega
      have hrd := HS.out.rd
      have how := HS.out.own
      rw [HA.out] at hrd how
      repeat' (first | go_values | go_skip | go_guarded | go_step | go_upon)
      go_ret
      exact ⟨_, whlL l, a, b, _, rfl, own_rows how, hrd, HS.out.els, hia, Hbq.out, fun h => by
        obtain ⟨q1, q2⟩ := Hq.out h
        rw [← q1]
        exact ⟨q2, rfl, whlL_cut, whlL_len l⟩, by rw [whlL_len, ← Hn.out]; exact Hlm.out⟩
end Go.Proofs.Ytbomloodllddaaa
