/- Walk: do ranges show that an instruction does not fault, by the reference. Conditions: program and ranges lie in memory, the program is whole. -/
import Derived.Test.YtkhggnlanopgkaaVerSafeSpec
import Derived.Test.YtkhggnlanopgkaaRefShape
namespace Go.Proofs.Ytkhggnlanopgkaa
open Go.RowKit

theorem gen_world {P : Program} {c : Code} {Q : Exit → Act → World → Prop} {a : Act} {w : World} (F : World → Prop) (hF : F w) (h : ∀ w', F w' → c.wp P Q a w') : c.wp P Q a w := h w hF
def mk5 (o a b c d : Int) : Nat → Int := fun j => [o, a, b, c, d].getD j 0
/-- program and instruction in the call's own variables, the ranges where they were -/
structure SQ (w0 : World) (p : Prg) (v : PV) (x : Nat → Int) (w : World) : Prop where
  bel : Below w0.heap.size w0 w
  pg : PBox w w0.heap.size p v
  ins : InsAt w (w0.heap.size + 1) x
theorem SQ.step {w0 w w' : World} {p : Prg} {v : PV} {x : Nat → Int} (h : SQ w0 p v x w) (hb : Below w.heap.size w w') : SQ w0 p v x w' :=
  ⟨h.bel.trans (hb.mono h.bel.size), h.pg.keep hb, h.ins.keep hb⟩
theorem SQ.start (w : World) (p : Prg) (v : PV) (x : Nat → Int) : SQ w p v x ((w.alloc (.cells (pgC p v) 30)).alloc (.cells (ic x) 39)) :=
  ⟨((Below.refl _ _).alloc (Nat.le_refl _) _).alloc (by simp) _, (PBox.new w p v).keep ((Below.refl _ _).alloc (Nat.le_refl _) _), InsAt.new1 w _ x⟩
set_option maxRecDepth 100000 in
set_option maxHeartbeats 4000000 in
theorem ref_safe5 (p : Prg) (v : PV) (o a b c d : Int) (vr : Value) (r : Rg) (w : World) (H : PrgAt w v p) (hr : RowOf spC 2 w vr r) (hr8 : r.length = 8) (hx : SOk p (mk5 o a b c d)) :
    Calls Try.prog 25 #[pgV p v, .agg #[.int .i64 o, .int .i64 a, .int .i64 b, .int .i64 c, .int .i64 d], vr] w fun e w' => e = .returned (.bool (safeI p (mk5 o a b c d) r)) ∧ Below w.heap.size w w' := by
  obtain ⟨ar, cr, rfl, hcr, hmr, hcell⟩ := hr.open spC_len
  rw [hr8] at hcr hcell ⊢
  rcases hcell with h0 | ⟨br, or', rfl, hbr, hcell⟩
  · omega
  obtain ⟨ts, hts, htl, htr⟩ := H.tabs
  obtain ⟨at', ct, hvt, hct, hmt, hcellt⟩ := hts.open (f := tbC) (sz := 2) (fun _ => rfl)
  obtain ⟨ax, cx, hvx, hcx, hmx⟩ := H.texts.slice
  obtain ⟨vc, vt, vx, vs, vk, vv⟩ := v
  dsimp only at hvt hvx
  subst hvt hvx
  have h0a : 0 ≤ a ∧ a ≤ 7 := hx.a
  obtain ⟨ka, hka⟩ : ∃ k : Nat, a = (k : Int) := ⟨a.toNat, by omega⟩
  subst hka
  have hka8 : ka < 8 := by omega
  obtain ⟨ea0, ea1⟩ := sp_cells hcell ka (by omega)
  have Hea : Hid (∀ w', Below w.heap.size w w' → w'.cell? ⟨br, or' + ka * 2, none⟩ = some (.int .i64 (rget r ka).1) ∧ w'.cell? ⟨br, or' + ka * 2 + 1, none⟩ = some (.int .i64 (rget r ka).2)) := Lib.hid fun w' hb => by
    rw [hb.cell (show br < w.heap.size from hbr), hb.cell (show br < w.heap.size from hbr)]; exact ⟨ea0, ea1⟩
  have Hcl := Lib.hid hcell
  have Hx := Lib.hid hx
  have HS := Lib.hid (SQ.start w p ⟨vc, .slice at' ts.length ct, .slice ax p.texts.length cx, vs, vk, vv⟩ (mk5 o (ka : Int) b c d))
  have Hts := Lib.hid htr
  have Htl := Lib.hid htl
  have Hct := Lib.hid hcellt
  have Hr8 := Lib.hid hr8
  clear hcell hx hr hr8 h0a htr htl hcellt H hts
  by_cases h12 : o = 12
  · subst h12
    have HB : Hid (safeI p (mk5 12 (ka : Int) b c d) r = inB (rget r ka) 0 255) := Lib.hid (safe_12 rfl)
    rw [HB.out]
    have HW := Lib.hid fun w => rv_within (rget r ka) 0 255 w
    generalize rget r ka = A at ea0 ea1 HW
    clear HB Hts Htl Hct Hcl Hx Hr8 Hea
    go_enter Try.func25, Try.ntmps25
    repeat' (first | go_values | go_skip | go_guarded | go_step | go_upon)
    refine Calls.mono (HW.out _) ?_
    rintro _ w1 ⟨rfl, hb1⟩
    dsimp only
    repeat' (first | go_values | go_skip | go_guarded | go_step | go_upon)
    go_ret
    exact ⟨rfl, HS.out.bel.trans (hb1.mono HS.out.bel.size)⟩
  by_cases h15 : o = 15
  · subst h15
    have HB : Hid (safeI p (mk5 15 (ka : Int) b c d) r = inB (rget r ka) 0 (p.signs - 1)) := Lib.hid (safe_15 rfl)
    rw [HB.out]
    have hs1 : 0 ≤ p.signs := Hx.out.s.1
    have hs2 : p.signs ≤ 65536 := Hx.out.s.2
    have HW := Lib.hid fun w => rv_within (rget r ka) 0 (p.signs - 1) w
    generalize rget r ka = A at ea0 ea1 HW Hea
    clear HB Hts Htl Hct Hcl Hx Hr8 h12
    go_enter Try.func25, Try.ntmps25
    repeat' (first | go_values | go_skip | go_guarded | go_step | go_upon)
    clear ea0 ea1
    refine gen_world (SQ w p ⟨vc, .slice at' ts.length ct, .slice ax p.texts.length cx, vs, vk, vv⟩ (mk5 15 (ka : Int) b c d)) HS.out ?_
    clear HS
    intro wa hS
    have HS := Lib.hid hS
    clear hS
    have q1 : ∀ nq : WB wa, nq.1.cell? ⟨w.heap.size + 1, 1, none⟩ = some (.int .i64 (ka : Int)) := fun nq => (HS.out.step nq.2).ins.cell 1 (by decide)
    have q2 : ∀ nq : WB wa, nq.1.cell? ⟨w.heap.size, 3, none⟩ = some (.int .i64 p.signs) := fun nq => (HS.out.step nq.2).pg.cell 3
    have qa0 : ∀ nq : WB wa, nq.1.cell? ⟨br, or' + ka * 2, none⟩ = some (.int .i64 A.1) := fun nq => (Hea.out _ (HS.out.step nq.2).bel).1
    have qa1 : ∀ nq : WB wa, nq.1.cell? ⟨br, or' + ka * 2 + 1, none⟩ = some (.int .i64 A.2) := fun nq => (Hea.out _ (HS.out.step nq.2).bel).2
    refine wp_region_wb (by kernel_rfl) (by kernel_rfl) wa (Below.refl _ _) ?_
    repeat (go_big_quiet_step (((go_at_call 42; exact calls_wb (HW.out _)))))
    refine wpQuiet_nil ?_
    rintro _ ⟨nq, rfl⟩
    have hnq := nq.2
    repeat' (first | go_values | go_skip | go_guarded | go_step | go_upon)
    go_ret
    exact ⟨rfl, (HS.out.step hnq).bel⟩
  by_cases h13 : o = 13
  · subst h13
    obtain ⟨kb, hkb⟩ : ∃ k : Nat, b = (k : Int) := ⟨b.toNat, by have := (Hx.out.b (.inr rfl)).1; have h : mk5 13 (ka : Int) b c d 2 = b := rfl; omega⟩
    subst hkb
    have hkb8 : kb < 8 := by have := (Hx.out.b (.inr rfl)).2; have h : mk5 13 (ka : Int) (kb : Int) c d 2 = (kb : Int) := rfl; omega
    obtain ⟨eb0, eb1⟩ := sp_cells Hcl.out kb (by rw [Hr8.out]; exact hkb8)
    have Heb : Hid (∀ w', Below w.heap.size w w' → w'.cell? ⟨br, or' + kb * 2, none⟩ = some (.int .i64 (rget r kb).1) ∧ w'.cell? ⟨br, or' + kb * 2 + 1, none⟩ = some (.int .i64 (rget r kb).2)) := Lib.hid fun w' hb => by
      rw [hb.cell (show br < w.heap.size from hbr), hb.cell (show br < w.heap.size from hbr)]; exact ⟨eb0, eb1⟩
    have hnt : p.texts.length ≤ 4096 := Hx.out.n
    have HB : Hid (safeI p (mk5 13 (ka : Int) (kb : Int) c d) r = (inB (rget r ka) 0 (2 * (p.texts.length : Int) - 1) && inB (rget r kb) 0 255)) := Lib.hid (safe_13 rfl)
    rw [HB.out]
    have HW := Lib.hid fun w => rv_within (rget r ka) 0 (2 * (p.texts.length : Int) - 1) w
    have HV := Lib.hid fun w => rv_within (rget r kb) 0 255 w
    generalize rget r ka = A at ea0 ea1 HW Hea
    generalize rget r kb = B at eb0 eb1 HV Heb
    generalize p.texts.length = nx at HW hnt HS hcx
    clear HB Hts Htl Hct Hcl Hx Hr8 h12 h15
    obtain ⟨g1, hg1⟩ : ∃ x, x = inB A 0 (2 * (nx : Int) - 1) := ⟨_, rfl⟩
    obtain ⟨g2, hg2⟩ : ∃ x, x = inB B 0 255 := ⟨_, rfl⟩
    rw [← hg1] at HW ⊢
    rw [← hg2] at HV ⊢
    clear hg1 hg2
    cases g1 with
    | true =>
      go_enter Try.func25, Try.ntmps25
      repeat' (first | go_values | go_skip | go_guarded | go_step | go_upon)
      clear ea0 ea1 eb0 eb1
      refine gen_world (SQ w p ⟨vc, .slice at' ts.length ct, .slice ax nx cx, vs, vk, vv⟩ (mk5 13 (ka : Int) (kb : Int) c d)) HS.out ?_
      clear HS
      intro wa hS
      have HS := Lib.hid hS
      clear hS
      have q1 : ∀ nq : WB wa, nq.1.cell? ⟨w.heap.size + 1, 1, none⟩ = some (.int .i64 (ka : Int)) := fun nq => (HS.out.step nq.2).ins.cell 1 (by decide)
      have q2 : ∀ nq : WB wa, nq.1.cell? ⟨w.heap.size + 1, 2, none⟩ = some (.int .i64 (kb : Int)) := fun nq => (HS.out.step nq.2).ins.cell 2 (by decide)
      have q3 : ∀ nq : WB wa, nq.1.cell? ⟨w.heap.size, 6, none⟩ = some (.slice ax nx cx) := fun nq => (HS.out.step nq.2).pg.cell 6
      have qa0 : ∀ nq : WB wa, nq.1.cell? ⟨br, or' + ka * 2, none⟩ = some (.int .i64 A.1) := fun nq => (Hea.out _ (HS.out.step nq.2).bel).1
      have qa1 : ∀ nq : WB wa, nq.1.cell? ⟨br, or' + ka * 2 + 1, none⟩ = some (.int .i64 A.2) := fun nq => (Hea.out _ (HS.out.step nq.2).bel).2
      have qb0 : ∀ nq : WB wa, nq.1.cell? ⟨br, or' + kb * 2, none⟩ = some (.int .i64 B.1) := fun nq => (Heb.out _ (HS.out.step nq.2).bel).1
      have qb1 : ∀ nq : WB wa, nq.1.cell? ⟨br, or' + kb * 2 + 1, none⟩ = some (.int .i64 B.2) := fun nq => (Heb.out _ (HS.out.step nq.2).bel).2
      refine wp_region_wb (by kernel_rfl) (by kernel_rfl) wa (Below.refl _ _) ?_
      repeat (go_big_quiet_step (((go_at_call 42; first | (with_reducible exact calls_wb (HW.out _)) | (with_reducible exact calls_wb (HV.out _))))))
      refine wpQuiet_nil ?_
      rintro _ ⟨nq, rfl⟩
      have hnq := nq.2
      repeat' (first | go_values | go_skip | go_guarded | go_step | go_upon)
      go_ret
      exact ⟨ret_b (by simp), (HS.out.step hnq).bel⟩
    | false =>
      go_enter Try.func25, Try.ntmps25
      repeat' (first | go_values | go_skip | go_guarded | go_step | go_upon)
      clear ea0 ea1 eb0 eb1
      refine gen_world (SQ w p ⟨vc, .slice at' ts.length ct, .slice ax nx cx, vs, vk, vv⟩ (mk5 13 (ka : Int) (kb : Int) c d)) HS.out ?_
      clear HS
      intro wa hS
      have HS := Lib.hid hS
      clear hS
      have q1 : ∀ nq : WB wa, nq.1.cell? ⟨w.heap.size + 1, 1, none⟩ = some (.int .i64 (ka : Int)) := fun nq => (HS.out.step nq.2).ins.cell 1 (by decide)
      have q3 : ∀ nq : WB wa, nq.1.cell? ⟨w.heap.size, 6, none⟩ = some (.slice ax nx cx) := fun nq => (HS.out.step nq.2).pg.cell 6
      have qa0 : ∀ nq : WB wa, nq.1.cell? ⟨br, or' + ka * 2, none⟩ = some (.int .i64 A.1) := fun nq => (Hea.out _ (HS.out.step nq.2).bel).1
      have qa1 : ∀ nq : WB wa, nq.1.cell? ⟨br, or' + ka * 2 + 1, none⟩ = some (.int .i64 A.2) := fun nq => (Hea.out _ (HS.out.step nq.2).bel).2
      refine wp_region_wb (by kernel_rfl) (by kernel_rfl) wa (Below.refl _ _) ?_
      repeat (go_big_quiet_step (((go_at_call 42; exact calls_wb (HW.out _)))))
      refine wpQuiet_nil ?_
      rintro _ ⟨nq, rfl⟩
      have hnq := nq.2
      repeat' (first | go_values | go_skip | go_guarded | go_step | go_upon)
      go_ret
      exact ⟨ret_b (by simp), (HS.out.step hnq).bel⟩
  by_cases h8 : o = 8
  rotate_left
  · have HB : Hid (safeI p (mk5 o (ka : Int) b c d) r = true) := Lib.hid (safe_no h8 h12 h13 h15)
    rw [HB.out]
    have e8 : (o == 8) = false := beq_false_of_ne h8
    have e12 : (o == 12) = false := beq_false_of_ne h12
    have e13 : (o == 13) = false := beq_false_of_ne h13
    have e15 : (o == 15) = false := beq_false_of_ne h15
    clear HB Hts Htl Hct Hcl Hx Hr8 h8 h12 h13 h15
    go_enter Try.func25, Try.ntmps25
    repeat' (first | go_values | go_skip | go_guarded | go_step | go_upon)
    go_ret
    exact ⟨rfl, HS.out.bel⟩
  subst h8
  obtain ⟨kb, hkb⟩ : ∃ k : Nat, b = (k : Int) := ⟨b.toNat, by have := (Hx.out.b (.inl rfl)).1; have h : mk5 8 (ka : Int) b c d 2 = b := rfl; omega⟩
  subst hkb
  have hkb8 : kb < 8 := by have := (Hx.out.b (.inl rfl)).2; have h : mk5 8 (ka : Int) (kb : Int) c d 2 = (kb : Int) := rfl; omega
  obtain ⟨hd0, hd1, hq1, hq2, hdn⟩ := Hx.out.t rfl
  have hd4 : mk5 8 (ka : Int) (kb : Int) c d 4 = d := rfl
  rw [hd4] at hd0 hd1
  obtain ⟨kt, hkt⟩ : ∃ k : Nat, d = (k : Int) := ⟨d.toNat, by omega⟩
  subst hkt
  have hktl : kt < p.tabs.length := by omega
  have hkts : kt < ts.length := by rw [Htl.out]; exact hktl
  have htd : tabD p (mk5 8 (ka : Int) (kb : Int) c (kt : Int)) = p.tabs[kt] := by
    unfold tabD
    rw [hd4, Int.toNat_natCast, List.getD_eq_getElem?_getD, List.getElem?_eq_getElem hktl]; rfl
  have hti : ts[kt]? = some ts[kt] := List.getElem?_eq_getElem hkts
  obtain ⟨e1, _, hrow⟩ := Hts.out kt _ _ hti (List.getElem?_eq_getElem hktl)
  rcases Hct.out with h0 | ⟨bt, ot, hat, hbt, hclt⟩
  · omega
  subst hat
  obtain ⟨t0, t1⟩ := tab_cells hclt hti
  have HB : Hid (safeI p (mk5 8 (ka : Int) (kb : Int) c (kt : Int)) r = (inB (rget r ka) 0 (((p.tabs[kt]).2.length : Int) / (p.tabs[kt]).1 - 1) && inB (rget r kb) 0 ((p.tabs[kt]).1 - 1))) := Lib.hid (by rw [safe_8 rfl, htd]; rfl)
  rw [HB.out]
  rw [htd] at hq1 hq2 hdn
  generalize p.tabs[kt] = tab at *
  obtain ⟨q, dl⟩ := tab
  generalize ts[kt] = tt at *
  obtain ⟨q', vd⟩ := tt
  dsimp only at e1 hrow t0 t1 hq1 hq2 hdn ⊢
  obtain ⟨ad, cd, hvd, hcd, hmd⟩ := hrow.slice
  subst hvd e1
  have hdn0 : 0 ≤ (dl.length : Int) := by omega
  have hdnI : (dl.length : Int) ≤ 400000 := by omega
  generalize dl.length = dn at *
  obtain ⟨D, hD⟩ : ∃ D, D = (dn : Int) / q' := ⟨_, rfl⟩
  have htdv : (dn : Int).tdiv q' = D := by rw [hD]; exact Int.tdiv_eq_ediv_of_nonneg hdn0
  have hD0 : 0 ≤ D := by rw [hD]; exact Int.ediv_nonneg hdn0 (by omega)
  have hD1 : D ≤ 400000 := by rw [hD]; exact Int.le_trans (Int.ediv_le_self _ hdn0) hdnI
  have hqz : (q' == 0) = false := beq_false_of_ne (by omega)
  rw [← hD]
  obtain ⟨eb0, eb1⟩ := sp_cells Hcl.out kb (by rw [Hr8.out]; exact hkb8)
  have Heb : Hid (∀ w', Below w.heap.size w w' → w'.cell? ⟨br, or' + kb * 2, none⟩ = some (.int .i64 (rget r kb).1) ∧ w'.cell? ⟨br, or' + kb * 2 + 1, none⟩ = some (.int .i64 (rget r kb).2)) := Lib.hid fun w' hb => by
    rw [hb.cell (show br < w.heap.size from hbr), hb.cell (show br < w.heap.size from hbr)]; exact ⟨eb0, eb1⟩
  have HW := Lib.hid fun w => rv_within (rget r ka) 0 (D - 1) w
  have HV := Lib.hid fun w => rv_within (rget r kb) 0 (q' - 1) w
  generalize rget r ka = A at ea0 ea1 HW Hea ⊢
  generalize rget r kb = B at eb0 eb1 HV Heb ⊢
  have hnt : ts.length ≤ 1000000 ∨ True := .inr trivial
  obtain ⟨nt, hnt2⟩ : ∃ n, n = ts.length := ⟨_, rfl⟩
  rw [← hnt2] at hkts HS ⊢
  have HT : Hid (TBox (((w.alloc (.cells (pgC p ⟨vc, .slice (some ⟨bt, ot, none⟩) nt ct, .slice ax p.texts.length cx, vs, vk, vv⟩) 30)).alloc (.cells (ic (mk5 8 (ka : Int) (kb : Int) c (kt : Int))) 39)).alloc (.cells #[.int .i64 q', .slice ad dn cd] 37)) (w.heap.size + 2) q' (.slice ad dn cd)) := Lib.hid (by
    have := TBox.new ((w.alloc (.cells (pgC p ⟨vc, .slice (some ⟨bt, ot, none⟩) nt ct, .slice ax p.texts.length cx, vs, vk, vv⟩) 30)).alloc (.cells (ic (mk5 8 (ka : Int) (kb : Int) c (kt : Int))) 39)) q' (.slice ad dn cd)
    rw [World.size_alloc, World.size_alloc] at this
    exact this)
  have HS2 := Lib.hid (HS.out.step ((Below.refl _ _).alloc (Nat.le_refl _) (.cells #[.int .i64 q', .slice ad dn cd] 37)))
  clear HB Hts Htl Hct Hcl Hx Hr8 h12 h15 h13 hnt hnt2 htd hti hclt hrow hcd hmd hD hd0 hd1 hd4 hktl hdn HS
  obtain ⟨g1, hg1⟩ : ∃ x, x = inB A 0 (D - 1) := ⟨_, rfl⟩
  obtain ⟨g2, hg2⟩ : ∃ x, x = inB B 0 (q' - 1) := ⟨_, rfl⟩
  rw [← hg1] at HW ⊢
  rw [← hg2] at HV ⊢
  clear hg1 hg2
  cases g1 with
  | true =>
    go_enter Try.func25, Try.ntmps25
    repeat' (first | go_values | go_skip | go_guarded | go_step | go_upon)
    clear ea0 ea1 eb0 eb1 t0 t1
    refine gen_world (fun w' => SQ w p ⟨vc, .slice (some ⟨bt, ot, none⟩) nt ct, .slice ax p.texts.length cx, vs, vk, vv⟩ (mk5 8 (ka : Int) (kb : Int) c (kt : Int)) w' ∧ TBox w' (w.heap.size + 2) q' (.slice ad dn cd)) ⟨HS2.out, HT.out⟩ ?_
    clear HS2 HT
    rintro wa ⟨hS, hT⟩
    have HS := Lib.hid hS
    have HT := Lib.hid hT
    clear hS hT
    have q1 : ∀ nq : WB wa, nq.1.cell? ⟨w.heap.size + 1, 1, none⟩ = some (.int .i64 (ka : Int)) := fun nq => (HS.out.step nq.2).ins.cell 1 (by decide)
    have q2 : ∀ nq : WB wa, nq.1.cell? ⟨w.heap.size + 1, 2, none⟩ = some (.int .i64 (kb : Int)) := fun nq => (HS.out.step nq.2).ins.cell 2 (by decide)
    have q3 : ∀ nq : WB wa, nq.1.cell? ⟨w.heap.size + 2, 0, none⟩ = some (.int .i64 q') := fun nq => (HT.out.keep nq.2).two.1
    have q4 : ∀ nq : WB wa, nq.1.cell? ⟨w.heap.size + 2, 1, none⟩ = some (.slice ad dn cd) := fun nq => (HT.out.keep nq.2).two.2
    have qa0 : ∀ nq : WB wa, nq.1.cell? ⟨br, or' + ka * 2, none⟩ = some (.int .i64 A.1) := fun nq => (Hea.out _ (HS.out.step nq.2).bel).1
    have qa1 : ∀ nq : WB wa, nq.1.cell? ⟨br, or' + ka * 2 + 1, none⟩ = some (.int .i64 A.2) := fun nq => (Hea.out _ (HS.out.step nq.2).bel).2
    have qb0 : ∀ nq : WB wa, nq.1.cell? ⟨br, or' + kb * 2, none⟩ = some (.int .i64 B.1) := fun nq => (Heb.out _ (HS.out.step nq.2).bel).1
    have qb1 : ∀ nq : WB wa, nq.1.cell? ⟨br, or' + kb * 2 + 1, none⟩ = some (.int .i64 B.2) := fun nq => (Heb.out _ (HS.out.step nq.2).bel).2
    refine wp_region_wb (by kernel_rfl) (by kernel_rfl) wa (Below.refl _ _) ?_
    repeat (go_big_quiet_step (((go_at_call 42; first | (with_reducible exact calls_wb (HW.out _)) | (with_reducible exact calls_wb (HV.out _))))))
    refine wpQuiet_nil ?_
    rintro _ ⟨nq, rfl⟩
    have hnq := nq.2
    repeat' (first | go_values | go_skip | go_guarded | go_step | go_upon)
    go_ret
    exact ⟨ret_b (by simp), (HS.out.step hnq).bel⟩
  | false =>
    go_enter Try.func25, Try.ntmps25
    repeat' (first | go_values | go_skip | go_guarded | go_step | go_upon)
    clear ea0 ea1 eb0 eb1 t0 t1
    refine gen_world (fun w' => SQ w p ⟨vc, .slice (some ⟨bt, ot, none⟩) nt ct, .slice ax p.texts.length cx, vs, vk, vv⟩ (mk5 8 (ka : Int) (kb : Int) c (kt : Int)) w' ∧ TBox w' (w.heap.size + 2) q' (.slice ad dn cd)) ⟨HS2.out, HT.out⟩ ?_
    clear HS2 HT
    rintro wa ⟨hS, hT⟩
    have HS := Lib.hid hS
    have HT := Lib.hid hT
    clear hS hT
    have q1 : ∀ nq : WB wa, nq.1.cell? ⟨w.heap.size + 1, 1, none⟩ = some (.int .i64 (ka : Int)) := fun nq => (HS.out.step nq.2).ins.cell 1 (by decide)
    have q3 : ∀ nq : WB wa, nq.1.cell? ⟨w.heap.size + 2, 0, none⟩ = some (.int .i64 q') := fun nq => (HT.out.keep nq.2).two.1
    have q4 : ∀ nq : WB wa, nq.1.cell? ⟨w.heap.size + 2, 1, none⟩ = some (.slice ad dn cd) := fun nq => (HT.out.keep nq.2).two.2
    have qa0 : ∀ nq : WB wa, nq.1.cell? ⟨br, or' + ka * 2, none⟩ = some (.int .i64 A.1) := fun nq => (Hea.out _ (HS.out.step nq.2).bel).1
    have qa1 : ∀ nq : WB wa, nq.1.cell? ⟨br, or' + ka * 2 + 1, none⟩ = some (.int .i64 A.2) := fun nq => (Hea.out _ (HS.out.step nq.2).bel).2
    refine wp_region_wb (by kernel_rfl) (by kernel_rfl) wa (Below.refl _ _) ?_
    repeat (go_big_quiet_step (((go_at_call 42; with_reducible exact calls_wb (HW.out _)))))
    refine wpQuiet_nil ?_
    rintro _ ⟨nq, rfl⟩
    have hnq := nq.2
    repeat' (first | go_values | go_skip | go_guarded | go_step | go_upon)
    go_ret
    exact ⟨ret_b (by simp), (HS.out.step hnq).bel⟩
theorem ref_safe (p : Prg) (v : PV) (x : Nat → Int) (vr : Value) (r : Rg) (w : World) (H : PrgAt w v p) (hr : RowOf spC 2 w vr r) (hr8 : r.length = 8) (hx : SOk p x) :
    Calls Try.prog 25 #[pgV p v, vI x, vr] w fun e w' => e = .returned (.bool (safeI p x r)) ∧ Below w.heap.size w w' := by
  have h : safeI p (mk5 (x 0) (x 1) (x 2) (x 3) (x 4)) r = safeI p x r := rfl
  rw [← h]
  exact ref_safe5 p v (x 0) (x 1) (x 2) (x 3) (x 4) vr r w H hr hr8 ⟨hx.a, hx.b, hx.t, hx.n, hx.s⟩
end Go.Proofs.Ytkhggnlanopgkaa
