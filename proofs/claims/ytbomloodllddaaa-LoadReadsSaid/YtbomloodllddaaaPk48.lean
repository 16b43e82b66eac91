/- Walk: bytes are read as a program, by the reference (fretsawref25.Decode, P25.2). Condition: at most 10^15 bytes. NOT WHOLE YET. -/
import Derived.Test.YtbomloodllddaaaPk47
import Derived.Test.YtbomloodllddaaaPk45
namespace Go.Proofs.Ytbomloodllddaaa
open Go.RowKit
set_option maxRecDepth 100000 in
set_option maxHeartbeats 4000000 in
theorem r25_Decode (t : List UInt8) (ht : t.length ≤ 1000000000000000) (w : World) :
    Calls Try.prog 14 #[.string ⟨t.toArray⟩] w fun e w' => ∃ v, e = .returned (.tuple #[pgV (decI t).1 v, .int .i64 (decI t).2]) ∧ PrgO w.heap.size w' v (decI t).1 ∧ Below w.heap.size w w' := by
  have HL := Lib.hid (getP_lens t)
  have HD : Hid (decI t = if (getP t).2 ≠ 0 then (prg0, (getP t).2) else decS (getP t).1) := Lib.hid rfl
  have Hc := Lib.hid (rq_Get t ht)
  generalize getP t = G at HL HD Hc
  obtain ⟨l, e0⟩ := G
  dsimp only at HL HD Hc
  obtain ⟨R, hR⟩ : ∃ R, R = decI t := ⟨_, rfl⟩
  rw [← hR] at HD ⊢
  obtain ⟨rb, hrb⟩ : ∃ b, b = w.heap.size := ⟨_, rfl⟩
  have HB0 : Hid (PBox ((w.alloc (.cells (pgC prg0 pv0) 30)).alloc (.cells (pgC prg0 pv0) 30)) rb prg0 pv0 ∧ PBox ((w.alloc (.cells (pgC prg0 pv0) 30)).alloc (.cells (pgC prg0 pv0) 30)) (rb + 1) prg0 pv0) := Lib.hid (by
    rw [hrb]
    refine ⟨(PBox.new w prg0 pv0).keep ((Below.refl _ _).alloc (Nat.le_refl _) _), ?_⟩
    have := PBox.new (w.alloc (.cells (pgC prg0 pv0) 30)) prg0 pv0
    simpa using this)
  have Hb0 : Hid (Below w.heap.size w ((w.alloc (.cells (pgC prg0 pv0) 30)).alloc (.cells (pgC prg0 pv0) 30))) := Lib.hid (((Below.refl _ _).alloc (Nat.le_refl _) _).alloc (by simp) _)
  have hrw : w.heap.size ≤ rb := by omega
  clear hR
  go_enter Try.func14, Try.ntmps14
  repeat' (first | (with_reducible refine store_new_pg2 (p := prg0) (v := pv0) _ _ rfl rfl rfl rfl rfl pg_zero ?_) | go_values | go_skip | go_guarded | go_step | go_upon)
  rw [show (#[.int .i64 0, .int .i64 0, .int .i64 0, .int .i64 0, .slice none 0 0, .slice none 0 0, .slice none 0 0, .slice none 0 0, .slice none 0 0, .slice none 0 0] : Array Value) = pgC prg0 pv0 from rfl, ← hrb]
  clear hrb
  refine Calls.mono (Hc.out _) ?_
  rintro _ w1 ⟨vl, rfl, hrow, hb1⟩
  dsimp only
  have HM := Lib.hid (RM.mk (rb := rb) (nb := rb + 1) (Hb0.out.trans (hb1.mono Hb0.out.size)) (HB0.out.1.keep hb1) (HB0.out.2.keep hb1) hrow hrw)
  clear HB0 Hb0 hb1 hrow Hc
  by_cases h0 : e0 = 0
  rotate_left
  · have hne : (e0 != 0) = true := by rw [bne_iff_ne]; exact h0
    rw [if_pos h0] at HD
    clear h0
    repeat' (first | (with_reducible refine load_pg HM.out.non _ rfl rfl ?_) | (with_reducible refine store_pg HM.out.res (p' := prg0) (v' := pv0) pg_zero _ _ rfl rfl rfl ?_) | go_values | go_skip | go_guarded | go_step | go_upon)
    refine bodyPost_ret (results_pg rfl _ _ rb prg0 pv0 rfl HM.out.res.row) rfl ?_
    exact dec_bad HD.out HM.out.bel hrw
  subst h0
  rw [if_neg (by simp)] at HD
  obtain ⟨al, cl, hvl, _, _⟩ := HM.out.row.slice
  subst hvl
  by_cases h5 : l.length = 5
  rotate_left
  · have hK : kindsOk l = false := by unfold kindsOk; rw [decide_eq_false h5, Bool.false_and]
    have HD2 : Hid (R = (prg0, 21)) := Lib.hid (by rw [HD.out]; unfold decS; rw [if_pos hK])
    have hne : ((l.length : Int) != 5) = true := by rw [bne_iff_ne]; omega
    clear h5
    repeat' (first | (with_reducible refine load_pg HM.out.non _ rfl rfl ?_) | (with_reducible refine store_pg HM.out.res (p' := prg0) (v' := pv0) pg_zero _ _ rfl rfl rfl ?_) | go_values | go_skip | go_guarded | go_step | go_upon)
    refine bodyPost_ret (results_pg rfl _ _ rb prg0 pv0 rfl HM.out.res.row) rfl ?_
    exact dec_bad HD2.out HM.out.bel hrw
  have hrow := HM.out.row
  obtain ⟨al', cl', hvl, _, _, hcell⟩ := hrow.open secC_len
  simp only [Value.slice.injEq] at hvl
  obtain ⟨rfl, hnl, rfl⟩ := hvl
  clear hnl
  rcases hcell with hcell | ⟨lb, lo, rfl, hlb, hcell⟩
  · omega
  have Hcell : Hid (∀ k, k < 5 → w1.cell? ⟨lb, lo + k * 2, none⟩ = some (.int .u64 (((l.getD k (0, [])).1 : Nat) : Int)) ∧ w1.cell? ⟨lb, lo + k * 2 + 1, none⟩ = some (.string ⟨(bodyS l k).toArray⟩) ∧ (bodyS l k).length ≤ 8388608) := Lib.hid fun k hk => by
    have hx : l[k]? = some (l.getD k (0, [])) := by rw [List.getD_eq_getElem?_getD, List.getElem?_eq_getElem (by omega)]; rfl
    refine ⟨hcell k _ 0 hx (by decide), hcell k _ 1 hx (by decide), HL.out _ (List.mem_of_getElem? hx)⟩
  rw [h5]
  have H5 := Lib.hid h5
  clear hcell hrow h5
  obtain ⟨wA, hwA⟩ : ∃ x, x = w1 := ⟨_, rfl⟩
  have HMA : Hid (RM w rb (rb + 1) l (.slice (some ⟨lb, lo, none⟩) 5 cl) wA) := Lib.hid (by rw [hwA, ← H5.out]; exact HM.out)
  have Hst : Hid (Below wA.heap.size wA w1) := Lib.hid (by rw [hwA]; exact Below.refl _ _)
  rw [← hwA] at Hcell hlb
  clear hwA HM
  repeat' (first | go_values | go_skip | go_guarded | go_step | go_upon)
  go_loopw [39] (fun s39 wr => ∃ k : Nat, s39 = .int .i64 k ∧ k ≤ 5 ∧ Hid (∀ j, j < k → (l.getD j (0, [])).1 = j + 1) ∧ Hid (Below wA.heap.size wA wr)) (fun s39 _ => 5 - (intOf s39).toNat)
  case atStart => exact ⟨0, rfl, Nat.zero_le _, Lib.hid (fun j hj => by omega), Hst⟩
  case round =>
    clear Hst
    obtain ⟨k, rfl, hk, Hk, Hb⟩ := hrel
    by_cases hlt : k < 5
    · have M := Lib.hid (HMA.out.step Hb.out)
      obtain ⟨d0, d1, _⟩ := Hcell.out k hlt
      rw [← Hb.out.cell (show lb < wA.heap.size from hlb)] at d0 d1
      have hk1 : (l.getD k (0, [])).1 = k + 1 ∨ ¬ (l.getD k (0, [])).1 = k + 1 := Classical.em _
      have Hkd : Hid (∀ x, x = (l.getD k (0, [])).1 → x = k + 1 → ∀ j, j < k + 1 → (l.getD j (0, [])).1 = j + 1) := Lib.hid fun x e1 e2 j hj => by
        rcases Nat.lt_or_ge j k with h | h
        · exact Hk.out j h
        · obtain rfl : j = k := by omega
          omega
      have Hbad : Hid (∀ x, x = (l.getD k (0, [])).1 → ¬ x = k + 1 → R = (prg0, 21)) := Lib.hid fun x e1 e2 => by
        have hK : kindsOk l = false := by
          unfold kindsOk
          rw [Bool.and_eq_false_iff]
          right
          rw [List.all_eq_false]
          exact ⟨k, List.mem_range.2 hlt, fun h => e2 (e1.trans (of_decide_eq_true h))⟩
        rw [HD.out]; unfold decS; rw [if_pos hK]
      obtain ⟨kd, hkd⟩ : ∃ x, x = (l.getD k (0, [])).1 := ⟨_, rfl⟩
      rw [← hkd] at d0 hk1
      have H1 := Lib.hid (Hkd.out kd hkd)
      have H2 := Lib.hid (Hbad.out kd hkd)
      have hkw : IntKind.u64.wrap ((k : Int) + 1) = (k : Int) + 1 := by
        have := wu64 (x := ((k + 1 : Nat) : Int)) (by omega) (u64_small (by omega))
        rwa [Int.natCast_add] at this
      clear Hkd Hbad hkd
      repeat' (go_not_at_region 10; first | go_values | go_skip | go_guarded | go_step | go_upon)
      refine gen_wd (fun W => Below wr.heap.size wr W ∧ W.cell? ⟨wr.heap.size, 0, none⟩ = some (.int .u64 (kd : Int))) ⟨(Below.refl _ _).alloc (Nat.le_refl _) _, by rw [cell_of_row _ wr.heap.size 0 _ _ _ (Go.heap_alloc_new _ _)]; rfl⟩ ?_
      rintro wx ⟨hbx, hcx⟩
      have MX := Lib.hid (M.out.step hbx)
      have Hbx := Lib.hid (Hb.out.trans (hbx.mono Hb.out.size))
      clear hbx M Hb d0 d1
      rcases hk1 with hk1 | hk1
      · have e : ((kd : Int) != (k : Int) + 1) = false := by rw [bne_eq_false_iff_eq]; omega
        have H3 := Lib.hid (H1.out hk1)
        clear H1 H2 hk1
        repeat' (first | go_values | go_skip | go_guarded | go_step | go_upon)
        go_roundw
        case rel => exact ⟨k + 1, by go_num, by omega, H3, Hbx⟩
        case measure => simp [intOf]; omega
      · have e : ((kd : Int) != (k : Int) + 1) = true := by rw [bne_iff_ne]; omega
        repeat' (first | (with_reducible refine load_pg MX.out.non _ rfl rfl ?_) | (with_reducible refine store_pg MX.out.res (p' := prg0) (v' := pv0) pg_zero _ _ rfl rfl rfl ?_) | go_values | go_skip | go_guarded | go_step | go_upon)
        refine bodyPost_ret (results_pg rfl _ _ rb prg0 pv0 rfl MX.out.res.row) rfl ?_
        exact dec_bad (H2.out hk1) MX.out.bel hrw
    · obtain rfl : k = 5 := by omega
      have M := Lib.hid (HMA.out.step Hb.out)
      have HK : Hid (kindsOk l = true) := Lib.hid (by
        unfold kindsOk
        rw [Bool.and_eq_true]
        refine ⟨by simpa using H5.out, ?_⟩
        rw [List.all_eq_true]
        intro j hj
        simpa using Hk.out j (by simpa using hj))
      have HD3 : Hid (R = if errTo l 5 ≠ 0 then (prg0, errTo l 5) else if writI (prgTo l 5) ≠ 0 then (prg0, writI (prgTo l 5)) else (prgTo l 5, 0)) := Lib.hid (by rw [HD.out]; unfold decS; rw [if_neg (by rw [HK.out]; simp)])
      have Hbc : Hid (∀ k, k < 5 → wr.cell? ⟨lb, lo + k * 2 + 1, none⟩ = some (.string ⟨(bodyS l k).toArray⟩) ∧ (bodyS l k).length ≤ 8388608) := Lib.hid fun k hk => by
        obtain ⟨_, d1, d2⟩ := Hcell.out k hk
        rw [Hb.out.cell (show lb < wA.heap.size from hlb)]
        exact ⟨d1, d2⟩
      have hlbr : lb < wr.heap.size := Nat.lt_of_lt_of_le hlb Hb.out.size
      clear hlt hk Hk HD HK HMA Hb Hcell hlb
      repeat' (go_not_at_region 14; first | (with_reducible refine load_pg M.out.non _ rfl rfl ?_) | (with_reducible refine store_new_pg2 (p := prg0) (v := pv0) _ _ rfl rfl rfl rfl rfl pg_zero ?_) | go_values | go_skip | go_guarded | go_step | go_upon)
      obtain ⟨pb, hpb⟩ : ∃ b, b = wr.heap.size := ⟨_, rfl⟩
      have hab : Below wr.heap.size wr (wr.alloc (.cells (pgC prg0 pv0) 30)) := (Below.refl _ _).alloc (Nat.le_refl _) _
      have HR0 : Hid (RD w rb l (.slice (some ⟨lb, lo, none⟩) 5 cl) wr pb 0 pv0 (wr.alloc (.cells (pgC prg0 pv0) 30))) := Lib.hid
        ⟨M.out.step hab, by rw [hpb]; exact hab, by rw [hpb]; exact PBox.new _ _ _, prgO_zero _ _, ⟨fun _ => ⟨rfl, rfl⟩, fun _ => ⟨rfl, rfl⟩, fun _ => ⟨rfl, rfl⟩⟩, hpb, M.out.row, by rw [hpb]; exact M.out.non.lt⟩
      have HrE := Lib.hid M.out.row
      rw [← hpb] at hlbr ⊢
      obtain ⟨s, hs⟩ : ∃ s, s = bodyS l 0 := ⟨_, rfl⟩
      obtain ⟨dE, dl⟩ := Hbc.out 0 (by omega)
      rw [← hs] at dE dl
      rw [show lo + 0 * 2 + 1 = lo + 1 from by omega] at dE
      have Hpb := Lib.hid hpb
      have Hs := Lib.hid hs
      clear hs hpb M hab
      refine gen_wd (fun W => RD w rb l (.slice (some ⟨lb, lo, none⟩) 5 cl) wr pb 0 pv0 W) HR0.out ?_
      clear HR0
      intro w2 hr2
      have HR := Lib.hid hr2
      have d0 : w2.cell? ⟨lb, lo + 1, none⟩ = some (.string ⟨s.toArray⟩) := by rw [hr2.bel.cell hlbr]; exact dE
      clear hr2 dE
      repeat' (go_not_at_region 15; first | go_values | go_skip | go_guarded | go_step | go_upon)
      obtain ⟨g, hg⟩ : ∃ b, b = w2.heap.size := ⟨_, rfl⟩
      have hab : Below w2.heap.size w2 (w2.alloc (.cells #[.string ⟨s.toArray⟩, .int .i64 0, .int .i64 0, .bool false] 87)) := (Below.refl _ _).alloc (Nat.le_refl _) _
      have hC0 : CAt (w2.alloc (.cells #[.string ⟨s.toArray⟩, .int .i64 0, .int .i64 0, .bool false] 87)) g s 0 0 false := by rw [hg]; exact Go.heap_alloc_new _ _
      have HI := Lib.hid (c_ints g s (by omega) 0 0 false (i64_small (by omega)) 4 (by omega) _ hC0)
      have HR1 := Lib.hid (HR.out.step hab)
      have hgp : pb < g := by rw [hg]; exact HR.out.box.lt
      rw [← hg]
      rw [rdL_zero, show ((4 : Nat) : Int) = 4 from rfl] at HI
      have HC0 := Lib.hid hC0
      have hgE : wr.heap.size ≤ g := by have := Hpb.out; omega
      clear hC0 hab hg d0
      have hE1 : Hid (errTo l 1 = err1 s) := Lib.hid (by show (if errTo l 0 ≠ 0 then errTo l 0 else secE 0 (bodyS l 0)) = _; rw [if_neg (by simp [errTo]), (secE_five' _).1, Hs.out])
      have hStop : Hid (err1 s ≠ 0 → R = (prg0, err1 s)) := Lib.hid fun h => by
        have h1 : errTo l 5 = err1 s := by rw [errTo_stop (k := 1) (n := 5) (by rw [hE1.out]; exact h) (by omega), hE1.out]
        rw [HD3.out, if_pos (by rw [h1]; exact h), h1]
      have hErr : Hid (err1 s = errS s.length (geta s 0 4).2.1 (if (geta s 0 4).2.2 = 0 ∧ (geta s 0 4).1.length ≠ 4 then 21 else (geta s 0 4).2.2) (wideL (geta s 0 4).1)) := Lib.hid (by unfold err1 sec1B sec1L; rfl)
      have hP1 : Hid (prgTo l 1 = { prg0 with grow := (cutL (geta s 0 4).1).getD 0 0, rest := (cutL (geta s 0 4).1).getD 1 0, extra := (cutL (geta s 0 4).1).getD 2 0, signs := (cutL (geta s 0 4).1).getD 3 0 }) := Lib.hid (by rw [Hs.out]; simp only [prgTo, secP, sec1L])
      have hc4 := cutL_i64 (geta s 0 4).1
      generalize geta s 0 4 = Q at HI hErr hP1 hc4
      generalize err1 s = E at hE1 hStop hErr
      obtain ⟨Q1, Q2, Q3⟩ := Q
      dsimp only at HI hErr hP1 hc4
      have Hc4 := Lib.hid hc4
      clear hc4
      repeat' (first | go_values | go_skip | go_guarded | go_step | go_upon)
      refine Calls.mono (HI.out) ?_
      rintro _ w3 ⟨vh, out, a, b, wd, rfl, ho, hr, he, hia, hbq, hq, hlm⟩
      dsimp only
      have M3 := Lib.hid (HR1.out.els he HC0.out hgp)
      have HO3 := Lib.hid ho
      have HC3 := Lib.hid hr
      obtain ⟨bb, hbb⟩ : ∃ x, x = if b = 0 ∧ out.length ≠ 4 then 21 else b := ⟨_, rfl⟩
      have HE3 : Hid (errS s.length a bb wd = E) := Lib.hid (by
        rw [hErr.out, hbb]
        by_cases h0 : b = 0
        · obtain ⟨q1, q2, _, q4⟩ := hq h0
          rw [q1, q2, q4, ← hbq, Bool.false_or]
        · have h1 : ¬ (b = 0 ∧ out.length ≠ 4) := fun h => h0 h.1
          have h2 : ¬ (Q3 = 0 ∧ Q1.length ≠ 4) := fun h => h0 (hbq.trans h.1)
          rw [if_neg h1, if_neg h2]
          unfold errS
          rw [if_pos h0, if_pos (by rw [← hbq]; exact h0), hbq])
      have HQ3 : Hid (E = 0 → out = cutL Q1 ∧ out.length = 4 ∧ b = 0) := Lib.hid fun h => by
        rw [← HE3.out] at h
        have h0 : b = 0 := by
          by_cases h0 : b = 0
          · exact h0
          · rw [hbb, if_neg (fun h => h0 h.1)] at h; unfold errS at h; rw [if_pos h0] at h; exact h
        obtain ⟨q1, q2, q3, q4⟩ := hq h0
        have h4 : out.length = 4 := by
          by_cases h4 : out.length = 4
          · exact h4
          · rw [hbb, if_pos ⟨h0, h4⟩] at h; unfold errS at h; simp at h
        have hw : wd = false := by
          cases wd
          · rfl
          · rw [hbb, if_neg (fun h => h.2 h4), h0] at h; unfold errS at h; simp at h
        rw [hw, Bool.false_or] at q2
        exact ⟨q3 q2.symm, h4, h0⟩
      have hcs : ((b == 0) = false ∧ Hid (bb = b)) ∨ ((b == 0) = true ∧ ((out.length : Int) != 4) = false ∧ Hid (bb = b)) ∨ ((b == 0) = true ∧ ((out.length : Int) != 4) = true ∧ Hid (bb = 21)) := by
        by_cases h0 : b = 0
        · by_cases h4 : out.length = 4
          · exact .inr (.inl ⟨by simp [h0], by simp [h4], Lib.hid (by rw [hbb, if_neg (fun h => h.2 h4)])⟩)
          · exact .inr (.inr ⟨by simp [h0], by rw [bne_iff_ne]; omega, Lib.hid (by rw [hbb, if_pos ⟨h0, h4⟩])⟩)
        · exact .inl ⟨beq_false_of_ne h0, Lib.hid (by rw [hbb, if_neg (fun h => h0 h.1)])⟩
      have HgB := Lib.hid HC0.out.lt
      obtain ⟨ao, co, hvh⟩ := HO3.out.form
      subst hvh
      have c2 := HC3.out.c2
      have f2 := HC3.out.free 2
      clear hbb hq hbq hia hr ho he HI HR1 HC0 HR hErr
      have HDK : Hid (∀ W, CAt W g s a bb wd → Calls Try.prog 41 #[.pointer (some ⟨g, 0, none⟩)] W fun e w' => e = .returned (.int .i64 E) ∧ Below W.heap.size W w') := Lib.hid fun W h => by
        have := c_done g s a bb wd W h
        rwa [HE3.out] at this
      rcases hcs with ⟨e1, Hbb⟩ | ⟨e1, e2, Hbb⟩ | ⟨e1, e2, Hbb⟩
      all_goals
        repeat' (go_not_at_region 18; first | go_values | go_skip | go_guarded | go_step | go_upon)
        refine gen_wd (fun W => CAt W g s a bb wd ∧ RD w rb l (.slice (some ⟨lb, lo, none⟩) 5 cl) wr pb 0 pv0 W ∧ OwnI (pb + 1) 3 .i64 W (.slice ao out.length co) out) (by first | exact ⟨by rw [Hbb.out]; exact HC3.out, M3.out, HO3.out.base (by have := HgB.out; omega)⟩ | exact ⟨by rw [Hbb.out]; exact HC3.out.set2 21, M3.out.els ((Else.refl _ _).setCell _ _) HC3.out hgp, (HO3.out.setG HgB.out).base (by have := HgB.out; omega)⟩) ?_
        clear HC3 M3 HO3 c2 f2 HgB Hbb
        rintro w4 ⟨hc4, hr4, ho4⟩
        have HC4 := Lib.hid hc4
        have M4 := Lib.hid hr4
        have HO4 := Lib.hid ho4
        have HD4 := Lib.hid (HDK.out w4 hc4)
        clear hc4 hr4 ho4
        repeat' (first | go_values | go_skip | go_guarded | go_step | go_upon)
        refine Calls.mono (HD4.out) ?_
        rintro _ w5 ⟨rfl, hb5⟩
        dsimp only
        have HC5 := Lib.hid (HC4.out.keep hb5)
        have M5 := Lib.hid (M4.out.step hb5)
        have HO5 := Lib.hid (HO4.out.keep hb5 (Nat.le_refl _))
        clear HC4 M4 HO4 HD4 hb5
        by_cases hE : E = 0
        rotate_left
        · have e3 : (E != 0) = true := by rw [bne_iff_ne]; exact hE
          have HR2 := Lib.hid (hStop.out hE)
          clear hE hStop
          repeat' (go_not_at_region 19; first | go_values | go_skip | go_guarded | go_step | go_upon)
          have q0 : ∀ nq : GW (fun W => PBox W (rb + 1) prg0 pv0), nq.1.cell? ⟨rb + 1, 0, none⟩ = some (.int .i64 0) := fun nq => nq.2.cell 0
          have q1 : ∀ nq : GW (fun W => PBox W (rb + 1) prg0 pv0), nq.1.cell? ⟨rb + 1, 1, none⟩ = some (.int .i64 0) := fun nq => nq.2.cell 1
          have q2 : ∀ nq : GW (fun W => PBox W (rb + 1) prg0 pv0), nq.1.cell? ⟨rb + 1, 2, none⟩ = some (.int .i64 0) := fun nq => nq.2.cell 2
          have q3 : ∀ nq : GW (fun W => PBox W (rb + 1) prg0 pv0), nq.1.cell? ⟨rb + 1, 3, none⟩ = some (.int .i64 0) := fun nq => nq.2.cell 3
          have q4 : ∀ nq : GW (fun W => PBox W (rb + 1) prg0 pv0), nq.1.cell? ⟨rb + 1, 4, none⟩ = some (.slice none 0 0) := fun nq => nq.2.cell 4
          have q5 : ∀ nq : GW (fun W => PBox W (rb + 1) prg0 pv0), nq.1.cell? ⟨rb + 1, 5, none⟩ = some (.slice none 0 0) := fun nq => nq.2.cell 5
          have q6 : ∀ nq : GW (fun W => PBox W (rb + 1) prg0 pv0), nq.1.cell? ⟨rb + 1, 6, none⟩ = some (.slice none 0 0) := fun nq => nq.2.cell 6
          have q7 : ∀ nq : GW (fun W => PBox W (rb + 1) prg0 pv0), nq.1.cell? ⟨rb + 1, 7, none⟩ = some (.slice none 0 0) := fun nq => nq.2.cell 7
          have q8 : ∀ nq : GW (fun W => PBox W (rb + 1) prg0 pv0), nq.1.cell? ⟨rb + 1, 8, none⟩ = some (.slice none 0 0) := fun nq => nq.2.cell 8
          have q9 : ∀ nq : GW (fun W => PBox W (rb + 1) prg0 pv0), nq.1.cell? ⟨rb + 1, 9, none⟩ = some (.slice none 0 0) := fun nq => nq.2.cell 9
          refine wp_region_anyG (by kernel_rfl) (fun W => PBox W (rb + 1) prg0 pv0) ?_
          refine wpAnyC_take (i := 0) (v := _) rfl (by kernel_rfl) (by kernel_rfl) (by kernel_rfl) (fun _ _ _ h => h) (Or.inl ⟨by rfl, fun w ⟨nq, hw⟩ => by (subst hw; go_simp <;> with_reducible rfl)⟩) (by go_simp <;> with_reducible rfl) ?_
          refine wpAnyC_take (i := 1) (v := _) rfl (by kernel_rfl) (by kernel_rfl) (by kernel_rfl) (fun _ _ _ h => h) (Or.inl ⟨by rfl, fun w ⟨nq, hw⟩ => by (subst hw; go_simp <;> with_reducible rfl)⟩) (by go_simp <;> with_reducible rfl) ?_
          clear q0 q1 q2 q3 q4 q5 q6 q7 q8 q9
          refine genG (fun W => Below w5.heap.size w5 W) ((Below.refl _ _).drew) ?_
          intro W0 hbW
          have M6 := Lib.hid (M5.out.rm.step hbW)
          have HD6 := Lib.hid (HDK.out W0 (HC5.out.keep hbW))
          clear hbW M5 HC5 HDK
          refine wpAnyC_ready (CG.of (M6.out.non)) (rs := [2]) (by kernel_rfl) (by simp) ?_
          refine (AllReadyC.cons rfl (fun K hK => ?_) AllReadyC.nil)
          go_simp
          refine Calls.mono (HD6.out) ?_
          rintro _ W1 ⟨rfl, hb1⟩
          dsimp only
          refine hK _ _ ?_
          clear hK K
          have M7 := Lib.hid (M6.out.step hb1)
          clear hb1 M6 HD6
          refine wpAnyC_ready (CG.of (M7.out.non)) (rs := [3]) (by kernel_rfl) (by simp) ?_
          refine (AllReadyC.cons rfl (fun K hK => ?_) AllReadyC.nil)
          refine step_of rfl (store_pg M7.out.res (p' := prg0) (v' := pv0) pg_zero _ _ rfl rfl rfl ?_)
          refine hK _ _ ?_
          clear hK K
          refine wpAnyC_take (i := 4) (v := _) rfl (by kernel_rfl) (by kernel_rfl) (by kernel_rfl) (fun _ _ _ h => h) (Or.inl ⟨by rfl, fun w ⟨nq, hw⟩ => by (subst hw; go_simp <;> with_reducible rfl)⟩) (by go_simp <;> with_reducible rfl) ?_
          refine wpAnyC_done (by kernel_rfl) (CG.of (show PBox _ (rb + 1) prg0 pv0 from by unfold PBox; rw [setRow_other _ _ _ _ (by omega)]; exact M7.out.non)) (by go_simp <;> with_reducible rfl) ?_
          repeat' (first | go_values | go_skip | go_guarded | go_step | go_upon)
          refine bodyPost_ret (results_pg rfl _ _ rb prg0 pv0 rfl M7.out.res.row) rfl ?_
          exact dec_bad HR2.out M7.out.bel hrw
        have hz := HQ3.out hE
        first
          | exact absurd hz.2.2 (ne_of_beq_false e1)
          | (rw [hz.2.1] at e2; exact absurd e2 (by decide))
          | skip
      clear e1 e2 hz
      subst hE
      obtain ⟨ho, h4, hbz⟩ := HQ3.out rfl
      subst hbz
      obtain ⟨y0, y1, y2, y3, rfl⟩ : ∃ a b c d, out = [a, b, c, d] := by
        match out, h4 with
        | [a, b, c, d], _ => exact ⟨a, b, c, d, rfl⟩
      have HY : Hid (I64 y0 ∧ I64 y1 ∧ I64 y2 ∧ I64 y3) := Lib.hid ⟨Hc4.out _ (by rw [← ho]; simp), Hc4.out _ (by rw [← ho]; simp), Hc4.out _ (by rw [← ho]; simp), Hc4.out _ (by rw [← ho]; simp)⟩
      rw [← ho] at hP1
      have HP1 : Hid (prgTo l 1 = { prg0 with grow := y0, rest := y1, extra := y2, signs := y3 }) := Lib.hid (by rw [hP1.out]; rfl)
      obtain ⟨ao', co', e6, _, hc⟩ := HO5.out.rd
      simp only [Value.slice.injEq] at e6
      obtain ⟨rfl, hnl, rfl⟩ := e6
      clear hnl
      rcases hc with hc | ⟨bl, ol, rfl, hbl, hc⟩
      · simp at hc
      have hne : pb < bl := by
        have h : pb + 1 ≤ bl := HO5.out.below rfl
        omega
      have HX := Lib.hid (show w5.cell? ⟨bl, ol + 0, none⟩ = some (.int .i64 y0) ∧ w5.cell? ⟨bl, ol + 1, none⟩ = some (.int .i64 y1) ∧ w5.cell? ⟨bl, ol + 2, none⟩ = some (.int .i64 y2) ∧ w5.cell? ⟨bl, ol + 3, none⟩ = some (.int .i64 y3) from ⟨hc 0 (by simp), hc 1 (by simp), hc 2 (by simp), hc 3 (by simp)⟩)
      have S0 := Lib.hid (show PBox w5 pb prg0 pv0 ∧ Else pb w5 w5 from ⟨M5.out.box, Else.refl _ _⟩)
      have HDE := Lib.hid hE1.out
      clear hc h4 ho hP1 HO5 HC5 HQ3 HDK hE1 hStop HE3 hlm Hc4
      simp only [List.length_cons, List.length_nil, Nat.zero_add, Nat.reduceAdd]
      try rw [show ((4 : Nat) : Int) = 4 from rfl]
      have d0 : w5.cell? ⟨bl, ol, none⟩ = some (.int .i64 y0) := by rw [World.cell?_of_block (w := w5) (S0.out.2.block bl hbl (by omega))]; exact HX.out.1
      have c0 := S0.out.1.cell 0
      have f0 := S0.out.1.free 0
      repeat' (go_not_at_region 21; first | go_values | go_skip | go_guarded | go_step | go_upon)
      refine gen_wd (fun W => PBox W pb { prg0 with grow := y0 } pv0 ∧ Else pb w5 W) ⟨S0.out.1.set0 _, S0.out.2.setCell _ _⟩ ?_
      intro wy1 hy
      have S1 := Lib.hid hy
      clear hy d0 c0 f0 S0
      have d1 : wy1.cell? ⟨bl, ol + 1, none⟩ = some (.int .i64 y1) := by rw [World.cell?_of_block (w := w5) (S1.out.2.block bl hbl (by omega))]; exact HX.out.2.1
      have c1 := S1.out.1.cell 1
      have f1 := S1.out.1.free 1
      repeat' (go_not_at_region 22; first | go_values | go_skip | go_guarded | go_step | go_upon)
      refine gen_wd (fun W => PBox W pb { prg0 with grow := y0, rest := y1 } pv0 ∧ Else pb w5 W) ⟨S1.out.1.set1 _, S1.out.2.setCell _ _⟩ ?_
      intro wy2 hy
      have S2 := Lib.hid hy
      clear hy d1 c1 f1 S1
      have d2 : wy2.cell? ⟨bl, ol + 2, none⟩ = some (.int .i64 y2) := by rw [World.cell?_of_block (w := w5) (S2.out.2.block bl hbl (by omega))]; exact HX.out.2.2.1
      have c2 := S2.out.1.cell 2
      have f2 := S2.out.1.free 2
      repeat' (go_not_at_region 23; first | go_values | go_skip | go_guarded | go_step | go_upon)
      refine gen_wd (fun W => PBox W pb { prg0 with grow := y0, rest := y1, extra := y2 } pv0 ∧ Else pb w5 W) ⟨S2.out.1.set2 _, S2.out.2.setCell _ _⟩ ?_
      intro wy3 hy
      have S3 := Lib.hid hy
      clear hy d2 c2 f2 S2
      have d3 : wy3.cell? ⟨bl, ol + 3, none⟩ = some (.int .i64 y3) := by rw [World.cell?_of_block (w := w5) (S3.out.2.block bl hbl (by omega))]; exact HX.out.2.2.2
      have c3 := S3.out.1.cell 3
      have f3 := S3.out.1.free 3
      repeat' (go_not_at_region 24; first | go_values | go_skip | go_guarded | go_step | go_upon)
      refine gen_wd (fun W => PBox W pb { prg0 with grow := y0, rest := y1, extra := y2, signs := y3 } pv0 ∧ Else pb w5 W) ⟨S3.out.1.set3 _, S3.out.2.setCell _ _⟩ ?_
      intro wy4 hy
      have S4 := Lib.hid hy
      clear hy d3 c3 f3 S3
      have M1 : Hid (RD w rb l (.slice (some ⟨lb, lo, none⟩) 5 cl) wr pb 1 pv0 wy4) := Lib.hid (M5.out.next S4.out.2 (by rw [HP1.out]; exact S4.out.1) (by rw [HP1.out]; have h := prgO_zero (pb + 1) wy4; exact ⟨HY.out, h.code, h.tabs, h.texts, h.seeds, h.keys, h.vals, h.tl, h.sb, h.kb, h.vb⟩) (by rw [HP1.out]; exact ⟨fun _ => ⟨rfl, rfl⟩, fun _ => ⟨rfl, rfl⟩, fun _ => ⟨rfl, rfl⟩⟩))
      clear S4 M5 HX HY
      clear Hs Hpb hgE hgp dl HrE
      obtain ⟨s2, hs2⟩ : ∃ x, x = bodyS l 1 := ⟨_, rfl⟩
      obtain ⟨dE, dl2⟩ := Hbc.out 1 (by omega)
      rw [← hs2] at dE dl2
      rw [show lo + 1 * 2 + 1 = lo + 3 from by omega] at dE
      have d0 : wy4.cell? ⟨lb, lo + 3, none⟩ = some (.string ⟨s2.toArray⟩) := by rw [M1.out.bel.cell hlbr]; exact dE
      have HI := Lib.hid (rg_GetO s2 (by omega) wy4)
      have hE2 : Hid (errTo l 2 = (getI s2).1) := Lib.hid (by show (if errTo l 1 ≠ 0 then errTo l 1 else secE 1 (bodyS l 1)) = _; rw [if_neg (by rw [HDE.out]; simp), (secE_five' _).2.1, hs2])
      have hStop : Hid ((getI s2).1 ≠ 0 → R = (prg0, (getI s2).1)) := Lib.hid fun h => by
        have h1 : errTo l 5 = (getI s2).1 := by rw [errTo_stop (k := 2) (n := 5) (by rw [hE2.out]; exact h) (by omega), hE2.out]
        rw [HD3.out, if_pos (by rw [h1]; exact h), h1]
      have hP2 : Hid (prgTo l 2 = { prgTo l 1 with code := (getI s2).2 }) := Lib.hid (by rw [hs2]; rfl)
      clear hs2 dE HDE
      generalize getI s2 = Q at HI hE2 hStop hP2
      obtain ⟨E, C⟩ := Q
      dsimp only at HI hE2 hStop hP2
      repeat' (first | go_values | go_skip | go_guarded | go_step | go_upon)
      refine Calls.mono (HI.out) ?_
      rintro _ w6 ⟨vc, rfl, hoc, hb6⟩
      dsimp only
      have M6 := Lib.hid (M1.out.step hb6)
      have HOC : Hid (OwnR icL 5 (pb + 1) 118 w6 vc C) := Lib.hid (OwnC.base hoc (by have := M1.out.box.lt; omega))
      clear hoc hb6 M1 HI d0
      by_cases hE : E = 0
      rotate_left
      · have e3 : (E != 0) = true := by rw [bne_iff_ne]; exact hE
        have HR2 := Lib.hid (hStop.out hE)
        clear hE hStop
        repeat' (first | (with_reducible refine load_pg M6.out.rm.non _ rfl rfl ?_) | (with_reducible refine store_pg M6.out.rm.res (p' := prg0) (v' := pv0) pg_zero _ _ rfl rfl rfl ?_) | go_values | go_skip | go_guarded | go_step | go_upon)
        refine bodyPost_ret (results_pg rfl _ _ rb prg0 pv0 rfl M6.out.rm.res.row) rfl ?_
        exact dec_bad HR2.out M6.out.rm.bel hrw
      subst hE
      obtain ⟨ac, cc, hvc, _, _⟩ := HOC.out.form
      subst hvc
      have c4 := M6.out.box.cell 4
      have f4 := M6.out.box.free 4
      obtain ⟨vc, hvc⟩ : ∃ x, x = Value.slice ac C.length cc := ⟨_, rfl⟩
      repeat' (go_not_at_region 28; first | go_values | go_skip | go_guarded | go_step | go_upon)
      rw [← hvc] at HOC ⊢
      have hOC2 : OwnR icL 5 (pb + 1) 118 (w6.setCell ⟨pb, 4, none⟩ vc) vc C := HOC.out.setOther (fun k hk => by have := (HOC.out.below hk).1; omega)
      have M2 := Lib.hid (M6.out.code hP2.out hOC2)
      clear c4 f4 hvc HOC hOC2 M6 hP2 hStop
      refine gen_wd (fun W => RD w rb l (.slice (some ⟨lb, lo, none⟩) 5 cl) wr pb 2 { pv0 with vc := vc } W) M2.out ?_
      clear M2
      intro w7 hr7
      have M7 := Lib.hid hr7
      clear hr7
      obtain ⟨s3, hs3⟩ : ∃ x, x = bodyS l 2 := ⟨_, rfl⟩
      obtain ⟨dE, dl3⟩ := Hbc.out 2 (by omega)
      rw [← hs3] at dE dl3
      rw [show lo + 2 * 2 + 1 = lo + 5 from by omega] at dE
      have d0 : w7.cell? ⟨lb, lo + 5, none⟩ = some (.string ⟨s3.toArray⟩) := by rw [M7.out.bel.cell hlbr]; exact dE
      have Hs3 := Lib.hid hs3
      clear hs3 dE
      repeat' (go_not_at_region 29; first | go_values | go_skip | go_guarded | go_step | go_upon)
      obtain ⟨g3, hg3⟩ : ∃ b, b = w7.heap.size := ⟨_, rfl⟩
      have hab : Below w7.heap.size w7 (w7.alloc (.cells #[.string ⟨s3.toArray⟩, .int .i64 0, .int .i64 0, .bool false] 87)) := (Below.refl _ _).alloc (Nat.le_refl _) _
      have hC0 : CAt (w7.alloc (.cells #[.string ⟨s3.toArray⟩, .int .i64 0, .int .i64 0, .bool false] 87)) g3 s3 0 0 false := by rw [hg3]; exact Go.heap_alloc_new _ _
      have HI := Lib.hid (c_count g3 s3 (by omega) 0 0 false (i64_small (by omega)) 16 (by omega) _ hC0)
      have M8 := Lib.hid (M7.out.step hab)
      have HN2 := Lib.hid M7.out.nil
      have hgp3 : pb < g3 := by rw [hg3]; exact M7.out.box.lt
      have HC8 := Lib.hid hC0
      rw [← hg3]
      clear hC0 hab hg3 d0 M7
      have HT := Lib.hid fun W (h1 : RD w rb l (.slice (some ⟨lb, lo, none⟩) 5 cl) wr pb 2 { pv0 with vc := vc } W) h2 => RD.toRT (g := g3) (s := s3) h1 h2 hgp3 (by omega)
      rw [show ((16 : Nat) : Int) = 16 from rfl] at HI
      generalize rcC s3 0 0 16 = c at HI HT
      obtain ⟨n, a3, b3⟩ := c
      dsimp only at HI HT
      repeat' (first | go_values | go_skip | go_guarded | go_step | go_upon)
      refine Calls.mono (HI.out) ?_
      rintro _ w8 ⟨rfl, hr, he⟩
      dsimp only
      have HRT := Lib.hid (HT.out w8 (M8.out.els he HC8.out hgp3) hr)
      clear hr he HT M8 HC8 HI
      obtain ⟨R3, hR3⟩ : ∃ x, x = sec3F s3 := ⟨_, rfl⟩
      obtain ⟨P2, hP2⟩ : ∃ x, x = prgTo l 2 := ⟨_, rfl⟩
      rw [← hR3, ← hP2] at HRT
      have HR3 := Lib.hid hR3
      have HP2 := Lib.hid hP2
      have hnm : n ≤ 16 := by have := HRT.out.len; simpa using this
      clear hR3 hP2 HP1
      obtain ⟨wr', hwr'⟩ : ∃ x, x = wr := ⟨_, rfl⟩
      rw [← hwr'] at HRT
      have Hwr := Lib.hid hwr'
      clear hwr'
      repeat' (go_not_at_block 2; first | go_values | go_skip | go_guarded | go_step | go_upon)
      go_cut [] from 22 (fun wz => Hid (∃ a bad wd lt vt, errS s3.length a bad wd = errS s3.length R3.2.1 R3.2.2.1 R3.2.2.2 ∧ (errS s3.length a bad wd = 0 → lt = R3.1) ∧ CAt wz g3 s3 a bad wd ∧ RW w rb l (.slice (some ⟨lb, lo, none⟩) 5 cl) wr' pb { P2 with tabs := lt } { pv0 with vc := vc, vt := vt } { P2 with tabs := lt } { pv0 with vc := vc, vt := vt } wz))
      case first =>
        as_aux_lemma =>
        repeat' (first | go_values | go_skip | go_guarded | go_step | go_upon)
        go_loopg [15] n (fun gn s15 wi => ∃ (k : Nat) (a bad : Int) (wd : Bool) (lt : List (Int × List Int)) (vt : Value), s15 = .int .i64 k ∧ k + gn = n ∧ Hid (RT w rb l (.slice (some ⟨lb, lo, none⟩) 5 cl) wr' pb g3 s3 P2 { pv0 with vc := vc } R3 gn a bad wd lt vt wi))
        case atStart => exact ⟨0, _, _, _, _, _, rfl, Nat.zero_add _, HRT⟩
        case round =>
          clear HRT
          obtain ⟨k, a, bad, wd, lt, vt, rfl, hk, HX⟩ := hrel
          have c2 := HX.out.rd.c2
          by_cases hin : k < n ∧ bad = 0
          · obtain ⟨hlt, rfl⟩ := hin
            repeat' (go_not_at_region 34; first | go_values | go_skip | go_guarded | go_step | go_upon)
            obtain ⟨tb, htb⟩ : ∃ b, b = wr.heap.size := ⟨_, rfl⟩
            have hab : Below wr.heap.size wr (wr.alloc (.cells #[.int .i64 0, .slice none 0 0] 54)) := (Below.refl _ _).alloc (Nat.le_refl _) _
            have HCa := Lib.hid (HX.out.rd.keep hab)
            have hwt : wr.heap.size ≤ tb := by omega
            have HTB : Hid (TBox (wr.alloc (.cells #[.int .i64 0, .slice none 0 0] 54)) tb 0 (.slice none 0 0)) := Lib.hid (by rw [htb]; exact Go.heap_alloc_new _ _)
            have hgt : g3 < tb := by rw [htb]; exact HX.out.rd.lt
            rw [← htb]
            refine gen_wd (fun W => Else g3 wr W ∧ CAt W g3 s3 a 0 wd ∧ TBox W tb 0 (.slice none 0 0)) ⟨Else.of_below hab, HCa.out, HTB.out⟩ ?_
            clear HCa HTB hab htb c2
            rintro wa ⟨hea, hca, ht⟩
            have hr0 : rdN s3 a 0 = vget s3 a := by unfold rdN; rw [if_neg (by simp)]
            have HN := Lib.hid (c_number g3 s3 (by omega) a 0 wd (HX.out.at' rfl) wa hca)
            rw [hr0] at HN
            have HEa := Lib.hid hea
            have HTB := Lib.hid ht
            have HI1 := Lib.hid (show I64 (vget s3 a).2.1 from vgetI_i64 (by omega) a)
            clear hea hca ht hr0
            obtain ⟨q, hq⟩ : ∃ q, q = vget s3 a := ⟨_, rfl⟩
            rw [← hq] at HN HI1
            obtain ⟨x, a1, b1⟩ := q
            dsimp only at HN HI1
            have HQ := Lib.hid hq
            clear hq
            repeat' (first | go_values | go_skip | go_guarded | go_step | go_upon)
            refine Calls.mono (HN.out) ?_
            rintro _ wb ⟨rfl, hrb, heb⟩
            dsimp only
            have HW := Lib.hid (c_whole g3 s3 a1 b1 wd x wb hrb)
            have HEb := Lib.hid (HEa.out.trans heb)
            have HTb := Lib.hid (show TBox wb tb 0 (.slice none 0 0) from heb.row HTB.out (by omega))
            clear HN hrb heb HEa HTB
            repeat' (first | go_values | go_skip | go_guarded | go_step | go_upon)
            refine Calls.mono (HW.out) ?_
            rintro _ wc ⟨rfl, hrc, hwc⟩
            dsimp only
            have hec : Else g3 wb wc := by
              rcases hwc with rfl | rfl
              · exact Else.refl _ _
              · exact (Else.refl _ _).setCell _ _
            have HEc := Lib.hid (HEb.out.trans hec)
            have HTc := Lib.hid (show TBox wc tb 0 (.slice none 0 0) from hec.row HTb.out (by omega))
            have HCc := Lib.hid hrc
            have k0 := HTc.out.two.1
            have f0 := HTc.out.free 0
            clear HW hrc hwc hec HEb HTb
            repeat' (go_not_at_region 35; first | go_values | go_skip | go_guarded | go_step | go_upon)
            refine gen_wd (fun W => Else g3 wr W ∧ CAt W g3 s3 a1 b1 (wd || decide (W62 < x)) ∧ TBox W tb (whl x) (.slice none 0 0)) ⟨HEc.out.far hwt _ _, HCc.out.far (by omega), HTc.out.put0 _⟩ ?_
            clear HEc HTc HCc k0 f0
            rintro we ⟨hed, hcd, htd⟩
            have HN := Lib.hid (c_ints g3 s3 (by omega) a1 b1 (wd || decide (W62 < x)) HI1.out 400000 (by omega) we hcd)
            rw [show ((400000 : Nat) : Int) = 400000 from rfl] at HN
            have HEd := Lib.hid hed
            have HTd := Lib.hid htd
            clear hed hcd htd
            repeat' (first | go_values | go_skip | go_guarded | go_step | go_upon)
            refine Calls.mono (HN.out) ?_
            rintro _ wf ⟨vi, out, a2, b2, wd2, rfl, hoi, hre, hee, hia, hbq, hg, hlm⟩
            dsimp only
            have hwrs : wr.heap.size ≤ we.heap.size := HEd.out.size
            have hpg := HX.out.gt
            have hgw := HX.out.rd.lt
            obtain ⟨ai, ci, hvi⟩ := hoi.form
            subst hvi
            have HEf := Lib.hid (HEd.out.trans hee)
            have HTf := Lib.hid (show TBox wf tb (whl x) (.slice none 0 0) from hee.row HTd.out (by omega))
            have HCf := Lib.hid hre
            have HOf : Hid (OwnI (pb + 1) 3 .i64 wf (.slice ai out.length ci) out) := Lib.hid (hoi.base (by omega))
            have HG : Hid (TG s3 R3 (gk - 1) a2 b2 wd2 (lt ++ [(whl x, out)])) := Lib.hid (by
              have hx := HX.out.tg
              rw [show gk = gk - 1 + 1 from by omega] at hx
              have h := hx.step (a2 := a2) (b2 := b2) (wd2 := wd2) (out := out) (by rw [← HQ.out]; exact hbq) (by rw [← HQ.out]; exact fun h => ⟨(hg h).1, (hg h).2.1, (hg h).2.2.1⟩)
              rw [← HQ.out] at h; exact h)
            have Hia := Lib.hid hia
            have k1 := HTf.out.two.2
            have f1 := HTf.out.free 1
            have hlen := HX.out.len
            clear hoi hre hee hia hbq hg hlm HEd HTd HN HQ HI1
            repeat' (go_not_at_region 36; first | go_values | go_skip | go_guarded | go_step | go_upon)
            refine gen_wd (fun W => RW w rb l (.slice (some ⟨lb, lo, none⟩) 5 cl) wr' pb { P2 with tabs := lt } { pv0 with vc := vc, vt := vt } { P2 with tabs := lt } { pv0 with vc := vc, vt := vt } W ∧ CAt W g3 s3 a2 b2 wd2 ∧ TBox W tb (whl x) (.slice ai out.length ci) ∧ OwnI (pb + 1) 3 .i64 W (.slice ai out.length ci) out) ⟨HX.out.rw.els (HEf.out.far hwt _ _) HX.out.rd hgp3, HCf.out.far (by omega), HTf.out.set1 _, OwnC.block HOf.out fun q hq => Below.heap_setCell _ _ _ _ (by
              obtain ⟨cs, fz, hc⟩ := HOf.out.typed hq
              intro e
              have h := HTf.out
              unfold TBox at h
              rw [show tb = q from e.symm] at h
              rw [hc] at h; simp at h)⟩ ?_
            clear HEf HTf HCf HOf k1 f1 HX
            rintro wg ⟨hW, hC, hT, hV⟩
            obtain ⟨ts, ho⟩ := hW.own.tabs
            have ho : TOwnS (pb + 1) wg vt lt ts := ho
            obtain ⟨xa, xc, hvt, _, _⟩ := ho.1.form
            subst hvt
            have c5 : wg.cell? ⟨pb, 5, none⟩ = some (.slice xa ts.length xc) := hW.box.cell 5
            have k0 := hT.two.1
            have k1 := hT.two.2
            obtain ⟨c, hc⟩ : ∃ c, c = whl x := ⟨_, rfl⟩
            have Hc1 : Hid (I64 c) := Lib.hid (by rw [hc]; exact whl_i64 x)
            rw [← hc] at hT HG k0
            have htsl : ts.length ≤ 16 := by have := ho.2.1; omega
            have HWg := Lib.hid hW
            have HCg := Lib.hid hC
            have HVg := Lib.hid hV
            have HOg := Lib.hid ho
            clear hc hW hC hT hV ho
            repeat' (first | (at_builtin; refine Hid.out ?_) | go_values | go_skip | go_guarded | go_step | go_upon)
            refine Lib.hid ?_
            have hab : Below wg.heap.size wg (wg.alloc (.cells #[.int .i64 c, .slice ai out.length ci] 54)) := (Below.refl _ _).alloc (Nat.le_refl _) _
            have hpw := HWg.out.box.lt
            refine wpList_plain rfl fun K hK => ?_
            refine app_rowW (f := tbC) (sz := 2) 32 tbC_len25 (fun y hy => by simp only [List.mem_singleton] at hy; subst hy; exact tbC_one25 _ ⟨_, _, _, rfl⟩) Try.underlying23 info_tab25 rfl (.tmp 140) (.tmp 142) rfl rfl (row_new wg (c, Value.slice ai out.length ci) _ rfl _ rfl) (HOg.out.keep hab).1 (by simp; omega) (by simp; omega) (by unfold maxLen; simp; omega) ?_
            intro v1 w3' ho3 hg3
            refine hK _ _ ?_
            clear hK K
            have hB3 : PBox w3' pb { P2 with tabs := lt } { pv0 with vc := vc, vt := .slice xa ts.length xc } := grown_obj hg3 (HWg.out.box.keep hab) fun e => by have := (HOg.out.1.below e).1; omega
            have HN3 : Hid (RT w rb l (.slice (some ⟨lb, lo, none⟩) 5 cl) wr' pb g3 s3 P2 { pv0 with vc := vc } R3 (gk - 1) a2 b2 wd2 (lt ++ [(c, out)]) v1 (w3'.setCell ⟨pb, 5, none⟩ v1)) := Lib.hid (RT.round (HWg.out.step hab) (HOg.out.keep hab) (HCg.out.keep hab) (HVg.out.keep hab (Nat.le_refl _)) Hc1.out ho3 hg3 hgp3 (fun _ => Hia.out) HG.out (by omega))
            obtain ⟨a1', n1', c1', e1⟩ : ∃ a n c, v1 = .slice a n c := by obtain ⟨a, c, e, _⟩ := ho3.form; exact ⟨a, _, c, e⟩
            subst e1
            have o5 := hB3.cell 5
            have f5 := hB3.free 5
            clear ho3 hg3 hB3 hab HWg HOg HCg HVg HG
            repeat' (first | go_values | go_skip | go_guarded | go_step | go_upon)
            go_roundg (gk - 1)
            case measure => omega
            case rel => exact ⟨k + 1, a2, b2, wd2, _, _, by go_num, by omega, HN3⟩
          · have Hfin : Hid (∃ a bad wd lt vt, errS s3.length a bad wd = errS s3.length R3.2.1 R3.2.2.1 R3.2.2.2 ∧ (errS s3.length a bad wd = 0 → lt = R3.1) ∧ CAt wr g3 s3 a bad wd ∧ RW w rb l (.slice (some ⟨lb, lo, none⟩) 5 cl) wr' pb { P2 with tabs := lt } { pv0 with vc := vc, vt := vt } { P2 with tabs := lt } { pv0 with vc := vc, vt := vt } wr) := Lib.hid (by
              obtain ⟨d1, d2⟩ := HX.out.tg.done (by omega)
              exact ⟨a, bad, wd, lt, vt, d1, d2, HX.out.rd, HX.out.rw⟩)
            have hcs : (k < n ∧ (bad == 0) = false) ∨ ¬ k < n := by
              by_cases h : k < n
              · exact .inl ⟨h, beq_false_of_ne fun h0 => hin ⟨h, h0⟩⟩
              · exact .inr h
            clear hin HX
            rcases hcs with ⟨hlt, e1⟩ | hlt
            all_goals
              repeat' (first | go_values | go_skip | go_guarded | go_step | go_upon)
              go_meet
              case rel => exact Hfin
      case rest =>
        as_aux_lemma =>
        clear HRT
        obtain ⟨a, bad, wd, lt, vt, he, hl, hc, hw⟩ := hcut.out
        clear hcut
        have hE3 : Hid (errTo l 3 = err3 s3) := Lib.hid (by show (if errTo l 2 ≠ 0 then errTo l 2 else secE 2 (bodyS l 2)) = _; rw [if_neg (by rw [hE2.out]; simp), (secE_five' _).2.2.1, Hs3.out])
        have hStop : Hid (err3 s3 ≠ 0 → R = (prg0, err3 s3)) := Lib.hid fun h => by
          have h1 : errTo l 5 = err3 s3 := by rw [errTo_stop (k := 3) (n := 5) (by rw [hE3.out]; exact h) (by omega), hE3.out]
          rw [HD3.out, if_pos (by rw [h1]; exact h), h1]
        have hEe : Hid (errS s3.length a bad wd = err3 s3) := Lib.hid (by rw [he, HR3.out]; rfl)
        have hPl : Hid (err3 s3 = 0 → prgTo l 3 = { P2 with tabs := lt }) := Lib.hid fun h => by
          rw [hl (by rw [hEe.out]; exact h), HP2.out, HR3.out]
          show secP 2 (bodyS l 2) (prgTo l 2) = _
          rw [← Hs3.out]; rfl
        generalize err3 s3 = E at hE3 hStop hEe hPl
        have HDK : Hid (∀ W, CAt W g3 s3 a bad wd → Calls Try.prog 41 #[.pointer (some ⟨g3, 0, none⟩)] W fun e w' => e = .returned (.int .i64 E) ∧ Below W.heap.size W w') := Lib.hid fun W h => by
          have := c_done g3 s3 a bad wd W h
          rwa [hEe.out] at this
        have HC := Lib.hid hc
        have HW := Lib.hid hw
        clear he hl hc hw hEe hE2
        have HD1 := Lib.hid (HDK.out wc HC.out)
        repeat' (first | go_values | go_skip | go_guarded | go_step | go_upon)
        refine Calls.mono (HD1.out) ?_
        rintro _ w9 ⟨rfl, hb5⟩
        dsimp only
        have HC1 := Lib.hid (HC.out.keep hb5)
        have HW1 := Lib.hid (HW.out.step hb5)
        have Hb9 := Lib.hid hb5
        clear HC HW HD1 hb5
        by_cases hE : E = 0
        rotate_left
        · have e3 : (E != 0) = true := by rw [bne_iff_ne]; exact hE
          have HR2 := Lib.hid (hStop.out hE)
          clear hE hStop
          repeat' (go_not_at_region 38; first | go_values | go_skip | go_guarded | go_step | go_upon)
          have q0 : ∀ nq : GW (fun W => PBox W (rb + 1) prg0 pv0), nq.1.cell? ⟨rb + 1, 0, none⟩ = some (.int .i64 0) := fun nq => nq.2.cell 0
          have q1 : ∀ nq : GW (fun W => PBox W (rb + 1) prg0 pv0), nq.1.cell? ⟨rb + 1, 1, none⟩ = some (.int .i64 0) := fun nq => nq.2.cell 1
          have q2 : ∀ nq : GW (fun W => PBox W (rb + 1) prg0 pv0), nq.1.cell? ⟨rb + 1, 2, none⟩ = some (.int .i64 0) := fun nq => nq.2.cell 2
          have q3 : ∀ nq : GW (fun W => PBox W (rb + 1) prg0 pv0), nq.1.cell? ⟨rb + 1, 3, none⟩ = some (.int .i64 0) := fun nq => nq.2.cell 3
          have q4 : ∀ nq : GW (fun W => PBox W (rb + 1) prg0 pv0), nq.1.cell? ⟨rb + 1, 4, none⟩ = some (.slice none 0 0) := fun nq => nq.2.cell 4
          have q5 : ∀ nq : GW (fun W => PBox W (rb + 1) prg0 pv0), nq.1.cell? ⟨rb + 1, 5, none⟩ = some (.slice none 0 0) := fun nq => nq.2.cell 5
          have q6 : ∀ nq : GW (fun W => PBox W (rb + 1) prg0 pv0), nq.1.cell? ⟨rb + 1, 6, none⟩ = some (.slice none 0 0) := fun nq => nq.2.cell 6
          have q7 : ∀ nq : GW (fun W => PBox W (rb + 1) prg0 pv0), nq.1.cell? ⟨rb + 1, 7, none⟩ = some (.slice none 0 0) := fun nq => nq.2.cell 7
          have q8 : ∀ nq : GW (fun W => PBox W (rb + 1) prg0 pv0), nq.1.cell? ⟨rb + 1, 8, none⟩ = some (.slice none 0 0) := fun nq => nq.2.cell 8
          have q9 : ∀ nq : GW (fun W => PBox W (rb + 1) prg0 pv0), nq.1.cell? ⟨rb + 1, 9, none⟩ = some (.slice none 0 0) := fun nq => nq.2.cell 9
          refine wp_region_anyG (by kernel_rfl) (fun W => PBox W (rb + 1) prg0 pv0) ?_
          refine wpAnyC_take (i := 0) (v := _) rfl (by kernel_rfl) (by kernel_rfl) (by kernel_rfl) (fun _ _ _ h => h) (Or.inl ⟨by rfl, fun w ⟨nq, hw⟩ => by (subst hw; go_simp <;> with_reducible rfl)⟩) (by go_simp <;> with_reducible rfl) ?_
          refine wpAnyC_take (i := 1) (v := _) rfl (by kernel_rfl) (by kernel_rfl) (by kernel_rfl) (fun _ _ _ h => h) (Or.inl ⟨by rfl, fun w ⟨nq, hw⟩ => by (subst hw; go_simp <;> with_reducible rfl)⟩) (by go_simp <;> with_reducible rfl) ?_
          clear q0 q1 q2 q3 q4 q5 q6 q7 q8 q9
          refine genG (fun W => Below w9.heap.size w9 W) ((Below.refl _ _).drew) ?_
          intro W0 hbW
          have M6 := Lib.hid (HW1.out.rm.step hbW)
          have HD6 := Lib.hid (HDK.out W0 (HC1.out.keep hbW))
          clear hbW HW1 HC1 HDK
          refine wpAnyC_ready (CG.of (M6.out.non)) (rs := [2]) (by kernel_rfl) (by simp) ?_
          refine (AllReadyC.cons rfl (fun K hK => ?_) AllReadyC.nil)
          go_simp
          refine Calls.mono (HD6.out) ?_
          rintro _ W1 ⟨rfl, hb1⟩
          dsimp only
          refine hK _ _ ?_
          clear hK K
          have M7 := Lib.hid (M6.out.step hb1)
          clear hb1 M6 HD6
          refine wpAnyC_ready (CG.of (M7.out.non)) (rs := [3]) (by kernel_rfl) (by simp) ?_
          refine (AllReadyC.cons rfl (fun K hK => ?_) AllReadyC.nil)
          refine step_of rfl (store_pg M7.out.res (p' := prg0) (v' := pv0) pg_zero _ _ rfl rfl rfl ?_)
          refine hK _ _ ?_
          clear hK K
          refine wpAnyC_take (i := 4) (v := _) rfl (by kernel_rfl) (by kernel_rfl) (by kernel_rfl) (fun _ _ _ h => h) (Or.inl ⟨by rfl, fun w ⟨nq, hw⟩ => by (subst hw; go_simp <;> with_reducible rfl)⟩) (by go_simp <;> with_reducible rfl) ?_
          refine wpAnyC_done (by kernel_rfl) (CG.of (show PBox _ (rb + 1) prg0 pv0 from by unfold PBox; rw [setRow_other _ _ _ _ (by omega)]; exact M7.out.non)) (by go_simp <;> with_reducible rfl) ?_
          repeat' (first | go_values | go_skip | go_guarded | go_step | go_upon)
          refine bodyPost_ret (results_pg rfl _ _ rb prg0 pv0 rfl M7.out.res.row) rfl ?_
          exact dec_bad HR2.out M7.out.bel hrw
        subst hE
        clear HDK hStop
        -- section 4
        have HP3 : Hid (prgTo l 3 = { P2 with tabs := lt }) := Lib.hid (hPl.out rfl)
        clear hPl HC1 Hb9
        obtain ⟨P3, hP3⟩ : ∃ x, x = ({ P2 with tabs := lt } : Prg) := ⟨_, rfl⟩
        have hnilx : P3.texts = [] ∧ P3.hash = ⟨[], [], []⟩ := by
          rw [hP3]
          obtain ⟨z1, _⟩ := HN2.out.texts (by omega)
          obtain ⟨z2, _⟩ := HN2.out.hash (by omega)
          rw [← HP2.out] at z1 z2
          exact ⟨z1, z2⟩
        rw [← hP3] at HW1 HP3
        have HNx := Lib.hid hnilx
        clear hnilx hP3 HR3 HP2 Hs3 hnm dl3
        obtain ⟨s4, hs4⟩ : ∃ x, x = bodyS l 3 := ⟨_, rfl⟩
        obtain ⟨dE, dl4⟩ := Hbc.out 3 (by omega)
        rw [← hs4] at dE dl4
        rw [show lo + 3 * 2 + 1 = lo + 7 from by omega] at dE
        have d0 : w9.cell? ⟨lb, lo + 7, none⟩ = some (.string ⟨s4.toArray⟩) := by rw [HW1.out.bel.cell hlbr, Hwr.out]; exact dE
        have Hs4 := Lib.hid hs4
        clear hs4 dE
        repeat' (go_not_at_region 40; first | go_values | go_skip | go_guarded | go_step | go_upon)
        obtain ⟨g4, hg4⟩ : ∃ b, b = w9.heap.size := ⟨_, rfl⟩
        have hab : Below w9.heap.size w9 (w9.alloc (.cells #[.string ⟨s4.toArray⟩, .int .i64 0, .int .i64 0, .bool false] 87)) := (Below.refl _ _).alloc (Nat.le_refl _) _
        have hC0 : CAt (w9.alloc (.cells #[.string ⟨s4.toArray⟩, .int .i64 0, .int .i64 0, .bool false] 87)) g4 s4 0 0 false := by rw [hg4]; exact Go.heap_alloc_new _ _
        have HI := Lib.hid (c_count g4 s4 (by omega) 0 0 false (i64_small (by omega)) 4096 (by omega) _ hC0)
        have M8 := Lib.hid (HW1.out.step hab)
        have hgp4 : pb < g4 := by rw [hg4]; exact HW1.out.box.lt
        have HC8 := Lib.hid hC0
        rw [← hg4]
        obtain ⟨v3, hv3⟩ : ∃ x, x = ({ pv0 with vc := vc, vt := vt } : PV) := ⟨_, rfl⟩
        rw [← hv3] at M8
        have hvx : v3.vx = .slice none 0 0 ∧ v3.vs = .slice none 0 0 := by rw [hv3]; exact ⟨rfl, rfl⟩
        clear hC0 hab hg4 d0 HW1 hv3
        have HT := Lib.hid fun W (h1 : RW w rb l (.slice (some ⟨lb, lo, none⟩) 5 cl) wr' pb P3 v3 P3 v3 W) h2 => XT.start (g := g4) (s := s4) h1 HNx.out.1 hvx.1 h2 hgp4 (by omega)
        have Hvs := Lib.hid hvx.2
        rw [show ((4096 : Nat) : Int) = 4096 from rfl] at HI
        clear hvx
        generalize rcC s4 0 0 4096 = c at HI HT
        obtain ⟨n4, a4, b4⟩ := c
        dsimp only at HI HT
        repeat' (first | go_values | go_skip | go_guarded | go_step | go_upon)
        refine Calls.mono (HI.out) ?_
        rintro _ w10 ⟨rfl, hr, he⟩
        dsimp only
        have HXT := Lib.hid (HT.out w10 (M8.out.els he HC8.out hgp4) hr)
        clear hr he HT M8 HC8 HI
        obtain ⟨R4, hR4⟩ : ∃ x, x = sec4F s4 := ⟨_, rfl⟩
        rw [← hR4] at HXT
        have HR4 := Lib.hid hR4
        have Hgt := Lib.hid (gett_cases s4 (by omega))
        have hn4 : n4 ≤ 4096 := by have := HXT.out.len; simpa using this
        clear hR4
        repeat' (go_not_at_block 4; first | go_values | go_skip | go_guarded | go_step | go_upon)
        go_cut [] from 22 (fun wz => Hid (∃ a bad lx vx, errS s4.length a bad false = errS s4.length R4.2.1 R4.2.2 false ∧ (errS s4.length a bad false = 0 → lx = R4.1) ∧ CAt wz g4 s4 a bad false ∧ RW w rb l (.slice (some ⟨lb, lo, none⟩) 5 cl) wr' pb { P3 with texts := lx } { v3 with vx := vx } { P3 with texts := lx } { v3 with vx := vx } wz))
        case first =>
          as_aux_lemma =>
          repeat' (first | go_values | go_skip | go_guarded | go_step | go_upon)
          go_loopg [17] n4 (fun gn s17 wi => ∃ (k : Nat) (a bad : Int) (lx : List (List UInt8)) (vx : Value), s17 = .int .i64 k ∧ k + gn = n4 ∧ Hid (XT w rb l (.slice (some ⟨lb, lo, none⟩) 5 cl) wr' pb g4 s4 P3 v3 R4 gn a bad lx vx wi))
          case atStart => exact ⟨0, _, _, _, _, rfl, Nat.zero_add _, HXT⟩
          case round =>
            clear HXT
            obtain ⟨k, a, bad, lx, vx, rfl, hk, HX⟩ := hrel
            have c2 := HX.out.rd.c2
            have hlen := HX.out.len
            by_cases hin : k < n4 ∧ bad = 0
            · obtain ⟨hlt, rfl⟩ := hin
              have Hx := Lib.hid (ref_GetText ⟨s4.toArray⟩ (by rw [ba_size]; omega) a HX.out.at' 4096 (i64_small (by omega)))
              obtain ⟨hgi, hgl4⟩ := Hgt.out a
              have hd : (⟨s4.toArray⟩ : ByteArray).data.toList = s4 := rfl
              rw [hd] at Hx
              clear hd
              have Hg1 : Hid ((gett s4 a 4096).2.2 ≠ 0 → R4.2.2 = (gett s4 a 4096).2.2) := Lib.hid fun h => by
                have h0 := HX.out.good rfl
                rw [show gk = gk - 1 + 1 from by omega, aheadX_bad lx h] at h0
                rw [← h0]
              have Hg2 : Hid ((gett s4 a 4096).2.2 = 0 → aheadX (lx ++ [(gett s4 a 4096).1]) (textsF s4 (gk - 1) (gett s4 a 4096).2.1) = R4) := Lib.hid fun h => by
                have h0 := HX.out.good rfl
                rw [show gk = gk - 1 + 1 from by omega, aheadX_step lx h] at h0
                exact h0
              generalize gett s4 a 4096 = r at Hx hgi hgl4 Hg1 Hg2
              obtain ⟨r1, r2, r3⟩ := r
              dsimp only at Hx hgi hgl4 Hg1 Hg2
              have Hgi := Lib.hid hgi
              have Hgl4 := Lib.hid hgl4
              have q0 : ∀ nq : WB wr, nq.1.cell? ⟨g4, 0, none⟩ = some (.string ⟨s4.toArray⟩) := fun nq => (HX.out.rd.keep nq.2).c0
              have q1 : ∀ nq : WB wr, nq.1.cell? ⟨g4, 1, none⟩ = some (.int .i64 a) := fun nq => (HX.out.rd.keep nq.2).c1
              clear hgi hgl4
              repeat' (go_not_at_region 44; first | go_values | go_skip | go_guarded | go_step | go_upon)
              refine wp_region_wb (by kernel_rfl) (by kernel_rfl) wr (Below.refl _ _) ?_
              repeat (go_big_quiet_step ((first | (go_at_call 46; exact calls_wb_same (Hx.out _)) | (go_at_call 46; exact calls_wb (Hx.out _)))))
              refine wpQuiet_nil ?_
              rintro _ ⟨nq, rfl⟩
              have hnq := nq.2
              clear q0 q1
              have Hn := Lib.hid (HX.out.rd.keep hnq)
              have Hw := Lib.hid (HX.out.rw.step hnq)
              have n1 := Hn.out.c1
              have n2 := Hn.out.c2
              have f1 := Hn.out.free 1
              have f2 := Hn.out.free 2
              clear hnq c2 HX
              repeat' (go_not_at_region 47; first | go_values | go_skip | go_guarded | go_step | go_upon)
              refine gen_wd (fun W => RW w rb l (.slice (some ⟨lb, lo, none⟩) 5 cl) wr' pb { P3 with texts := lx } { v3 with vx := vx } { P3 with texts := lx } { v3 with vx := vx } W ∧ CAt W g4 s4 r2 r3 false) ⟨Hw.out.els (((Else.refl _ _).setCell _ _).setCell _ _) Hn.out hgp4, (Hn.out.set2 _).set1 _⟩ ?_
              clear Hn Hw n1 n2 f1 f2
              rintro wg ⟨hW, hC⟩
              have ho : OwnR strC 1 (pb + 1) 9 wg vx lx := hW.own.texts
              obtain ⟨xa, xc, hvx, _, _⟩ := ho.form
              subst hvx
              have c6 : wg.cell? ⟨pb, 6, none⟩ = some (.slice xa lx.length xc) := hW.box.cell 6
              have HWg := Lib.hid hW
              have HCg := Lib.hid hC
              have HOg := Lib.hid ho
              clear hW hC ho
              repeat' (first | (at_builtin; refine Hid.out ?_) | go_values | go_skip | go_guarded | go_step | go_upon)
              refine Lib.hid ?_
              have hab : Below wg.heap.size wg (wg.alloc (.cells #[.string ⟨r1.toArray⟩] 9)) := (Below.refl _ _).alloc (Nat.le_refl _) _
              have hpw := HWg.out.box.lt
              refine wpList_plain rfl fun K hK => ?_
              refine app_rowW (f := strC) (sz := 1) 16 strC_len25 (fun y _ => strC_one25 y) Try.underlying24 info_str25 rfl (.tmp 193) (.tmp 195) rfl rfl (row_new wg r1 _ rfl _ rfl) (HOg.out.keep hab (Nat.le_refl _)) (by simp; omega) (by simp; omega) (by unfold maxLen; simp; omega) ?_
              intro v1 w3' ho3 hg3
              refine hK _ _ ?_
              clear hK K
              have hB3 : PBox w3' pb { P3 with texts := lx } { v3 with vx := .slice xa lx.length xc } := grown_obj hg3 (HWg.out.box.keep hab) fun e => by have := (HOg.out.below e).1; omega
              have HN3 : Hid (XT w rb l (.slice (some ⟨lb, lo, none⟩) 5 cl) wr' pb g4 s4 P3 v3 R4 (gk - 1) r2 r3 (lx ++ [r1]) v1 (w3'.setCell ⟨pb, 6, none⟩ v1)) := Lib.hid (XT.round (HWg.out.step hab) (HCg.out.keep hab) ho3 hg3 Hgl4.out hgp4 Hgi.out (by omega) Hg2.out Hg1.out)
              obtain ⟨a1', n1', c1', e1⟩ : ∃ a n c, v1 = .slice a n c := by obtain ⟨a, c, e, _⟩ := ho3.form; exact ⟨a, _, c, e⟩
              subst e1
              have o6 := hB3.cell 6
              have f6 := hB3.free 6
              clear ho3 hg3 hB3 hab HWg HOg HCg
              repeat' (first | go_values | go_skip | go_guarded | go_step | go_upon)
              go_roundg (gk - 1)
              case measure => omega
              case rel => exact ⟨k + 1, r2, r3, _, _, by go_num, by omega, HN3⟩
            · have Hfin : Hid (∃ a bad lx vx, errS s4.length a bad false = errS s4.length R4.2.1 R4.2.2 false ∧ (errS s4.length a bad false = 0 → lx = R4.1) ∧ CAt wr g4 s4 a bad false ∧ RW w rb l (.slice (some ⟨lb, lo, none⟩) 5 cl) wr' pb { P3 with texts := lx } { v3 with vx := vx } { P3 with texts := lx } { v3 with vx := vx } wr) := Lib.hid (by
                obtain ⟨d1, d2⟩ := HX.out.done (by omega)
                exact ⟨a, bad, lx, vx, d1, d2, HX.out.rd, HX.out.rw⟩)
              have hcs : (k < n4 ∧ (bad == 0) = false) ∨ ¬ k < n4 := by
                by_cases h : k < n4
                · exact .inl ⟨h, beq_false_of_ne fun h0 => hin ⟨h, h0⟩⟩
                · exact .inr h
              clear hin HX
              rcases hcs with ⟨hlt, e1⟩ | hlt
              all_goals
                repeat' (first | go_values | go_skip | go_guarded | go_step | go_upon)
                go_meet
                case rel => exact Hfin
        case rest =>
          as_aux_lemma =>
          clear HXT Hgt
          obtain ⟨a, bad, lx, vx, he, hl, hc, hw⟩ := hcut.out
          clear hcut
          have hE4 : Hid (errTo l 4 = err4 s4) := Lib.hid (by show (if errTo l 3 ≠ 0 then errTo l 3 else secE 3 (bodyS l 3)) = _; rw [if_neg (by rw [hE3.out]; simp), (secE_five' _).2.2.2.1, Hs4.out])
          have hStop : Hid (err4 s4 ≠ 0 → R = (prg0, err4 s4)) := Lib.hid fun h => by
            have h1 : errTo l 5 = err4 s4 := by rw [errTo_stop (k := 4) (n := 5) (by rw [hE4.out]; exact h) (by omega), hE4.out]
            rw [HD3.out, if_pos (by rw [h1]; exact h), h1]
          have hEe : Hid (errS s4.length a bad false = err4 s4) := Lib.hid (by rw [he, HR4.out]; rfl)
          have hPl : Hid (err4 s4 = 0 → prgTo l 4 = { P3 with texts := lx }) := Lib.hid fun h => by
            rw [hl (by rw [hEe.out]; exact h), ← HP3.out, HR4.out]
            show secP 3 (bodyS l 3) (prgTo l 3) = _
            rw [← Hs4.out]; rfl
          generalize err4 s4 = E at hE4 hStop hEe hPl
          have HDK : Hid (∀ W, CAt W g4 s4 a bad false → Calls Try.prog 41 #[.pointer (some ⟨g4, 0, none⟩)] W fun e w' => e = .returned (.int .i64 E) ∧ Below W.heap.size W w') := Lib.hid fun W h => by
            have := c_done g4 s4 a bad false W h
            rwa [hEe.out] at this
          have HC := Lib.hid hc
          have HW := Lib.hid hw
          clear he hl hc hw hEe hE3
          have HD1 := Lib.hid (HDK.out wc HC.out)
          repeat' (first | go_values | go_skip | go_guarded | go_step | go_upon)
          refine Calls.mono (HD1.out) ?_
          rintro _ w11 ⟨rfl, hb5⟩
          dsimp only
          have HC1 := Lib.hid (HC.out.keep hb5)
          have HW1 := Lib.hid (HW.out.step hb5)
          have Hb11 := Lib.hid hb5
          clear HC HW HD1 hb5
          by_cases hE : E = 0
          rotate_left
          · have e3 : (E != 0) = true := by rw [bne_iff_ne]; exact hE
            have HR2 := Lib.hid (hStop.out hE)
            clear hE hStop
            repeat' (go_not_at_region 49; first | go_values | go_skip | go_guarded | go_step | go_upon)
            have q0 : ∀ nq : GW (fun W => PBox W (rb + 1) prg0 pv0), nq.1.cell? ⟨rb + 1, 0, none⟩ = some (.int .i64 0) := fun nq => nq.2.cell 0
            have q1 : ∀ nq : GW (fun W => PBox W (rb + 1) prg0 pv0), nq.1.cell? ⟨rb + 1, 1, none⟩ = some (.int .i64 0) := fun nq => nq.2.cell 1
            have q2 : ∀ nq : GW (fun W => PBox W (rb + 1) prg0 pv0), nq.1.cell? ⟨rb + 1, 2, none⟩ = some (.int .i64 0) := fun nq => nq.2.cell 2
            have q3 : ∀ nq : GW (fun W => PBox W (rb + 1) prg0 pv0), nq.1.cell? ⟨rb + 1, 3, none⟩ = some (.int .i64 0) := fun nq => nq.2.cell 3
            have q4 : ∀ nq : GW (fun W => PBox W (rb + 1) prg0 pv0), nq.1.cell? ⟨rb + 1, 4, none⟩ = some (.slice none 0 0) := fun nq => nq.2.cell 4
            have q5 : ∀ nq : GW (fun W => PBox W (rb + 1) prg0 pv0), nq.1.cell? ⟨rb + 1, 5, none⟩ = some (.slice none 0 0) := fun nq => nq.2.cell 5
            have q6 : ∀ nq : GW (fun W => PBox W (rb + 1) prg0 pv0), nq.1.cell? ⟨rb + 1, 6, none⟩ = some (.slice none 0 0) := fun nq => nq.2.cell 6
            have q7 : ∀ nq : GW (fun W => PBox W (rb + 1) prg0 pv0), nq.1.cell? ⟨rb + 1, 7, none⟩ = some (.slice none 0 0) := fun nq => nq.2.cell 7
            have q8 : ∀ nq : GW (fun W => PBox W (rb + 1) prg0 pv0), nq.1.cell? ⟨rb + 1, 8, none⟩ = some (.slice none 0 0) := fun nq => nq.2.cell 8
            have q9 : ∀ nq : GW (fun W => PBox W (rb + 1) prg0 pv0), nq.1.cell? ⟨rb + 1, 9, none⟩ = some (.slice none 0 0) := fun nq => nq.2.cell 9
            refine wp_region_anyG (by kernel_rfl) (fun W => PBox W (rb + 1) prg0 pv0) ?_
            refine wpAnyC_take (i := 0) (v := _) rfl (by kernel_rfl) (by kernel_rfl) (by kernel_rfl) (fun _ _ _ h => h) (Or.inl ⟨by rfl, fun w ⟨nq, hw⟩ => by (subst hw; go_simp <;> with_reducible rfl)⟩) (by go_simp <;> with_reducible rfl) ?_
            refine wpAnyC_take (i := 1) (v := _) rfl (by kernel_rfl) (by kernel_rfl) (by kernel_rfl) (fun _ _ _ h => h) (Or.inl ⟨by rfl, fun w ⟨nq, hw⟩ => by (subst hw; go_simp <;> with_reducible rfl)⟩) (by go_simp <;> with_reducible rfl) ?_
            clear q0 q1 q2 q3 q4 q5 q6 q7 q8 q9
            refine genG (fun W => Below w11.heap.size w11 W) ((Below.refl _ _).drew) ?_
            intro W0 hbW
            have M6 := Lib.hid (HW1.out.rm.step hbW)
            have HD6 := Lib.hid (HDK.out W0 (HC1.out.keep hbW))
            clear hbW HW1 HC1 HDK
            refine wpAnyC_ready (CG.of (M6.out.non)) (rs := [2]) (by kernel_rfl) (by simp) ?_
            refine (AllReadyC.cons rfl (fun K hK => ?_) AllReadyC.nil)
            go_simp
            refine Calls.mono (HD6.out) ?_
            rintro _ W1 ⟨rfl, hb1⟩
            dsimp only
            refine hK _ _ ?_
            clear hK K
            have M7 := Lib.hid (M6.out.step hb1)
            clear hb1 M6 HD6
            refine wpAnyC_ready (CG.of (M7.out.non)) (rs := [3]) (by kernel_rfl) (by simp) ?_
            refine (AllReadyC.cons rfl (fun K hK => ?_) AllReadyC.nil)
            refine step_of rfl (store_pg M7.out.res (p' := prg0) (v' := pv0) pg_zero _ _ rfl rfl rfl ?_)
            refine hK _ _ ?_
            clear hK K
            refine wpAnyC_take (i := 4) (v := _) rfl (by kernel_rfl) (by kernel_rfl) (by kernel_rfl) (fun _ _ _ h => h) (Or.inl ⟨by rfl, fun w ⟨nq, hw⟩ => by (subst hw; go_simp <;> with_reducible rfl)⟩) (by go_simp <;> with_reducible rfl) ?_
            refine wpAnyC_done (by kernel_rfl) (CG.of (show PBox _ (rb + 1) prg0 pv0 from by unfold PBox; rw [setRow_other _ _ _ _ (by omega)]; exact M7.out.non)) (by go_simp <;> with_reducible rfl) ?_
            repeat' (first | go_values | go_skip | go_guarded | go_step | go_upon)
            refine bodyPost_ret (results_pg rfl _ _ rb prg0 pv0 rfl M7.out.res.row) rfl ?_
            exact dec_bad HR2.out M7.out.bel hrw
          subst hE
          clear HDK hStop
          -- section 5
          have HP4 : Hid (prgTo l 4 = { P3 with texts := lx }) := Lib.hid (hPl.out rfl)
          clear hPl HC1 Hb11
          obtain ⟨P4, hP4⟩ : ∃ x, x = ({ P3 with texts := lx } : Prg) := ⟨_, rfl⟩
          obtain ⟨v4, hv4⟩ : ∃ x, x = ({ v3 with vx := vx } : PV) := ⟨_, rfl⟩
          have hnilx : P4.hash = ⟨[], [], []⟩ ∧ v4.vs = .slice none 0 0 := by
            rw [hP4, hv4]
            exact ⟨HNx.out.2, Hvs.out⟩
          rw [← hP4] at HW1 HP4
          rw [← hv4] at HW1
          have HNy := Lib.hid hnilx
          clear hnilx hP4 hv4 HR4 Hs4 HP3 hn4 dl4 HNx Hvs
          obtain ⟨s5, hs5⟩ : ∃ x, x = bodyS l 4 := ⟨_, rfl⟩
          obtain ⟨dE, dl5⟩ := Hbc.out 4 (by omega)
          rw [← hs5] at dE dl5
          rw [show lo + 4 * 2 + 1 = lo + 9 from by omega] at dE
          have d0 : w11.cell? ⟨lb, lo + 9, none⟩ = some (.string ⟨s5.toArray⟩) := by rw [HW1.out.bel.cell hlbr, Hwr.out]; exact dE
          have Hs5 := Lib.hid hs5
          clear hs5 dE Hbc
          repeat' (go_not_at_region 51; first | go_values | go_skip | go_guarded | go_step | go_upon)
          obtain ⟨g5, hg5⟩ : ∃ b, b = w11.heap.size := ⟨_, rfl⟩
          have hab : Below w11.heap.size w11 (w11.alloc (.cells #[.string ⟨s5.toArray⟩, .int .i64 0, .int .i64 0, .bool false] 87)) := (Below.refl _ _).alloc (Nat.le_refl _) _
          have hC0 : CAt (w11.alloc (.cells #[.string ⟨s5.toArray⟩, .int .i64 0, .int .i64 0, .bool false] 87)) g5 s5 0 0 false := by rw [hg5]; exact Go.heap_alloc_new _ _
          have HI := Lib.hid fun (a b : Int) (wd : Bool) (ha : I64 a) W (hW : CAt W g5 s5 a b wd) => c_list g5 s5 (by omega) a b wd ha 4096 (by omega) W hW
          rw [show ((4096 : Nat) : Int) = 4096 from rfl] at HI
          have M8 := Lib.hid (HW1.out.step hab)
          have hgp5 : pb < g5 := by rw [hg5]; exact HW1.out.box.lt
          have HC8 := Lib.hid hC0
          rw [← hg5]
          clear hC0 hab hg5 d0 HW1
          repeat' (first | go_values | go_skip | go_guarded | go_step | go_upon)
          refine Calls.mono (HI.out 0 0 false (i64_small (by omega)) _ HC8.out) ?_
          rintro _ w12 ⟨vq, L, a1, b1, rfl, ho1, hr1, he1, hi1, hb1, hq1, hl1⟩
          dsimp only
          obtain ⟨aq, cq, hvq⟩ := ho1.form
          rw [nats_len] at hvq
          subst hvq
          obtain ⟨n5, hn5⟩ : ∃ n, n = L.length := ⟨_, rfl⟩
          rw [← hn5] at ho1 hl1 ⊢
          have HET := Lib.hid (ET.start (L := L) (M8.out.els he1 HC8.out hgp5) HNy.out hr1 hgp5 (ho1.base (by have := HC8.out.lt; omega)))
          have H1 : Hid (b1 = (seedF s5).2.2 ∧ (b1 = 0 → L = (seedF s5).1 ∧ a1 = (seedF s5).2.1)) := Lib.hid (by rw [← seedF_eq]; exact ⟨hb1, hq1⟩)
          have Hi1 := Lib.hid hi1
          have HA : Hid (L.take n5 = L) := Lib.hid (by rw [hn5]; exact List.take_length)
          have HL5 : Hid (∀ k, k < n5 → ∃ x, L[k]? = some x ∧ low32 (L.take (k + 1)) = low32 (L.take k) ++ [x % 4294967296] ∧ wide32 (L.take (k + 1)) = (wide32 (L.take k) || decide (4294967295 < x)) ∧ ∀ bl, (nats L).getD k bl = (x : Int)) := Lib.hid fun k hk => by
            have hx : L[k]? = some L[k] := List.getElem?_eq_getElem (by omega)
            exact ⟨_, hx, low32_take L k _ hx, wide32_take L k _ hx, fun bl => by simp [nats, List.getD_eq_getElem?_getD, hx]⟩
          have hlt5 : Hid (∀ k, k ≤ n5 → (low32 (L.take k)).length = k) := Lib.hid fun k hk => by rw [low32_len, List.length_take]; omega
          have Hn5 := Lib.hid hn5
          clear ho1 hr1 he1 hi1 hb1 hq1 M8 HC8 hn5
          repeat' (go_not_at_block 6; first | go_values | go_skip | go_guarded | go_step | go_upon)
          go_cut [] from 22 (fun wz => Hid (∃ vs, ET w rb l (.slice (some ⟨lb, lo, none⟩) 5 cl) wr' pb g5 s5 P4 v4 L (.slice aq n5 cq) a1 b1 L vs wz))
          case first =>
            as_aux_lemma =>
            repeat' (first | go_values | go_skip | go_guarded | go_step | go_upon)
            go_loopg [213] n5 (fun gn s213 wi => ∃ (k : Nat) (vs : Value), s213 = .int .i64 k ∧ k + gn = n5 ∧ Hid (ET w rb l (.slice (some ⟨lb, lo, none⟩) 5 cl) wr' pb g5 s5 P4 v4 L (.slice aq n5 cq) a1 b1 (L.take k) vs wi))
            case atStart => exact ⟨0, _, rfl, Nat.zero_add _, HET⟩
            case round =>
              clear HET
              obtain ⟨k, vs, rfl, hk, HX⟩ := hrel
              by_cases hlt : k < n5
              · obtain ⟨x, hx, t1, t2, t3⟩ := HL5.out k hlt
                have hlen := hlt5.out k (by omega)
                obtain ⟨a', cap', e1, _, hc⟩ := HX.out.src.rd
                simp only [Value.slice.injEq] at e1
                obtain ⟨rfl, hnl, rfl⟩ := e1
                clear hnl
                rcases hc with h0 | ⟨bq, oq, rfl, _, hc⟩
                · have := congrArg List.length h0; rw [nats_len, ← Hn5.out] at this; simp at this; omega
                have hc' : wr.cell? ⟨bq, oq + k, none⟩ = some (.int .u64 (x : Nat)) := by
                  have h := hc k (by rw [nats_len, ← Hn5.out]; exact hlt)
                  rw [t3] at h
                  exact h
                have c3 := HX.out.rd.c3
                have f3 := HX.out.rd.free 3
                obtain ⟨y, hy⟩ : ∃ y, y = x % 4294967296 := ⟨_, rfl⟩
                have hy32 : y < 4294967296 := by omega
                have HL1 := Lib.hid t1
                obtain ⟨Lk, hLk⟩ : ∃ z, z = low32 (L.take k) := ⟨_, rfl⟩
                obtain ⟨D, hD⟩ : ∃ z, z = wide32 (L.take k) := ⟨_, rfl⟩
                rw [← hLk] at HL1 hlen
                rw [← hy] at HL1
                rw [← hD] at c3 t2
                have hlk : Lk.length ≤ 4096 := by omega
                clear hlen
                have HT2 := Lib.hid t2
                have hFl := HX.out.flag true
                have HF1 := Lib.hid hFl
                have HF0 := Lib.hid (show RW w rb l (.slice (some ⟨lb, lo, none⟩) 5 cl) wr' pb { P4 with hash := ⟨low32 (L.take k), [], []⟩ } { v4 with vs := vs } P4 v4 wr ∧ CAt wr g5 s5 a1 b1 (wide32 (L.take k)) ∧ OwnI (pb + 1) 45 .u32 wr vs (nats (low32 (L.take k))) ∧ OwnI (pb + 1) 66 .u64 wr (.slice (some ⟨bq, oq, none⟩) n5 cq) (nats L) from ⟨HX.out.rw, HX.out.rd, HX.out.own, HX.out.src⟩)
                have Hy := Lib.hid hy
                have HLk := Lib.hid hLk
                have HD := Lib.hid hD
                have hcase : ((4294967295 : Int) < x ∧ Hid (wide32 (L.take (k + 1)) = true)) ∨ (¬ (4294967295 : Int) < x ∧ Hid (wide32 (L.take (k + 1)) = D)) := by
                  by_cases hbig : 4294967295 < x
                  · exact .inl ⟨by omega, Lib.hid (by rw [t2]; simp [hbig])⟩
                  · exact .inr ⟨by omega, Lib.hid (by rw [t2]; simp [hbig])⟩
                have hrem : (x : Int) % 4294967296 = (y : Int) := by omega
                clear hFl HX t1 t2 t3 hc hx hy hLk hD
                rcases hcase with ⟨hb1, HE'⟩ | ⟨hb1, HE'⟩
                all_goals
                  repeat' (go_not_at_region 56; first | go_values | go_skip | go_guarded | go_step | go_upon)
                  refine gen_wd (fun W => RW w rb l (.slice (some ⟨lb, lo, none⟩) 5 cl) wr' pb { P4 with hash := ⟨Lk, [], []⟩ } { v4 with vs := vs } P4 v4 W ∧ CAt W g5 s5 a1 b1 (wide32 (L.take (k + 1))) ∧ OwnI (pb + 1) 45 .u32 W vs (nats Lk) ∧ OwnI (pb + 1) 66 .u64 W (.slice (some ⟨bq, oq, none⟩) n5 cq) (nats L)) (by first | (rw [HLk.out, HE'.out]; exact HF1.out) | (rw [HLk.out, HE'.out, HD.out]; exact HF0.out)) ?_
                  clear c3 f3 hc' hb1 HF1 HF0 HE'
                  rintro wg ⟨hW, hC, hO, h5⟩
                  have HOs : Hid (OwnR u32C 1 (pb + 1) 45 wg vs Lk) := Lib.hid (ownI_R hO)
                  obtain ⟨xa, xc, hvs, _, _⟩ := HOs.out.form
                  subst hvs
                  have c7 : wg.cell? ⟨pb, 7, none⟩ = some (.slice xa Lk.length xc) := hW.box.cell 7
                  have HWg := Lib.hid hW
                  have HCg := Lib.hid hC
                  have H5g := Lib.hid h5
                  clear hW hC hO h5
                  repeat' (first | (at_builtin; refine Hid.out ?_) | go_values | go_skip | go_guarded | go_step | go_upon)
                  refine Lib.hid ?_
                  have hab : Below wg.heap.size wg (wg.alloc (.cells #[.int .u32 (y : Nat)] 45)) := (Below.refl _ _).alloc (Nat.le_refl _) _
                  have hpw := HWg.out.box.lt
                  refine wpList_plain rfl fun K hK => ?_
                  refine app_rowW (f := u32C) (sz := 1) (B := pb + 1) (l0 := Lk) (l1 := [y]) 4 u32C_len25 (fun y _ => u32C_oneU y) Try.underlying25 info_u32L rfl (.tmp 224) (.tmp 228) rfl rfl (row_new wg y _ rfl _ rfl) (HOs.out.keep hab (Nat.le_refl _)) (by simp; omega) (by simp; omega) (by unfold maxLen; simp; omega) ?_
                  intro v1 w3' ho3 hg3
                  refine hK _ _ ?_
                  clear hK K
                  have hB3 : PBox w3' pb { P4 with hash := ⟨Lk, [], []⟩ } { v4 with vs := .slice xa Lk.length xc } := grown_obj hg3 (HWg.out.box.keep hab) fun e => by have := (HOs.out.below e).1; omega
                  have HN3 : Hid (ET w rb l (.slice (some ⟨lb, lo, none⟩) 5 cl) wr' pb g5 s5 P4 v4 L (.slice (some ⟨bq, oq, none⟩) n5 cq) a1 b1 (L.take (k + 1)) v1 (w3'.setCell ⟨pb, 7, none⟩ v1)) := Lib.hid (by
                    have hW := HWg.out.step hab
                    have hO := ownR_I (HOs.out.keep hab (Nat.le_refl _))
                    rw [HLk.out] at hW hO
                    exact ET.round hW (HCg.out.keep hab) HNy.out hO (H5g.out.keep hab (Nat.le_refl _)) (by rw [HL1.out]; exact ownR_I ho3) (by rw [← HLk.out]; exact hg3) hgp5)
                  obtain ⟨a1', n1', c1', e1⟩ : ∃ a n c, v1 = .slice a n c := by obtain ⟨a, c, e, _⟩ := ho3.form; exact ⟨a, _, c, e⟩
                  subst e1
                  have o7 := hB3.cell 7
                  have f7 := hB3.free 7
                  clear ho3 hg3 hB3 hab HWg HOs HCg H5g HL1 HT2 HD HLk Hy
                  repeat' (first | go_values | go_skip | go_guarded | go_step | go_upon)
                  go_roundg (gk - 1)
                  case measure => omega
                  case rel => exact ⟨k + 1, _, by go_num, by omega, HN3⟩
              · obtain rfl : k = n5 := by omega
                rw [HA.out] at HX
                have Hfin := Lib.hid HX.out
                clear HX
                repeat' (first | go_values | go_skip | go_guarded | go_step | go_upon)
                go_meet
                case rel => exact Lib.hid ⟨_, Hfin.out⟩
          case rest =>
            as_aux_lemma =>
            clear HET HL5 hlt5 HA
            obtain ⟨vs, hET⟩ := hcut.out
            have HR12 := Lib.hid hET.rw
            have HC12 := Lib.hid hET.rd
            have HS12 := Lib.hid hET.own
            clear hcut hET
            repeat' (first | go_values | go_skip | go_guarded | go_step | go_upon)
            refine Calls.mono (HI.out a1 b1 (wide32 L) Hi1.out _ HC12.out) ?_
            rintro _ w13 ⟨vk, o2, a2, b2, rfl, ho2, hr2, he2, hi2, hb2, hq2, hl2⟩
            dsimp only
            obtain ⟨ak, ck, hvk⟩ := ho2.form
            rw [nats_len] at hvk
            subst hvk
            have hpw := HR12.out.box.lt
            have HR13 := Lib.hid (HR12.out.els he2 HC12.out hgp5)
            have HC13 := Lib.hid hr2
            have HS13 : Hid (OwnI (pb + 1) 45 .u32 w13 vs (nats (low32 L))) := Lib.hid (OwnC.block HS12.out fun q hq => he2.block q (OwnC.lt HS12.out q hq).2 fun e => by
              obtain ⟨cs, fz, hcq⟩ := HS12.out.typed hq
              have hC := HC12.out
              unfold CAt at hC
              rw [e, hC] at hcq; simp at hcq)
            have HK13 : Hid (OwnI (pb + 1) 66 .u64 w13 (.slice ak o2.length ck) (nats o2)) := Lib.hid (ho2.base (by omega))
            have H2 := Lib.hid (show b2 = (rdL s5 a1 b1 4096).2.2 ∧ (b2 = 0 → o2 = (rdL s5 a1 b1 4096).1 ∧ a2 = (rdL s5 a1 b1 4096).2.1) from ⟨hb2, hq2⟩)
            have Hi2 := Lib.hid hi2
            have c8 := HR13.out.box.cell 8
            have f8 := HR13.out.box.free 8
            clear ho2 hr2 he2 hi2 hb2 hq2 hl2 hpw HR12 HC12 HS12 Hi1
            repeat' (go_not_at_region 59; first | go_values | go_skip | go_guarded | go_step | go_upon)
            refine gen_wd (fun W => RW w rb l (.slice (some ⟨lb, lo, none⟩) 5 cl) wr' pb { P4 with hash := ⟨low32 L, o2, []⟩ } { v4 with vs := vs, vk := .slice ak o2.length ck } P4 v4 W ∧ CAt W g5 s5 a2 b2 (wide32 L) ∧ OwnI (pb + 1) 45 .u32 W vs (nats (low32 L)) ∧ OwnI (pb + 1) 66 .u64 W (.slice ak o2.length ck) (nats o2)) ⟨HR13.out.set (HR13.out.box.set8 (.slice ak o2.length ck) ⟨low32 L, o2, []⟩), HC13.out.far (by omega), HS13.out.setG (by omega), HK13.out.setG (by omega)⟩ ?_
            clear HR13 HC13 HS13 HK13 c8 f8
            rintro wh ⟨hW, hC, hS, hK⟩
            have HR13 := Lib.hid hW
            have HC13 := Lib.hid hC
            have HS13 := Lib.hid hS
            have HK13 := Lib.hid hK
            clear hW hC hS hK
            repeat' (first | go_values | go_skip | go_guarded | go_step | go_upon)
            refine Calls.mono (HI.out a2 b2 (wide32 L) Hi2.out _ HC13.out) ?_
            rintro _ w14 ⟨vv, o3, a3', b3', rfl, ho3, hr3, he3, hi3, hb3, hq3, hl3⟩
            dsimp only
            obtain ⟨av, cv, hvv⟩ := ho3.form
            rw [nats_len] at hvv
            subst hvv
            have hpw := HR13.out.box.lt
            have HR14 := Lib.hid (HR13.out.els he3 HC13.out hgp5)
            have HC14 := Lib.hid hr3
            have HS14 : Hid (OwnI (pb + 1) 45 .u32 w14 vs (nats (low32 L))) := Lib.hid (OwnC.block HS13.out fun q hq => he3.block q (OwnC.lt HS13.out q hq).2 fun e => by
              obtain ⟨cs, fz, hcq⟩ := HS13.out.typed hq
              have hC := HC13.out
              unfold CAt at hC
              rw [e, hC] at hcq; simp at hcq)
            have HK14 : Hid (OwnI (pb + 1) 66 .u64 w14 (.slice ak o2.length ck) (nats o2)) := Lib.hid (OwnC.block HK13.out fun q hq => he3.block q (OwnC.lt HK13.out q hq).2 fun e => by
              obtain ⟨cs, fz, hcq⟩ := HK13.out.typed hq
              have hC := HC13.out
              unfold CAt at hC
              rw [e, hC] at hcq; simp at hcq)
            have HV14 : Hid (OwnI (pb + 1) 66 .u64 w14 (.slice av o3.length cv) (nats o3)) := Lib.hid (ho3.base (by omega))
            have H3 := Lib.hid (show b3' = (rdL s5 a2 b2 4096).2.2 ∧ (b3' = 0 → o3 = (rdL s5 a2 b2 4096).1 ∧ a3' = (rdL s5 a2 b2 4096).2.1) from ⟨hb3, hq3⟩)
            have c9 := HR14.out.box.cell 9
            have f9 := HR14.out.box.free 9
            clear ho3 hr3 he3 hi3 hb3 hq3 hl3 hpw HR13 HC13 HS13 HK13 Hi2
            repeat' (go_not_at_region 60; first | go_values | go_skip | go_guarded | go_step | go_upon)
            obtain ⟨P5, hP5⟩ : ∃ x, x = ({ P4 with hash := ⟨low32 L, o2, o3⟩ } : Prg) := ⟨_, rfl⟩
            obtain ⟨v5, hv5⟩ : ∃ x, x = ({ v4 with vs := vs, vk := .slice ak o2.length ck, vv := .slice av o3.length cv } : PV) := ⟨_, rfl⟩
            refine gen_wd (fun W => RW w rb l (.slice (some ⟨lb, lo, none⟩) 5 cl) wr' pb P5 v5 P4 v4 W ∧ CAt W g5 s5 a3' b3' (wide32 L) ∧ OwnI (pb + 1) 45 .u32 W vs (nats (low32 L)) ∧ OwnI (pb + 1) 66 .u64 W (.slice ak o2.length ck) (nats o2) ∧ OwnI (pb + 1) 66 .u64 W (.slice av o3.length cv) (nats o3)) ⟨by rw [hP5, hv5]; exact HR14.out.set (HR14.out.box.set9 (.slice av o3.length cv) ⟨low32 L, o2, o3⟩), HC14.out.far (by omega), HS14.out.setG (by omega), HK14.out.setG (by omega), HV14.out.setG (by omega)⟩ ?_
            clear HR14 HC14 HS14 HK14 HV14 c9 f9
            rintro wi ⟨hW, hC, hS, hK, hV⟩
            obtain ⟨d1, d2⟩ := lists_done H1.out H2.out H3.out
            have hE5 : Hid (errTo l 5 = err5 s5) := Lib.hid (by show (if errTo l 4 ≠ 0 then errTo l 4 else secE 4 (bodyS l 4)) = _; rw [if_neg (by rw [hE4.out]; simp), (secE_five' _).2.2.2.2, Hs5.out])
            have hStop : Hid (err5 s5 ≠ 0 → R = (prg0, err5 s5)) := Lib.hid fun h => by
              rw [HD3.out, if_pos (by rw [hE5.out]; exact h), hE5.out]
            have hPl : Hid (err5 s5 = 0 → prgTo l 5 = P5 ∧ ∀ W, (PrgO (pb + 1) W v4 P4 ∧ OwnI (pb + 1) 45 .u32 W vs (nats (low32 L)) ∧ OwnI (pb + 1) 66 .u64 W (.slice ak o2.length ck) (nats o2) ∧ OwnI (pb + 1) 66 .u64 W (.slice av o3.length cv) (nats o3)) → PrgO (pb + 1) W v5 P5) := Lib.hid fun h => by
              obtain ⟨f1, f2, f3⟩ := d2 h
              have u2 : AllU64 o2 := by rw [f2]; unfold keyF; exact rdL_u64 _ _ _ _
              have u3 : AllU64 o3 := by rw [f3]; unfold valF; exact rdL_u64 _ _ _ _
              refine ⟨?_, fun W ⟨h1, h2, h3, h4⟩ => ?_⟩
              · show secP 4 (bodyS l 4) (prgTo l 4) = _
                rw [HP4.out, ← Hs5.out, hP5, f1, f2, f3]; rfl
              · rw [hP5, hv5]
                exact PrgO.hashG h1 h2 h3 h4 u2 u3
            have HDK : Hid (∀ W, CAt W g5 s5 a3' b3' (wide32 L) → Calls Try.prog 41 #[.pointer (some ⟨g5, 0, none⟩)] W fun e w' => e = .returned (.int .i64 (err5 s5)) ∧ Below W.heap.size W w') := Lib.hid fun W h => by
              have := c_done g5 s5 a3' b3' (wide32 L) W h
              rwa [d1] at this
            have HO := Lib.hid (show PrgO (pb + 1) wi v4 P4 ∧ OwnI (pb + 1) 45 .u32 wi vs (nats (low32 L)) ∧ OwnI (pb + 1) 66 .u64 wi (.slice ak o2.length ck) (nats o2) ∧ OwnI (pb + 1) 66 .u64 wi (.slice av o3.length cv) (nats o3) from ⟨hW.own, hS, hK, hV⟩)
            have HC := Lib.hid hC
            have HW := Lib.hid hW
            generalize err5 s5 = E at hE5 hStop hPl HDK
            clear d1 d2 hW hC hS hK hV H1 H2 H3 hP5 hv5 hE4 Hs5 HI
            have HD1 := Lib.hid (HDK.out wi HC.out)
            repeat' (first | go_values | go_skip | go_guarded | go_step | go_upon)
            refine Calls.mono (HD1.out) ?_
            rintro _ w15 ⟨rfl, hb5⟩
            dsimp only
            have HC1 := Lib.hid (HC.out.keep hb5)
            have HW1 := Lib.hid (HW.out.step hb5)
            have Hb15 := Lib.hid hb5
            clear HC HW HD1 hb5
            by_cases hE : E = 0
            rotate_left
            · have e3 : (E != 0) = true := by rw [bne_iff_ne]; exact hE
              have HR2 := Lib.hid (hStop.out hE)
              clear hE hStop
              repeat' (go_not_at_region 61; first | go_values | go_skip | go_guarded | go_step | go_upon)
              have q0 : ∀ nq : GW (fun W => PBox W (rb + 1) prg0 pv0), nq.1.cell? ⟨rb + 1, 0, none⟩ = some (.int .i64 0) := fun nq => nq.2.cell 0
              have q1 : ∀ nq : GW (fun W => PBox W (rb + 1) prg0 pv0), nq.1.cell? ⟨rb + 1, 1, none⟩ = some (.int .i64 0) := fun nq => nq.2.cell 1
              have q2 : ∀ nq : GW (fun W => PBox W (rb + 1) prg0 pv0), nq.1.cell? ⟨rb + 1, 2, none⟩ = some (.int .i64 0) := fun nq => nq.2.cell 2
              have q3 : ∀ nq : GW (fun W => PBox W (rb + 1) prg0 pv0), nq.1.cell? ⟨rb + 1, 3, none⟩ = some (.int .i64 0) := fun nq => nq.2.cell 3
              have q4 : ∀ nq : GW (fun W => PBox W (rb + 1) prg0 pv0), nq.1.cell? ⟨rb + 1, 4, none⟩ = some (.slice none 0 0) := fun nq => nq.2.cell 4
              have q5 : ∀ nq : GW (fun W => PBox W (rb + 1) prg0 pv0), nq.1.cell? ⟨rb + 1, 5, none⟩ = some (.slice none 0 0) := fun nq => nq.2.cell 5
              have q6 : ∀ nq : GW (fun W => PBox W (rb + 1) prg0 pv0), nq.1.cell? ⟨rb + 1, 6, none⟩ = some (.slice none 0 0) := fun nq => nq.2.cell 6
              have q7 : ∀ nq : GW (fun W => PBox W (rb + 1) prg0 pv0), nq.1.cell? ⟨rb + 1, 7, none⟩ = some (.slice none 0 0) := fun nq => nq.2.cell 7
              have q8 : ∀ nq : GW (fun W => PBox W (rb + 1) prg0 pv0), nq.1.cell? ⟨rb + 1, 8, none⟩ = some (.slice none 0 0) := fun nq => nq.2.cell 8
              have q9 : ∀ nq : GW (fun W => PBox W (rb + 1) prg0 pv0), nq.1.cell? ⟨rb + 1, 9, none⟩ = some (.slice none 0 0) := fun nq => nq.2.cell 9
              refine wp_region_anyG (by kernel_rfl) (fun W => PBox W (rb + 1) prg0 pv0) ?_
              refine wpAnyC_take (i := 0) (v := _) rfl (by kernel_rfl) (by kernel_rfl) (by kernel_rfl) (fun _ _ _ h => h) (Or.inl ⟨by rfl, fun w ⟨nq, hw⟩ => by (subst hw; go_simp <;> with_reducible rfl)⟩) (by go_simp <;> with_reducible rfl) ?_
              refine wpAnyC_take (i := 1) (v := _) rfl (by kernel_rfl) (by kernel_rfl) (by kernel_rfl) (fun _ _ _ h => h) (Or.inl ⟨by rfl, fun w ⟨nq, hw⟩ => by (subst hw; go_simp <;> with_reducible rfl)⟩) (by go_simp <;> with_reducible rfl) ?_
              clear q0 q1 q2 q3 q4 q5 q6 q7 q8 q9
              refine genG (fun W => Below w15.heap.size w15 W) ((Below.refl _ _).drew) ?_
              intro W0 hbW
              have M6 := Lib.hid (HW1.out.rm.step hbW)
              have HD6 := Lib.hid (HDK.out W0 (HC1.out.keep hbW))
              clear hbW HW1 HC1 HDK
              refine wpAnyC_ready (CG.of (M6.out.non)) (rs := [2]) (by kernel_rfl) (by simp) ?_
              refine (AllReadyC.cons rfl (fun K hK => ?_) AllReadyC.nil)
              go_simp
              refine Calls.mono (HD6.out) ?_
              rintro _ W1 ⟨rfl, hb1⟩
              dsimp only
              refine hK _ _ ?_
              clear hK K
              have M7 := Lib.hid (M6.out.step hb1)
              clear hb1 M6 HD6
              refine wpAnyC_ready (CG.of (M7.out.non)) (rs := [3]) (by kernel_rfl) (by simp) ?_
              refine (AllReadyC.cons rfl (fun K hK => ?_) AllReadyC.nil)
              refine step_of rfl (store_pg M7.out.res (p' := prg0) (v' := pv0) pg_zero _ _ rfl rfl rfl ?_)
              refine hK _ _ ?_
              clear hK K
              refine wpAnyC_take (i := 4) (v := _) rfl (by kernel_rfl) (by kernel_rfl) (by kernel_rfl) (fun _ _ _ h => h) (Or.inl ⟨by rfl, fun w ⟨nq, hw⟩ => by (subst hw; go_simp <;> with_reducible rfl)⟩) (by go_simp <;> with_reducible rfl) ?_
              refine wpAnyC_done (by kernel_rfl) (CG.of (show PBox _ (rb + 1) prg0 pv0 from by unfold PBox; rw [setRow_other _ _ _ _ (by omega)]; exact M7.out.non)) (by go_simp <;> with_reducible rfl) ?_
              repeat' (first | go_values | go_skip | go_guarded | go_step | go_upon)
              refine bodyPost_ret (results_pg rfl _ _ rb prg0 pv0 rfl M7.out.res.row) rfl ?_
              exact dec_bad HR2.out M7.out.bel hrw
            subst hE
            clear HDK hStop
            obtain ⟨hP5, hPO⟩ := hPl.out rfl
            have HPO : Hid (PrgO (pb + 1) w15 v5 P5) := Lib.hid (by
              obtain ⟨x1, x2, x3, x4⟩ := HO.out
              have h := HW1.out.own
              exact hPO w15 ⟨h, x2.keep Hb15.out (Nat.le_refl _), x3.keep Hb15.out (Nat.le_refl _), x4.keep Hb15.out (Nat.le_refl _)⟩)
            rw [if_neg (by rw [hE5.out]; simp), hP5] at HD3
            clear hPl hP5 hPO HO hE5 HC1 HNy HP4
            have Hw := Lib.hid fun W (hW : PrgAt W v5 P5) => r25_Writable P5 v5 W hW
            generalize writI P5 = e at HD3 Hw
            repeat' (first | (with_reducible refine load_pg HW1.out.box _ rfl rfl ?_) | go_values | go_skip | go_guarded | go_step | go_upon)
            refine Calls.mono (Hw.out _ HPO.out.at') ?_
            rintro _ w16 ⟨rfl, hb6⟩
            dsimp only
            have M6 := Lib.hid (HW1.out.step hb6)
            have O6 := Lib.hid (HPO.out.keep hb6)
            clear HW1 HPO hb6 Hb15
            by_cases hz : e = 0
            rotate_left
            · have e1 : (e != 0) = true := by rw [bne_iff_ne]; exact hz
              rw [if_pos hz] at HD3
              clear hz
              repeat' (go_not_at_region 63; first | go_values | go_skip | go_guarded | go_step | go_upon)
              have hsrc := M6.out.src.2.2
              have hpx := M6.out.box.lt
              refine wp_region_anyG (by kernel_rfl) (fun W => PBox W (rb + 1) prg0 pv0 ∧ PBox W pb P5 v5) ?_
              refine wpAnyC_take (i := 0) (v := _) rfl (by kernel_rfl) (by kernel_rfl) (by kernel_rfl) (fun _ _ _ h => h) (Or.inl ⟨by rfl, fun w ⟨nq, hw⟩ => by (subst hw; exact exec_load_pg nq.2.1 _ rfl rfl)⟩) (by go_simp <;> with_reducible rfl) ?_
              refine wpAnyC_take (i := 1) (v := _) rfl (by kernel_rfl) (by kernel_rfl) (by kernel_rfl) (fun _ _ _ h => h) (Or.inl ⟨by rfl, fun w ⟨nq, hw⟩ => by (subst hw; exact exec_load_pg nq.2.2 _ rfl rfl)⟩) (by go_simp <;> with_reducible rfl) ?_
              refine genG (fun W => Below w16.heap.size w16 W) ((Below.refl _ _).drew) ?_
              intro W0 hbW
              have M7 := Lib.hid (M6.out.step hbW)
              have HD6 := Lib.hid (Hw.out W0 (O6.out.keep hbW).at')
              clear hbW M6 O6 Hw
              refine wpAnyC_ready (CG.of (⟨M7.out.rm.non, M7.out.box⟩)) (rs := [2]) (by kernel_rfl) (by simp) ?_
              refine (AllReadyC.cons rfl (fun K hK => ?_) AllReadyC.nil)
              go_simp
              refine Calls.mono (HD6.out) ?_
              rintro _ W1 ⟨rfl, hb1⟩
              dsimp only
              refine hK _ _ ?_
              clear hK K
              have M8 := Lib.hid (M7.out.step hb1)
              clear hb1 M7 HD6
              refine wpAnyC_ready (CG.of (⟨M8.out.rm.non, M8.out.box⟩)) (rs := [3]) (by kernel_rfl) (by simp) ?_
              refine (AllReadyC.cons rfl (fun K hK => ?_) AllReadyC.nil)
              refine step_of rfl (store_pg M8.out.rm.res (p' := prg0) (v' := pv0) pg_zero _ _ rfl rfl rfl ?_)
              refine hK _ _ ?_
              clear hK K
              refine wpAnyC_take (i := 4) (v := _) rfl (by kernel_rfl) (by kernel_rfl) (by kernel_rfl) (fun _ _ _ h => h) (Or.inl ⟨by rfl, fun w ⟨nq, hw⟩ => by (subst hw; go_simp <;> with_reducible rfl)⟩) (by go_simp <;> with_reducible rfl) ?_
              refine wpAnyC_done (by kernel_rfl) (CG.of (show PBox _ (rb + 1) prg0 pv0 ∧ PBox _ pb P5 v5 from by unfold PBox; rw [setRow_other _ _ _ _ (by omega), setRow_other _ _ _ _ (by omega)]; exact ⟨M8.out.rm.non, M8.out.box⟩)) (by go_simp <;> with_reducible rfl) ?_
              repeat' (first | go_values | go_skip | go_guarded | go_step | go_upon)
              refine bodyPost_ret (results_pg rfl _ _ rb prg0 pv0 rfl M8.out.rm.res.row) rfl ?_
              exact dec_bad HD3.out M8.out.rm.bel hrw
            · subst hz
              rw [if_neg (by simp)] at HD3
              have hone := pgO_one O6.out
              repeat' (first | (with_reducible refine load_pg M6.out.box _ rfl rfl ?_) | (with_reducible refine store_pg M6.out.rm.res (p' := P5) (v' := v5) hone _ _ rfl rfl rfl ?_) | go_values | go_skip | go_guarded | go_step | go_upon)
              refine bodyPost_ret (results_pg rfl _ _ rb P5 v5 rfl M6.out.rm.res.row) rfl ?_
              have hsrc := M6.out.src.2.2
              exact ⟨v5, by rw [HD3.out]; rfl, by rw [HD3.out]; exact (O6.out.keepF fun q h1 h2 => setRow_other _ _ _ _ (by omega)).base (by omega), Below.row M6.out.rm.bel hrw _⟩
end Go.Proofs.Ytbomloodllddaaa
