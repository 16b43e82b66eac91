/- Walk: fretsawlaw25.few ends, with some answer. Condition: the program lies in memory. -/
import Derived.Test.YtbomloodllddaaaPk30
import Derived.Test.YtbomloodllddaaaPk34
import Derived.Test.YtbomloodllddaaaPk31
import Derived.Test.YtbomloodllddaaaPk04
namespace Go.Proofs.Ytbomloodllddaaa
open Go.RowKit
set_option maxRecDepth 100000 in
set_option maxHeartbeats 2000000 in
theorem law_few25 (p : Prg) (v : PV) (w : World) (H : PrgAt w v p) : Calls Try.prog 10 #[pgV p v] w fun e w' => ∃ c, e = .returned (.bool c) ∧ Below w.heap.size w w' := by
  have HH := Lib.hid H
  obtain ⟨ac, cc, hvc, hcc, hmc, _⟩ := H.code.open icL_len
  obtain ⟨ax, cx, hvx, hcx, hmx, hcellx⟩ := H.texts.open strC_len25
  obtain ⟨ts, hts, htl, htr⟩ := H.tabs
  obtain ⟨at', ct, hvt, hct, hmt, hcellt⟩ := hts.open (f := tbC) (sz := 2) (fun _ => rfl)
  have HTL := Lib.hid H.tl
  obtain ⟨vc, vt, vx, vs, vk, vv⟩ := v
  dsimp only at hvc hvt hvx
  subst hvc hvt hvx
  obtain ⟨n, hn⟩ : ∃ n, n = p.code.length := ⟨_, rfl⟩
  obtain ⟨m, hm⟩ : ∃ m, m = ts.length := ⟨_, rfl⟩
  obtain ⟨x, hx⟩ : ∃ m, m = p.texts.length := ⟨_, rfl⟩
  have HP : Hid (PBox (w.alloc (.cells (pgC p ⟨.slice ac p.code.length cc, .slice at' ts.length ct, .slice ax p.texts.length cx, vs, vk, vv⟩) 30)) w.heap.size p ⟨.slice ac p.code.length cc, .slice at' ts.length ct, .slice ax p.texts.length cx, vs, vk, vv⟩) := Lib.hid (PBox.new _ _ _)
  have Hb0 : Hid (Below w.heap.size w (w.alloc (.cells (pgC p ⟨.slice ac p.code.length cc, .slice at' ts.length ct, .slice ax p.texts.length cx, vs, vk, vv⟩) 30))) := Lib.hid ((Below.refl _ _).alloc (Nat.le_refl _) _)
  have hmb : m ≤ 9223372036854775807 := by unfold maxLen at hmt; omega
  have hxb : x ≤ 9223372036854775807 := by unfold maxLen at hmx; omega
  have Hm := Lib.hid hm
  have Hx := Lib.hid hx
  rw [← hn, ← hm, ← hx] at HP Hb0
  rw [← hn, ← hm, ← hx]
  have Hts := Lib.hid htr
  have Htl := Lib.hid htl
  have Hct := Lib.hid hcellt
  have Hcx := Lib.hid hcellx
  clear hn hm hx htr htl hcellt hcellx hts hct hmt hcc hmc hcx hmx H HH
  go_enter Try.func10, Try.ntmps10
  repeat' (go_not_at_region 1; first | go_values | go_skip | go_guarded | go_step | go_upon)
  refine gen_world (fun w' => PBox w' w.heap.size p ⟨.slice ac n cc, .slice at' m ct, .slice ax x cx, vs, vk, vv⟩ ∧ Below w.heap.size w w') ⟨HP.out, Hb0.out⟩ ?_
  clear HP Hb0
  rintro wa ⟨j1, j2⟩
  have J1 := Lib.hid j1
  have J2 := Lib.hid j2
  have c4 := j1.cell 4
  have c5 := j1.cell 5
  clear j1 j2
  repeat' (first | go_values | go_skip | go_guarded | go_step | go_upon)
  clear c4 c5
  go_loopw [3, 14] (fun s3 s14 wr => ∃ (k : Nat) (u : Int), s14 = .int .i64 k ∧ s3 = .int .i64 u ∧ k ≤ m ∧ Hid (PBox wr w.heap.size p ⟨.slice ac n cc, .slice at' m ct, .slice ax x cx, vs, vk, vv⟩) ∧ Hid (Below w.heap.size w wr)) (fun _ s14 _ => m - (intOf s14).toNat)
  case atStart => exact ⟨0, _, rfl, rfl, Nat.zero_le _, J1, J2⟩
  case round =>
    clear J1 J2
    obtain ⟨k, u, rfl, rfl, hk, J1, J2⟩ := hrel
    by_cases hlt : k < m
    · have hktl : k < p.tabs.length := by rw [← Htl.out, ← Hm.out]; exact hlt
      have hkts : k < ts.length := by rw [← Hm.out]; exact hlt
      have hti : ts[k]? = some ts[k] := List.getElem?_eq_getElem hkts
      obtain ⟨e1, _, hrow⟩ := Hts.out k _ _ hti (List.getElem?_eq_getElem hktl)
      rcases Hct.out with h0 | ⟨bt, ot, hat, hbt, hclt⟩
      · have := Hm.out; omega
      subst hat
      obtain ⟨t0, t1⟩ := tab_cells hclt hti
      generalize p.tabs[k] = tab at *
      obtain ⟨q, dl⟩ := tab
      generalize ts[k] = tt at *
      obtain ⟨q', vd⟩ := tt
      dsimp only at e1 hrow t0 t1
      obtain ⟨ad, cd, hvd, hcd, hmd⟩ := hrow.slice
      subst hvd e1
      rw [← J2.out.cell (show bt < w.heap.size from hbt)] at t0 t1
      have hb4 : Below wr.heap.size wr (wr.alloc (.cells #[.int .i64 q', .slice ad dl.length cd] 54)) := (Below.refl _ _).alloc (Nat.le_refl _) _
      have K1 := Lib.hid (J1.out.keep hb4)
      have K2 := Lib.hid (J2.out.trans (hb4.mono J2.out.size))
      clear hrow hcd hmd hti hclt hb4 J1 J2
      repeat' (first | go_values | go_skip | go_guarded | go_step | go_upon)
      go_roundw
      case rel => exact ⟨k + 1, _, by go_num, rfl, hlt, K1, K2⟩
      case measure => simp [intOf]; omega
    · obtain rfl : k = m := by omega
      have c6 := J1.out.cell 6
      repeat' (first | go_values | go_skip | go_guarded | go_step | go_upon)
      clear c6
      go_loopw [3, 27] (fun s3 s27 wr => ∃ (k : Nat) (u : Int), s27 = .int .i64 k ∧ s3 = .int .i64 u ∧ k ≤ x ∧ Hid (Below w.heap.size w wr)) (fun _ s27 _ => x - (intOf s27).toNat)
      case atStart => exact ⟨0, _, rfl, rfl, Nat.zero_le _, J2⟩
      case round =>
        clear J1 J2
        obtain ⟨k, u, rfl, rfl, hk, J2⟩ := hrel
        by_cases hlt : k < x
        · have hkx : k < p.texts.length := by rw [← Hx.out]; exact hlt
          rcases Hcx.out with h0 | ⟨bt, ot, hat, hbt, hclt⟩
          · have := Hx.out; omega
          subst hat
          have t0 := hclt k _ 0 (List.getElem?_eq_getElem hkx) (by decide)
          rw [Nat.mul_one, Nat.add_zero] at t0
          have tl := HTL.out _ (List.getElem_mem hkx)
          generalize p.texts[k] = tx at *
          have t1 : wr.cell? ⟨bt, ot + k, none⟩ = some (.string ⟨tx.toArray⟩) := by rw [J2.out.cell (show bt < w.heap.size from hbt)]; exact t0
          clear t0 hclt
          repeat' (first | go_values | go_skip | go_guarded | go_step | go_upon)
          go_roundw
          case rel => exact ⟨k + 1, _, by go_num, rfl, hlt, J2⟩
          case measure => simp [intOf]; omega
        · obtain rfl : k = x := by omega
          repeat' (first | go_values | go_skip | go_guarded | go_step | go_upon)
          go_ret
          exact ⟨_, rfl, J2.out⟩
end Go.Proofs.Ytbomloodllddaaa
/- Walk: a program is written as bytes, by the reference (fretsawref25.Encode, P25.1). Condition: the program lies in memory. -/
namespace Go.Proofs.Ytbomloodllddaaa
open Go.RowKit
/-- the program in the call's variable -/
structure E1 (w0 : World) (p : Prg) (v : PV) (gp : Nat) (w : World) : Prop where
  bel : Below w0.heap.size w0 w
  box : PBox w gp p v
theorem E1.step {w0 w w' : World} {p : Prg} {v : PV} {gp : Nat} (h : E1 w0 p v gp w) (hb : Below w.heap.size w w') : E1 w0 p v gp w' := ⟨h.bel.trans (hb.mono h.bel.size), h.box.keep hb⟩
theorem ref_PutText_l (x : List UInt8) (hs : x.length ≤ 1000000000000000) (w : World) :
    Calls Try.prog 35 #[.string ⟨x.toArray⟩] w fun e w' => e = .returned (.string ⟨(vput x.length ++ x).toArray⟩) ∧ Below w.heap.size w w' := by
  have h := ref_PutText ⟨x.toArray⟩ (by simpa [ByteArray.size] using hs) w
  simpa [ByteArray.size] using h
set_option maxRecDepth 100000 in
set_option maxHeartbeats 4000000 in
theorem r25_Encode (p : Prg) (v : PV) (w : World) (H : PrgAt w v p) : Calls Try.prog 12 #[pgV p v] w fun e w' => e = .returned (.tuple #[.string ⟨(encI p).1.toArray⟩, .int .i64 (encI p).2]) ∧ Below w.heap.size w w' := by
  have HH := Lib.hid H
  have HF := Lib.hid H.forms
  have HA := Lib.hid fun w H => r25_Writable p v w H
  have HP : Hid (PBox (w.alloc (.cells (pgC p v) 30)) w.heap.size p v) := Lib.hid (PBox.new _ _ _)
  have Hb0 : Hid (Below w.heap.size w (w.alloc (.cells (pgC p v) 30))) := Lib.hid ((Below.refl _ _).alloc (Nat.le_refl _) _)
  have HE : Hid (encI p = if writI p ≠ 0 then ([], writI p) else putP (secsI p)) := Lib.hid rfl
  have HW : Hid (writI p = 0 → Wrt p) := Lib.hid fun h => writ_wrt h
  generalize encI p = G at HE ⊢
  generalize writI p = e1 at HA HE HW
  obtain ⟨ac, cc, at', ct, ax, cx, as', cs, ak, ck, av, cv, hv⟩ := HF.out
  have HV := Lib.hid hv
  clear H HF hv
  obtain ⟨vc, vt, vx, vs, vk, vv⟩ := v
  by_cases hz : e1 = 0
  rotate_left
  · have HG : Hid (G = ([], e1)) := Lib.hid (by rw [HE.out, if_pos hz])
    have hne : (e1 != 0) = true := by rw [bne_iff_ne]; exact hz
    clear HE HW hz
    go_enter Try.func12, Try.ntmps12
    repeat' (first | (with_reducible refine load_pg HP.out _ rfl rfl ?_) | go_values | go_skip | go_guarded | go_step | go_upon)
    refine Calls.mono (HA.out _ (HH.out.keep Hb0.out)) ?_
    rintro _ w1 ⟨rfl, hb1⟩
    dsimp only
    have B1 := Lib.hid (Hb0.out.trans (hb1.mono Hb0.out.size))
    clear hb1 HP Hb0 HA
    repeat' (first | go_values | go_skip | go_guarded | go_step | go_upon)
    go_ret2
    exact ⟨ret_pi HG.out.symm, B1.out⟩
  subst hz
  have HG : Hid (G = putP (secsI p)) := Lib.hid (by rw [HE.out]; rfl)
  have HR := Lib.hid (HW.out rfl)
  clear HE HW
  simp only [PV.mk.injEq] at HV
  obtain ⟨hv1, hv2, hv3, hv4, hv5, hv6⟩ := HV.out
  have h1 := Lib.hid hv1
  have h2 := Lib.hid hv2
  have h3 := Lib.hid hv3
  have h4 := Lib.hid hv4
  have h5 := Lib.hid hv5
  have h6 := Lib.hid hv6
  clear hv1 hv2 hv3 hv4 hv5 hv6 HV
  obtain ⟨gp, hgp⟩ : ∃ g, g = w.heap.size := ⟨_, rfl⟩
  go_enter Try.func12, Try.ntmps12
  repeat' (first | (with_reducible refine load_pg HP.out _ rfl rfl ?_) | go_values | go_skip | go_guarded | go_step | go_upon)
  refine Calls.mono (HA.out _ (HH.out.keep Hb0.out)) ?_
  rintro _ w1 ⟨rfl, hb1⟩
  dsimp only
  have P1 := Lib.hid (HP.out.keep hb1)
  have B1 := Lib.hid (Hb0.out.trans (hb1.mono Hb0.out.size))
  rw [← hgp] at P1 ⊢
  clear hb1 HP Hb0 HA hgp
  have c4 : w1.cell? ⟨gp, 4, none⟩ = some vc := P1.out.cell 4
  rw [h1.out] at c4
  have HC := Lib.hid (by have h := (HH.out.keep B1.out).code; dsimp only at h; rw [h1.out] at h; exact rg_Put _ _ _ h)
  rw [HR.out.code] at HC
  repeat' (first | go_values | go_skip | go_guarded | go_step | go_upon)
  refine Calls.mono (HC.out) ?_
  rintro _ w2 ⟨rfl, hb2⟩
  dsimp only
  have HE2 : Hid (E1 w p ⟨vc, vt, vx, vs, vk, vv⟩ gp w2) := Lib.hid ⟨B1.out.trans (hb2.mono B1.out.size), P1.out.keep hb2⟩
  clear hb2 P1 B1 HC c4
  have HS : Hid (secsI p = [(1, sec1 p), (2, (putI p.code).1), (3, sec3 p), (4, sec4 p), (5, sec5 p)]) := Lib.hid rfl
  generalize (putI p.code).1 = cb at HS ⊢
  have c5 : w2.cell? ⟨gp, 5, none⟩ = some vt := HE2.out.box.cell 5
  rw [h2.out] at c5
  obtain ⟨nt, hnt⟩ : ∃ n, n = p.tabs.length := ⟨_, rfl⟩
  have hn16 := HR.out.nt
  rw [← hnt] at c5 hn16
  have hku := u64_small (n := nt) (by omega)
  have hkw : IntKind.u64.wrap (nt : Int) = nt := wu64 (by omega) hku
  have Hnt := Lib.hid hnt
  clear hnt
  repeat' (first | go_values | go_skip | go_guarded | go_step | go_upon)
  refine Calls.mono (ref_Put nt _ hku) ?_
  rintro _ w3 ⟨rfl, hb3⟩
  dsimp only
  have HE3 := Lib.hid (HE2.out.step hb3)
  rw [show vput nt = tabsTo p 0 from by rw [tabsTo_zero, ← Hnt.out]]
  clear HE2 c5 hb3 hku hkw w2
  have c5 : w3.cell? ⟨gp, 5, none⟩ = some vt := HE3.out.box.cell 5
  rw [h2.out, ← Hnt.out] at c5
  obtain ⟨ts, hts, htl, htr⟩ := HH.out.tabs
  dsimp only at hts
  have Htl := Lib.hid htl
  have Htr := Lib.hid htr
  obtain ⟨at2, ct2, hvt2, _, _, hcellt⟩ := hts.open (f := tbC) (sz := 2) (fun _ => rfl)
  have hta : at2 = at' := by
    have := h2.out.symm.trans hvt2
    injection this with e1 e2 e3
    exact e1.symm
  subst hta
  have HTL : Hid (∀ k, k ≤ nt → (tabsTo p k).length ≤ 10 + 4000020 * k) := Lib.hid fun k hk => tabsTo_len HR.out k (by rw [← Hnt.out]; exact hk)
  have HTS : Hid (∀ k, k < nt → tabsTo p (k + 1) = tabsTo p k ++ tabB (p.tabs.getD k (0, []))) := Lib.hid fun k hk => tabsTo_succ p k (by rw [← Hnt.out]; exact hk)
  have HTA : Hid (tabsTo p nt = sec3 p) := Lib.hid (by unfold sec3; rw [Hnt.out])
  have Hct := Lib.hid hcellt
  clear hts htl htr hvt2 hcellt
  repeat' (first | go_values | go_skip | go_guarded | go_step | go_upon)
  clear c5
  go_loopw [7, 35] (fun s7 s35 wr => ∃ k : Nat, s7 = .string ⟨(tabsTo p k).toArray⟩ ∧ s35 = .int .i64 k ∧ k ≤ nt ∧ Hid (E1 w p ⟨vc, vt, vx, vs, vk, vv⟩ gp wr)) (fun _ s35 _ => nt - (intOf s35).toNat)
  case atStart => exact ⟨0, rfl, rfl, Nat.zero_le _, HE3⟩
  case round =>
    clear HE3
    obtain ⟨k, rfl, rfl, hk, HK⟩ := hrel
    by_cases hlt : k < nt
    · rcases Hct.out with h0 | ⟨b, off, rfl, hbB, hcellt⟩
      · have := Htl.out; have := Hnt.out; omega
      obtain ⟨t, ht⟩ : ∃ t, ts[k]? = some t := ⟨_, List.getElem?_eq_getElem (by rw [Htl.out, ← Hnt.out]; exact hlt)⟩
      obtain ⟨d, hd⟩ : ∃ d, p.tabs[k]? = some d := ⟨_, List.getElem?_eq_getElem (by rw [← Hnt.out]; exact hlt)⟩
      obtain ⟨e1, _, hrow⟩ := Htr.out k t d ht hd
      obtain ⟨k0, k1⟩ := tab_cells hcellt ht
      have hdd : p.tabs.getD k (0, []) = d := by rw [List.getD_eq_getElem?_getD, hd]; rfl
      obtain ⟨hq1, hq2, hq3⟩ := HR.out.tab k (by rw [← Hnt.out]; exact hlt)
      have HS1 := Lib.hid (HTS.out k hlt)
      rw [hdd] at hq1 hq2 hq3 HS1
      obtain ⟨c, hc⟩ : ∃ c : Nat, d.1 = (c : Int) := ⟨d.1.toNat, by omega⟩
      have HTb : Hid (vput c ++ vputs (natsI d.2) = tabB d) := Lib.hid (by unfold tabB; rw [hc]; rfl)
      rw [e1, hc] at k0
      rw [hc] at hq1
      have Hrow := Lib.hid hrow
      have Hq3 := Lib.hid hq3
      obtain ⟨ad, cd, hvd, _, _⟩ := hrow.slice
      rw [hvd] at k1 Hrow
      rw [← HK.out.bel.cell (show b < w.heap.size from hbB)] at k0 k1
      have hku := u64_small (n := c) (by omega)
      have hkw : IntKind.u64.wrap (c : Int) = c := wu64 (by omega) hku
      have hlk := HTL.out k (by omega)
      have hl1 := vput_len10 hku
      have hl2 : (vputs (natsI d.2)).length ≤ 4000010 := by have := vputs_len (natsI_u64 Hq3.out) (by rw [natsI_len]; omega); rw [natsI_len] at this; omega
      replace hlk : (tabsTo p k).length ≤ 100000000 := by omega
      have HTk : Hid ((⟨(tabsTo p k).toArray⟩ : ByteArray) ++ ⟨(vput c).toArray⟩ ++ ⟨(vputs (natsI d.2)).toArray⟩ = ⟨(tabsTo p (k + 1)).toArray⟩) := Lib.hid (by rw [ba_append2, ba_append2, HS1.out, ← HTb.out, List.append_assoc])
      generalize tabsTo p k = tk at hlk HTk ⊢
      clear hvd hrow hq3 hdd e1 ht hd hcellt HS1 HTb
      repeat' (first | go_values | go_skip | go_guarded | go_step | go_upon)
      refine gen_world (fun w' => E1 w p ⟨vc, vt, vx, vs, vk, vv⟩ gp w' ∧ TBox w' wr.heap.size c (.slice ad d.2.length cd)) ⟨HK.out.step ((Below.refl _ _).alloc (Nat.le_refl _) _), TBox.new _ _ _⟩ ?_
      rintro wx ⟨hx1, hx2⟩
      have HX := Lib.hid hx1
      have q0 : ∀ nq : WB wx, nq.1.cell? ⟨wr.heap.size, 0, none⟩ = some (.int .i64 (c : Int)) := fun nq => (hx2.keep nq.2).two.1
      have q1 : ∀ nq : WB wx, nq.1.cell? ⟨wr.heap.size, 1, none⟩ = some (.slice ad d.2.length cd) := fun nq => (hx2.keep nq.2).two.2
      have HP1 := Lib.hid fun w => ref_Put c w hku
      have HN1 := Lib.hid fun nq : WB wx => r25_numbers (.slice ad d.2.length cd) d.2 Hq3.out (by omega) nq.1 (Hrow.out.keep ((HX.out.step nq.2).bel))
      clear hx1 hx2 k0 k1 HK
      refine wp_region_wb (by kernel_rfl) (by kernel_rfl) wx (Below.refl _ _) ?_
      repeat (go_big_quiet_step ((first | (go_at_call 33; exact calls_wb (HP1.out _)) | (go_at_call 34; exact calls_wb (HN1.out _)))))
      refine wpQuiet_nil ?_
      rintro _ ⟨nq, rfl⟩
      have hnq := nq.2
      have HX2 := Lib.hid (HX.out.step hnq)
      clear q0 q1 HP1 HN1 HX
      rw [HTk.out]
      repeat' (first | go_values | go_skip | go_guarded | go_step | go_upon)
      go_roundw
      case rel => exact ⟨k + 1, rfl, by go_num, by omega, HX2⟩
      case measure => simp [intOf]; omega
    · obtain rfl : k = nt := by omega
      rw [HTA.out]
      clear hk hlt Hct Htl Htr HTL HTS HTA hn16 Hnt
      have c6 : wr.cell? ⟨gp, 6, none⟩ = some vx := HK.out.box.cell 6
      rw [h3.out] at c6
      obtain ⟨nx, hnx⟩ : ∃ n, n = p.texts.length := ⟨_, rfl⟩
      have hnx16 := HR.out.nx
      rw [← hnx] at c6 hnx16
      have hku := u64_small (n := nx) (by omega)
      have hkw : IntKind.u64.wrap (nx : Int) = nx := wu64 (by omega) hku
      have Hnx := Lib.hid hnx
      clear hnx
      repeat' (first | go_values | go_skip | go_guarded | go_step | go_upon)
      refine Calls.mono (ref_Put nx _ hku) ?_
      rintro _ w5 ⟨rfl, hb5⟩
      dsimp only
      have HK5 := Lib.hid (HK.out.step hb5)
      rw [show vput nx = textsTo p 0 from by rw [textsTo_zero, ← Hnx.out]]
      clear HK c6 hb5 hku hkw
      have c6 : w5.cell? ⟨gp, 6, none⟩ = some vx := HK5.out.box.cell 6
      rw [h3.out, ← Hnx.out] at c6
      obtain ⟨ax2, cx2, hvx2, _, _, hcellx⟩ := HH.out.texts.open strC_len25
      dsimp only at hvx2
      have hxa : ax2 = ax := by
        have := h3.out.symm.trans hvx2
        injection this with e1 e2 e3
        exact e1.symm
      subst hxa
      have HTL : Hid (∀ k, k ≤ nx → (textsTo p k).length ≤ 10 + 4106 * k) := Lib.hid fun k hk => textsTo_len HR.out k (by rw [← Hnx.out]; exact hk)
      have HTS : Hid (∀ k, k < nx → textsTo p (k + 1) = textsTo p k ++ txtB (p.texts.getD k [])) := Lib.hid fun k hk => textsTo_succ p k (by rw [← Hnx.out]; exact hk)
      have HTB : Hid (∀ k, k < nx → (p.texts.getD k []).length ≤ 4096 ∧ (txtB (p.texts.getD k [])).length ≤ 4106) := Lib.hid fun k hk => ⟨HR.out.txt k (by rw [← Hnx.out]; exact hk), txtB_len HR.out k (by rw [← Hnx.out]; exact hk)⟩
      have HTA : Hid (textsTo p nx = sec4 p) := Lib.hid (by unfold sec4; rw [Hnx.out])
      rw [← Hnx.out] at hcellx
      have Hcx := Lib.hid hcellx
      clear hvx2 hcellx
      repeat' (first | go_values | go_skip | go_guarded | go_step | go_upon)
      clear c6
      go_loopw [10, 58] (fun s10 s58 wr => ∃ k : Nat, s10 = .string ⟨(textsTo p k).toArray⟩ ∧ s58 = .int .i64 k ∧ k ≤ nx ∧ Hid (E1 w p ⟨vc, vt, vx, vs, vk, vv⟩ gp wr)) (fun _ s58 _ => nx - (intOf s58).toNat)
      case atStart => exact ⟨0, rfl, rfl, Nat.zero_le _, HK5⟩
      case round =>
        clear HK5
        obtain ⟨k, rfl, rfl, hk, HK⟩ := hrel
        by_cases hlt : k < nx
        · rcases Hcx.out with h0 | ⟨b, off, rfl, hbB, hcell⟩
          · omega
          obtain ⟨x, hx⟩ : ∃ x, p.texts[k]? = some x := ⟨_, List.getElem?_eq_getElem (by rw [← Hnx.out]; exact hlt)⟩
          have hxx : p.texts.getD k [] = x := by rw [List.getD_eq_getElem?_getD, hx]; rfl
          have k0 := hcell k x 0 hx (by decide)
          rw [Nat.mul_one, Nat.add_zero] at k0
          obtain ⟨hB0, hB1⟩ := HTB.out k hlt
          have HS1 := Lib.hid (HTS.out k hlt)
          rw [hxx] at hB0 hB1 HS1
          have k1 : wr.cell? ⟨b, off + k, none⟩ = some (.string ⟨x.toArray⟩) := by rw [HK.out.bel.cell (show b < w.heap.size from hbB)]; exact k0
          have hlk := HTL.out k (by omega)
          replace hlk : (textsTo p k).length ≤ 100000000 := by omega
          have HTk : Hid ((⟨(textsTo p k).toArray⟩ : ByteArray) ++ ⟨(txtB x).toArray⟩ = ⟨(textsTo p (k + 1)).toArray⟩) := Lib.hid (by rw [ba_append2, HS1.out])
          generalize textsTo p k = tk at hlk HTk ⊢
          clear hx hxx k0 hcell hbB HS1
          repeat' (first | go_values | go_skip | go_guarded | go_step | go_upon)
          refine Calls.mono (ref_PutText_l x (by omega) _) ?_
          rintro _ w7 ⟨rfl, hb7⟩
          dsimp only
          have HX := Lib.hid (HK.out.step hb7)
          rw [show vput x.length ++ x = txtB x from rfl]
          clear HK hb7 k1
          repeat' (first | go_values | go_skip | go_guarded | go_step | go_upon)
          rw [HTk.out]
          go_roundw
          case rel => exact ⟨k + 1, rfl, by go_num, by omega, HX⟩
          case measure => simp [intOf]; omega
        · obtain rfl : k = nx := by omega
          rw [HTA.out]
          clear hk hlt Hcx HTL HTS HTB HTA hnx16 Hnx
          have c7 : wr.cell? ⟨gp, 7, none⟩ = some vs := HK.out.box.cell 7
          rw [h4.out] at c7
          have c7' : (wr.alloc (.cells #[] 66)).cell? ⟨gp, 7, none⟩ = some vs := (HK.out.step ((Below.refl _ _).alloc (Nat.le_refl _) _)).box.cell 7
          rw [h4.out] at c7'
          obtain ⟨ns, hns⟩ : ∃ n, n = p.hash.seeds.length := ⟨_, rfl⟩
          have hns16 := HR.out.nk.1
          rw [← hns] at c7 c7' hns16
          obtain ⟨as2, cs2, hvs2, _, _, hcells⟩ := HH.out.hash.seeds.open u32C_len25
          dsimp only at hvs2
          have hsa : as2 = as' := by
            have := h4.out.symm.trans hvs2
            injection this with e1 e2 e3
            exact e1.symm
          subst hsa
          have Hns := Lib.hid hns
          rw [← hns] at hcells
          have Hcs := Lib.hid hcells
          clear hns hvs2 hcells
          obtain ⟨wB, hwB⟩ : ∃ x, x = wr := ⟨_, rfl⟩
          have HKB : Hid (E1 w p ⟨vc, vt, vx, vs, vk, vv⟩ gp wB) := Lib.hid (by rw [hwB]; exact HK.out)
          have HbB : Hid (Below wB.heap.size wB wr) := Lib.hid (by rw [hwB]; exact Below.refl _ _)
          have hBs : wB.heap.size ≤ wr.heap.size := by rw [hwB]; exact Nat.le_refl _
          clear hwB HK
          repeat' (first | go_values | go_skip | go_guarded | go_step | go_upon)
          clear c7 c7'
          go_loopw [13, 72] (fun s13 s72 wr => ∃ k : Nat, s72 = .int .i64 k ∧ k ≤ ns ∧ Hid (OwnI wB.heap.size 66 .u64 wr s13 (nats (p.hash.seeds.take k))) ∧ Hid (Below wB.heap.size wB wr)) (fun _ s72 _ => ns - (intOf s72).toNat)
          case atStart => exact ⟨0, rfl, Nat.zero_le _, Lib.hid (OwnI.lit wr [] hBs 0 rfl (by unfold maxLen; omega)), Lib.hid (HbB.out.alloc hBs _)⟩
          case round =>
            clear HbB hBs
            obtain ⟨k, rfl, hk, Ho, Hb⟩ := hrel
            have hsz := Hb.out.size
            by_cases hlt : k < ns
            · rcases Hcs.out with h0 | ⟨b, off, rfl, hbB, hcell⟩
              · omega
              obtain ⟨x, hx⟩ : ∃ x, p.hash.seeds[k]? = some x := ⟨_, List.getElem?_eq_getElem (by rw [← Hns.out]; exact hlt)⟩
              have hxx : p.hash.seeds.getD k 0 = x := by rw [List.getD_eq_getElem?_getD, hx]; rfl
              have k0 := hcell k x 0 hx (by decide)
              rw [Nat.mul_one, Nat.add_zero] at k0
              have k1 : wr.cell? ⟨b, off + k, none⟩ = some (.int .u32 (x : Int)) := by rw [Hb.out.cell (show b < wB.heap.size from by have := HKB.out.bel.size; omega), HKB.out.bel.cell (show b < w.heap.size from hbB)]; exact k0
              have hb32 := HH.out.hash.sb k
              rw [hxx] at hb32
              have hku := u64_small (n := x) (by omega)
              have hkw : IntKind.u64.wrap (x : Int) = x := wu64 (by omega) hku
              have Hs := Lib.hid (taken_d p.hash.seeds 0 k (by rw [← Hns.out]; exact hlt))
              rw [hxx] at Hs
              have Hlen : (nats (p.hash.seeds.take k)).length ≤ k := by rw [nats_len, List.length_take]; omega
              obtain ⟨L, hL⟩ : ∃ L, L = nats (p.hash.seeds.take k) := ⟨_, rfl⟩
              rw [← hL] at Ho Hlen
              have HLe : Hid (nats (p.hash.seeds.take (k + 1)) = L ++ [(x : Int)]) := Lib.hid (by rw [Hs.out, nats_append, hL]; rfl)
              clear hL Hs hb32 hku hxx hx k0 hcell hbB
              repeat' (first | (at_builtin; refine app_ints wB.heap.size 8 [_] Try.underlying26 info_u64N (by decide) rfl _ _ rfl rfl rfl rfl rfl Ho.out hsz (by omega) ?_; intro v1 w1 hown1 hb1 _) | go_values | go_skip | go_guarded | go_step | go_upon)
              go_roundw
              case rel => exact ⟨k + 1, by go_num, by omega, Lib.hid (by rw [HLe.out]; exact hown1), Lib.hid (Hb.out.trans hb1)⟩
              case measure => simp [intOf]; omega
            · obtain rfl : k = ns := by omega
              rw [Hns.out, List.take_length] at Ho
              clear hk hlt Hcs hns16 Hns
              have HK := Lib.hid (HKB.out.step Hb.out)
              have q0 : ∀ nq : WB wr, nq.1.cell? ⟨gp, 0, none⟩ = some (.int .i64 p.grow) := fun nq => (HK.out.step nq.2).box.cell 0
              have q1 : ∀ nq : WB wr, nq.1.cell? ⟨gp, 1, none⟩ = some (.int .i64 p.rest) := fun nq => (HK.out.step nq.2).box.cell 1
              have q2 : ∀ nq : WB wr, nq.1.cell? ⟨gp, 2, none⟩ = some (.int .i64 p.extra) := fun nq => (HK.out.step nq.2).box.cell 2
              have q3 : ∀ nq : WB wr, nq.1.cell? ⟨gp, 3, none⟩ = some (.int .i64 p.signs) := fun nq => (HK.out.step nq.2).box.cell 3
              have q8 : ∀ nq : WB wr, nq.1.cell? ⟨gp, 8, none⟩ = some vk := fun nq => (HK.out.step nq.2).box.cell 8
              have q9 : ∀ nq : WB wr, nq.1.cell? ⟨gp, 9, none⟩ = some vv := fun nq => (HK.out.step nq.2).box.cell 9
              repeat' (go_not_at_region 23; first | go_values | go_skip | go_guarded | go_step | go_upon)
              refine wp_region_anyC (by kernel_rfl) wr ?_
              refine wpAnyC_take (i := 0) (v := _) rfl (by kernel_rfl) (by kernel_rfl) (by kernel_rfl) (fun _ _ _ h => h) (Or.inl ⟨by rfl, fun w ⟨nq, hw⟩ => by (subst hw; go_simp <;> with_reducible rfl)⟩) (by go_simp <;> with_reducible rfl) ?_
              refine wpAnyC_take (i := 1) (v := _) rfl (by kernel_rfl) (by kernel_rfl) (by kernel_rfl) (fun _ _ _ h => h) (Or.inl ⟨by rfl, fun w ⟨nq, hw⟩ => by (subst hw; go_simp <;> with_reducible rfl)⟩) (by go_simp <;> with_reducible rfl) ?_
              refine wpAnyC_take (i := 2) (v := _) rfl (by kernel_rfl) (by kernel_rfl) (by kernel_rfl) (fun _ _ _ h => h) (Or.inl ⟨by rfl, fun w ⟨nq, hw⟩ => by (subst hw; go_simp <;> with_reducible rfl)⟩) (by go_simp <;> with_reducible rfl) ?_
              refine wpAnyC_take (i := 3) (v := _) rfl (by kernel_rfl) (by kernel_rfl) (by kernel_rfl) (fun _ _ _ h => h) (Or.inl ⟨by rfl, fun w ⟨nq, hw⟩ => by (subst hw; go_simp <;> with_reducible rfl)⟩) (by go_simp <;> with_reducible rfl) ?_
              refine wpAnyC_take (i := 4) (v := _) rfl (by kernel_rfl) (by kernel_rfl) (by kernel_rfl) (fun _ _ _ h => h) (Or.inl ⟨by rfl, fun w ⟨nq, hw⟩ => by (subst hw; go_simp <;> with_reducible rfl)⟩) (by go_simp <;> with_reducible rfl) ?_
              refine wpAnyC_take (i := 5) (v := _) rfl (by kernel_rfl) (by kernel_rfl) (by kernel_rfl) (fun _ _ _ h => h) (Or.inl ⟨by rfl, fun w ⟨nq, hw⟩ => by (subst hw; go_simp <;> with_reducible rfl)⟩) (by go_simp <;> with_reducible rfl) ?_
              refine wpAnyC_take (i := 6) (v := _) rfl (by kernel_rfl) (by kernel_rfl) (by kernel_rfl) (fun _ _ _ h => h) (Or.inl ⟨by rfl, fun w ⟨nq, hw⟩ => by (subst hw; go_simp <;> with_reducible rfl)⟩) (by go_simp <;> with_reducible rfl) ?_
              refine wpAnyC_take (i := 7) (v := _) rfl (by kernel_rfl) (by kernel_rfl) (by kernel_rfl) (fun _ _ _ h => h) (Or.inl ⟨by rfl, fun w ⟨nq, hw⟩ => by (subst hw; go_simp <;> with_reducible rfl)⟩) (by go_simp <;> with_reducible rfl) ?_
              refine wpAnyC_take (i := 11) (v := _) rfl (by kernel_rfl) (by kernel_rfl) (by kernel_rfl) (fun _ _ _ h => h) (Or.inl ⟨by rfl, fun w ⟨nq, hw⟩ => by (subst hw; go_simp <;> with_reducible rfl)⟩) (by go_simp <;> with_reducible rfl) ?_
              refine wpAnyC_take (i := 12) (v := _) rfl (by kernel_rfl) (by kernel_rfl) (by kernel_rfl) (fun _ _ _ h => h) (Or.inl ⟨by rfl, fun w ⟨nq, hw⟩ => by (subst hw; go_simp <;> with_reducible rfl)⟩) (by go_simp <;> with_reducible rfl) ?_
              refine wpAnyC_take (i := 13) (v := _) rfl (by kernel_rfl) (by kernel_rfl) (by kernel_rfl) (fun _ _ _ h => h) (Or.inl ⟨by rfl, fun w ⟨nq, hw⟩ => by (subst hw; go_simp <;> with_reducible rfl)⟩) (by go_simp <;> with_reducible rfl) ?_
              refine wpAnyC_take (i := 14) (v := _) rfl (by kernel_rfl) (by kernel_rfl) (by kernel_rfl) (fun _ _ _ h => h) (Or.inl ⟨by rfl, fun w ⟨nq, hw⟩ => by (subst hw; go_simp <;> with_reducible rfl)⟩) (by go_simp <;> with_reducible rfl) ?_
              refine wpAnyC_take (i := 15) (v := _) rfl (by kernel_rfl) (by kernel_rfl) (by kernel_rfl) (fun _ _ _ h => h) (Or.inl ⟨by rfl, fun w ⟨nq, hw⟩ => by (subst hw; go_simp <;> with_reducible rfl)⟩) (by go_simp <;> with_reducible rfl) ?_
              refine wpAnyC_take (i := 16) (v := _) rfl (by kernel_rfl) (by kernel_rfl) (by kernel_rfl) (fun _ _ _ h => h) (Or.inl ⟨by rfl, fun w ⟨nq, hw⟩ => by (subst hw; go_simp <;> with_reducible rfl)⟩) (by go_simp <;> with_reducible rfl) ?_
              refine wpAnyC_take (i := 17) (v := _) rfl (by kernel_rfl) (by kernel_rfl) (by kernel_rfl) (fun _ _ _ h => h) (Or.inl ⟨by rfl, fun w ⟨nq, hw⟩ => by (subst hw; go_simp <;> with_reducible rfl)⟩) (by go_simp <;> with_reducible rfl) ?_
              refine wpAnyC_take (i := 19) (v := _) rfl (by kernel_rfl) (by kernel_rfl) (by kernel_rfl) (fun _ _ _ h => h) (Or.inl ⟨by rfl, fun w ⟨nq, hw⟩ => by (subst hw; go_simp <;> with_reducible rfl)⟩) (by go_simp <;> with_reducible rfl) ?_
              refine wpAnyC_take (i := 20) (v := _) rfl (by kernel_rfl) (by kernel_rfl) (by kernel_rfl) (fun _ _ _ h => h) (Or.inl ⟨by rfl, fun w ⟨nq, hw⟩ => by (subst hw; go_simp <;> with_reducible rfl)⟩) (by go_simp <;> with_reducible rfl) ?_
              refine wpAnyC_take (i := 21) (v := _) rfl (by kernel_rfl) (by kernel_rfl) (by kernel_rfl) (fun _ _ _ h => h) (Or.inl ⟨by rfl, fun w ⟨nq, hw⟩ => by (subst hw; go_simp <;> with_reducible rfl)⟩) (by go_simp <;> with_reducible rfl) ?_
              refine wpAnyC_take (i := 24) (v := _) rfl (by kernel_rfl) (by kernel_rfl) (by kernel_rfl) (fun _ _ _ h => h) (Or.inl ⟨by rfl, fun w ⟨nq, hw⟩ => by (subst hw; go_simp <;> with_reducible rfl)⟩) (by go_simp <;> with_reducible rfl) ?_
              refine wpAnyC_take (i := 25) (v := _) rfl (by kernel_rfl) (by kernel_rfl) (by kernel_rfl) (fun _ _ _ h => h) (Or.inl ⟨by rfl, fun w ⟨nq, hw⟩ => by (subst hw; go_simp <;> with_reducible rfl)⟩) (by go_simp <;> with_reducible rfl) ?_
              refine wpAnyC_take (i := 26) (v := _) rfl (by kernel_rfl) (by kernel_rfl) (by kernel_rfl) (fun _ _ _ h => h) (Or.inl ⟨by rfl, fun w ⟨nq, hw⟩ => by (subst hw; go_simp <;> with_reducible rfl)⟩) (by go_simp <;> with_reducible rfl) ?_
              clear q0 q1 q2 q3 q8 q9 HKB
              refine genG (fun W => Below wr.heap.size wr W) ((Below.refl _ _).drew) ?_
              intro W0 hb0
              have C0 := Lib.hid hb0
              clear hb0
              refine wpAnyC_ready (CW.of (C0.out)) (rs := [8]) (by kernel_rfl) (by simp) ?_
              refine (AllReadyC.cons rfl (fun K hK => ?_) AllReadyC.nil)
              go_simp
              refine hK _ _ ?_
              clear hK K
              refine genG (fun W => Below W0.heap.size W0 W ∧ RowOf intC 1 W (.slice (some ⟨W0.heap.size, 0, none⟩) 4 4) [p.grow, p.rest, p.extra, p.signs]) ⟨(Below.refl _ _).alloc (Nat.le_refl _) _, row_four W0 _ _ _ _ _⟩ ?_
              rintro W1 ⟨hb1, hr1⟩
              have C1 : Hid (Below wr.heap.size wr W1) := Lib.hid (C0.out.trans (hb1.mono C0.out.size))
              have HN := Lib.hid (r25_numbers _ _ HR.out.num (by simp) W1 hr1)
              rw [show vputs (natsI [p.grow, p.rest, p.extra, p.signs]) = sec1 p from rfl] at HN
              clear hb1 C0 hr1
              refine wpAnyC_ready (CW.of (C1.out)) (rs := [9]) (by kernel_rfl) (by simp) ?_
              refine (AllReadyC.cons rfl (fun K hK => ?_) AllReadyC.nil)
              go_simp
              refine Calls.mono (HN.out) ?_
              rintro _ W2 ⟨rfl, hb2⟩
              dsimp only
              refine hK _ _ ?_
              clear hK K
              have C2 : Hid (Below wr.heap.size wr W2) := Lib.hid (C1.out.trans (hb2.mono C1.out.size))
              clear hb2 C1 HN
              refine wpAnyC_take (i := 10) (v := _) rfl (by kernel_rfl) (by kernel_rfl) (by kernel_rfl) (fun _ _ _ h => h) (Or.inl ⟨by rfl, fun w ⟨nq, hw⟩ => by (subst hw; go_simp <;> with_reducible rfl)⟩) (by go_simp <;> with_reducible rfl) ?_
              have hl1 := vputs_len (l := p.hash.seeds) (getD_u64 fun k => u64_small (by have := HH.out.hash.sb k; omega)) (by have := HR.out.nk; omega)
              have hl2 := vputs_len (l := p.hash.keys) (getD_u64 HH.out.hash.kb) (by have := HR.out.nk; omega)
              have hl3 := vputs_len (l := p.hash.vals) (getD_u64 HH.out.hash.vb) (by have := HR.out.nk; omega)
              have hnk := HR.out.nk
              replace hl1 : (vputs p.hash.seeds).length ≤ 50000 := by omega
              replace hl2 : (vputs p.hash.keys).length ≤ 50000 := by omega
              replace hl3 : (vputs p.hash.vals).length ≤ 50000 := by omega
              have hz1 : ¬ 9223372036854775807 < (vputs p.hash.seeds).length + (vputs p.hash.keys).length := by omega
              have hz2 : ¬ 9223372036854775807 < (vputs p.hash.seeds).length + (vputs p.hash.keys).length + (vputs p.hash.vals).length := by omega
              have Hz1 := Lib.hid hz1
              have Hz2 := Lib.hid hz2
              clear hz1 hz2
              have HA5 := Lib.hid (ref_PutAll _ p.hash.seeds (getD_u64 fun k => u64_small (by have := HH.out.hash.sb k; omega)) (by omega) W2 (Ho.out.keep C2.out (Nat.le_refl _)).rd)
              refine wpAnyC_ready (CW.of (C2.out)) (rs := [18]) (by kernel_rfl) (by simp) ?_
              refine (AllReadyC.cons rfl (fun K hK => ?_) AllReadyC.nil)
              go_simp
              refine Calls.mono (HA5.out) ?_
              rintro _ W5 ⟨rfl, hb5⟩
              dsimp only
              refine hK _ _ ?_
              clear hK K
              have C5 : Hid (Below wr.heap.size wr W5) := Lib.hid (C2.out.trans (hb5.mono C2.out.size))
              have HW5 : Hid (Below w.heap.size w W5) := Lib.hid (HK.out.step C5.out).bel
              clear hb5 HA5 C2
              have HA6 := Lib.hid (ref_PutAll vk p.hash.keys (getD_u64 HH.out.hash.kb) (by omega) W5 (row_rd (HH.out.hash.keys.keep HW5.out)))
              refine wpAnyC_ready (CW.of (C5.out)) (rs := [22]) (by kernel_rfl) (by simp) ?_
              refine (AllReadyC.cons rfl (fun K hK => ?_) AllReadyC.nil)
              go_simp
              refine Calls.mono (HA6.out) ?_
              rintro _ W6 ⟨rfl, hb6⟩
              dsimp only
              refine hK _ _ ?_
              clear hK K
              have C6 : Hid (Below wr.heap.size wr W6) := Lib.hid (C5.out.trans (hb6.mono C5.out.size))
              have HW6 : Hid (Below w.heap.size w W6) := Lib.hid (HK.out.step C6.out).bel
              clear hb6 HA6 C5 HW5
              have hz1 := Hz1.out
              refine wpAnyC_take (i := 23) (v := _) rfl (by kernel_rfl) (by kernel_rfl) (by kernel_rfl) (fun _ _ _ h => h) (Or.inl ⟨by rfl, fun w ⟨nq, hw⟩ => by (subst hw; go_simp <;> with_reducible rfl)⟩) (by go_simp <;> with_reducible rfl) ?_
              have HA7 := Lib.hid (ref_PutAll vv p.hash.vals (getD_u64 HH.out.hash.vb) (by omega) W6 (row_rd (HH.out.hash.vals.keep HW6.out)))
              refine wpAnyC_ready (CW.of (C6.out)) (rs := [27]) (by kernel_rfl) (by simp) ?_
              refine (AllReadyC.cons rfl (fun K hK => ?_) AllReadyC.nil)
              go_simp
              refine Calls.mono (HA7.out) ?_
              rintro _ W7 ⟨rfl, hb7⟩
              dsimp only
              refine hK _ _ ?_
              clear hK K
              have C7 : Hid (Below wr.heap.size wr W7) := Lib.hid (C6.out.trans (hb7.mono C6.out.size))
              clear hb7 HA7 C6 HW6
              have hz2 := Hz2.out
              refine wpAnyC_take (i := 28) (v := _) rfl (by kernel_rfl) (by kernel_rfl) (by kernel_rfl) (fun _ _ _ h => h) (Or.inl ⟨by rfl, fun w ⟨nq, hw⟩ => by (subst hw; go_simp <;> with_reducible rfl)⟩) (by go_simp <;> with_reducible rfl) ?_
              refine wpAnyC_take (i := 29) (v := _) rfl (by kernel_rfl) (by kernel_rfl) (by kernel_rfl) (fun _ _ _ h => h) (Or.inl ⟨by rfl, fun w ⟨nq, hw⟩ => by (subst hw; go_simp <;> with_reducible rfl)⟩) (by go_simp <;> with_reducible rfl) ?_
              clear hl1 hl2 hl3 hnk hz1 hz2 Hz1 Hz2
              refine wpAnyC_ready (CW.of (C7.out)) (rs := [30]) (by kernel_rfl) (by simp) ?_
              refine (AllReadyC.cons rfl (fun K hK => ?_) AllReadyC.nil)
              go_simp
              refine hK _ _ ?_
              clear hK K
              refine genG (fun W => Below W7.heap.size W7 W ∧ RowOf secC 2 W (.slice (some ⟨W7.heap.size, 0, none⟩) 5 5) (secsI p)) ⟨(Below.refl _ _).alloc (Nat.le_refl _) _, by rw [HS.out]; exact row_secs W7 _ _ _ _ _ _ (by rw [ba_append2, ba_append2]; rfl) _⟩ ?_
              rintro W8 ⟨hb8, hr8⟩
              have C8 : Hid (Below wr.heap.size wr W8) := Lib.hid (C7.out.trans (hb8.mono C7.out.size))
              have HP := Lib.hid (rp_Put _ (secsI p) W8 hr8 (secs_ok HR.out ⟨getD_u64 fun k => u64_small (by have := HH.out.hash.sb k; omega), getD_u64 HH.out.hash.kb, getD_u64 HH.out.hash.vb⟩))
              clear hb8 hr8 C7
              refine wpAnyC_ready (CW.of (C8.out)) (rs := [31]) (by kernel_rfl) (by simp) ?_
              refine (AllReadyC.cons rfl (fun K hK => ?_) AllReadyC.nil)
              go_simp
              refine Calls.mono (HP.out) ?_
              rintro _ W9 ⟨rfl, hb9⟩
              dsimp only
              refine hK _ _ ?_
              clear hK K
              have C9 : Hid (Below wr.heap.size wr W9) := Lib.hid (C8.out.trans (hb9.mono C8.out.size))
              have HW9 : Hid (Below w.heap.size w W9) := Lib.hid (HK.out.step C9.out).bel
              clear hb9 HP C8
              refine wpAnyC_take (i := 32) (v := _) rfl (by kernel_rfl) (by kernel_rfl) (by kernel_rfl) (fun _ _ _ h => h) (Or.inl ⟨by rfl, fun w ⟨nq, hw⟩ => by (subst hw; go_simp <;> with_reducible rfl)⟩) (by go_simp <;> with_reducible rfl) ?_
              refine wpAnyC_take (i := 33) (v := _) rfl (by kernel_rfl) (by kernel_rfl) (by kernel_rfl) (fun _ _ _ h => h) (Or.inl ⟨by rfl, fun w ⟨nq, hw⟩ => by (subst hw; go_simp <;> with_reducible rfl)⟩) (by go_simp <;> with_reducible rfl) ?_
              refine wpAnyC_take (i := 34) (v := _) rfl (by kernel_rfl) (by kernel_rfl) (by kernel_rfl) (fun _ _ _ h => h) (Or.inl ⟨by rfl, fun w ⟨nq, hw⟩ => by (subst hw; go_simp <;> with_reducible rfl)⟩) (by go_simp <;> with_reducible rfl) ?_
              refine wpAnyC_take (i := 35) (v := _) rfl (by kernel_rfl) (by kernel_rfl) (by kernel_rfl) (fun _ _ _ h => h) (Or.inl ⟨by rfl, fun w ⟨nq, hw⟩ => by (subst hw; go_simp <;> with_reducible rfl)⟩) (by go_simp <;> with_reducible rfl) ?_
              refine wpAnyC_done (by kernel_rfl) (CW.of (C9.out)) (by go_simp <;> with_reducible rfl) ?_
              repeat' (first | go_values | go_skip | go_guarded | go_step | go_upon)
              go_ret2
              exact ⟨ret_pi HG.out.symm, HW9.out⟩
end Go.Proofs.Ytbomloodllddaaa
/- Walk: the statement LoadWrites. Condition: the program lies in memory. -/
namespace Go.Proofs.Ytbomloodllddaaa
open Go.RowKit
set_option maxRecDepth 100000 in
set_option maxHeartbeats 2000000 in
theorem law_LoadWrites (w : World) (p : Prg) (v : PV) (H : PrgAt w v p) : Calls Try.prog 3 #[pgV p v] w fun e w' => e = .returned (.bool true) ∧ Below w.heap.size w w' := by
  have HH := Lib.hid H
  have HP : Hid (PBox (w.alloc (.cells (pgC p v) 30)) w.heap.size p v) := Lib.hid (PBox.new _ _ _)
  have Hb0 : Hid (Below w.heap.size w (w.alloc (.cells (pgC p v) 30))) := Lib.hid ((Below.refl _ _).alloc (Nat.le_refl _) _)
  have HA := Lib.hid fun w H => law_few25 p v w H
  have HB := Lib.hid fun w H => load_Encode p v w H
  have HC := Lib.hid fun w H => r25_Encode p v w H
  generalize encI p = G at HB HC
  clear H
  go_enter Try.func3, Try.ntmps3
  repeat' (first | (with_reducible refine load_pg HP.out _ rfl rfl ?_) | go_values | go_skip | go_guarded | go_step | go_upon)
  refine Calls.mono (HA.out _ (HH.out.keep Hb0.out)) ?_
  rintro _ w1 ⟨c, rfl, hb1⟩
  dsimp only
  have P1 := Lib.hid (HP.out.keep hb1)
  have B1 := Lib.hid (Hb0.out.trans (hb1.mono Hb0.out.size))
  clear hb1 HP Hb0 HA
  cases c
  · repeat' (first | go_values | go_skip | go_guarded | go_step | go_upon)
    go_ret
    exact ⟨rfl, B1.out⟩
  repeat' (first | (with_reducible refine load_pg P1.out _ rfl rfl ?_) | go_values | go_skip | go_guarded | go_step | go_upon)
  refine Calls.mono (HB.out _ (HH.out.keep B1.out)) ?_
  rintro _ w2 ⟨rfl, hb2⟩
  dsimp only
  have P2 := Lib.hid (P1.out.keep hb2)
  have B2 := Lib.hid (B1.out.trans (hb2.mono B1.out.size))
  clear hb2 P1 B1 HB
  repeat' (first | (with_reducible refine load_pg P2.out _ rfl rfl ?_) | go_values | go_skip | go_guarded | go_step | go_upon)
  refine Calls.mono (HC.out _ (HH.out.keep B2.out)) ?_
  rintro _ w3 ⟨rfl, hb3⟩
  dsimp only
  have B3 := Lib.hid (B2.out.trans (hb3.mono B2.out.size))
  clear hb3 P2 B2 HC
  repeat' (first | go_values | go_skip | go_guarded | go_step | go_upon)
  go_ret
  exact ⟨rfl, B3.out⟩
end Go.Proofs.Ytbomloodllddaaa
