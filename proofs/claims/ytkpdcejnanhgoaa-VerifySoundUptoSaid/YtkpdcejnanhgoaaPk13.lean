/- Walk: whether a program is whole (verify.shape). Condition: the program lies in memory. -/
import Derived.Test.YtkpdcejnanhgoaaPk11
import Derived.Test.YtkpdcejnanhgoaaPk07
import Derived.Test.YtkpdcejnanhgoaaPk10
import Derived.Test.YtkpdcejnanhgoaaPk06
namespace Go.Proofs.Ytkpdcejnanhgoaa
open Go.RowKit
set_option maxRecDepth 100000 in
set_option maxHeartbeats 8000000 in
theorem ver_shape (p : Prg) (v : PV) (w : World) (H : PrgAt w v p) : Calls Try.prog 24 #[pgV p v] w fun e w' => e = .returned (.tuple #[.int .i64 (shapeI p).1, .int .i64 (shapeI p).2]) ∧ Below w.heap.size w w' := by
  have HH := Lib.hid H
  obtain ⟨ac, cc, hvc, hcc, hmc, hcellc⟩ := H.code.open icL_len
  obtain ⟨ts, hts, htl, _⟩ := H.tabs
  obtain ⟨at', ct, hvt, hct, hmt⟩ := hts.slice
  have Hcell := Lib.hid hcellc
  have HW := Lib.hid fun w H => ver_whole p v w H
  have HB0 : Hid (PBox (w.alloc (.cells (pgC p v) 45)) w.heap.size p v) := Lib.hid (PBox.new _ _ _)
  have Hb0 : Hid (Below w.heap.size w (w.alloc (.cells (pgC p v) 45))) := Lib.hid ((Below.refl _ _).alloc (Nat.le_refl _) _)
  rw [htl] at hvt
  obtain ⟨vc, vt, vx, vs, vk, vv⟩ := v
  dsimp only at hvc hvt
  subst hvc hvt
  obtain ⟨n, hn⟩ : ∃ n, n = p.code.length := ⟨_, rfl⟩
  obtain ⟨nt, hnt⟩ : ∃ n, n = p.tabs.length := ⟨_, rfl⟩
  have Hend := Lib.hid (@shape_end p)
  have Hjmp := Lib.hid (@shape_jump p)
  have Hop := Lib.hid (@shape_op p)
  have Hlen := Lib.hid (@shape_len p)
  have Hdat := Lib.hid (@shape_data p)
  have Hbj : Hid (∀ i, badJump p i = (decide ((n : Int) ≤ codeAt p i 3) || (decide (codeAt p i 0 = 8) && decide ((nt : Int) ≤ codeAt p i 4)))) := Lib.hid fun i => by rw [hn, hnt]; rfl
  have Hbo : Hid (∀ i, badOp p i = !okI (codeAt p i)) := Lib.hid fun i => rfl
  have Heo : Hid (endOk p = (decide (codeAt p (n - 1) 0 = 1) || decide (codeAt p (n - 1) 0 = 4))) := Lib.hid (by rw [hn]; rfl)
  rw [← hn, ← hnt] at HB0 Hb0 HH HW ⊢
  rw [← hn] at Hend Hjmp Hop Hlen
  have Hn := Lib.hid hn
  clear H hts htl hcellc hmc hmt hct hcc hn hnt
  obtain ⟨G, hG⟩ : ∃ G, G = shapeI p := ⟨_, rfl⟩
  rw [← hG] at Hend Hjmp Hop Hlen Hdat ⊢
  clear hG
  go_enter Try.func24, Try.ntmps24
  repeat' (first | (with_reducible refine load_pg HB0.out _ rfl rfl ?_) | go_values | go_skip | go_guarded | go_step | go_upon)
  refine Calls.mono (HW.out _ (HH.out.keep Hb0.out)) ?_
  rintro _ w1 ⟨rfl, hb1⟩
  dsimp only
  have P1 := Lib.hid (HB0.out.keep hb1)
  have B1 := Lib.hid (Hb0.out.trans (hb1.mono Hb0.out.size))
  clear hb1 HB0 Hb0 HW
  obtain ⟨c0, c1, c2, c3, c4, c5, c6, c7, c8, c9⟩ := P1.out.ten
  dsimp only at c4 c5 c6 c7 c8 c9
  by_cases hd : dataOk p = true
  rotate_left
  · have hd' : dataOk p = false := by simpa using hd
    have e := Hdat.out hd'
    rw [hd']
    clear Hend Hjmp Hop Hlen Hdat
    subst e
    repeat' (first | go_values | go_skip | go_guarded | go_step | go_upon)
    go_ret2
    exact ⟨rfl, B1.out⟩
  rw [hd]
  by_cases hl : (n : Int) < 1
  · have e := Hlen.out hd (.inl (by omega))
    clear Hend Hjmp Hop Hlen Hdat
    subst e
    repeat' (first | go_values | go_skip | go_guarded | go_step | go_upon)
    go_ret2
    exact ⟨rfl, B1.out⟩
  by_cases hl2 : (4096 : Int) < n
  · have e := Hlen.out hd (.inr (by omega))
    have hl' : 1 ≤ (n : Int) := by omega
    clear Hend Hjmp Hop Hlen Hdat hl
    subst e
    repeat' (first | go_values | go_skip | go_guarded | go_step | go_upon)
    go_ret2
    exact ⟨rfl, B1.out⟩
  have hn1 : 1 ≤ (n : Int) := by omega
  have hn4 : (n : Int) ≤ 4096 := by omega
  have hnn : 1 ≤ n ∧ n ≤ 4096 := by omega
  have Hnn := Lib.hid hnn
  have Hd := Lib.hid hd
  clear hl hl2 hd hnn Hlen Hdat
  rcases Hcell.out with h0 | ⟨b, off, hac, hb, hcl⟩
  · have := Hn.out; omega
  subst hac
  have Hcl := Lib.hid hcl
  clear Hcell hcl
  repeat' (first | go_values | go_skip | go_guarded | go_step | go_upon)
  go_loopw [27] (fun s_ wr => ∃ k : Nat, s_ = .int .i64 k ∧ k ≤ n ∧ Hid (∀ i, i < k → badOp p i = false) ∧ Hid (PBox wr w.heap.size p ⟨.slice (some ⟨b, off, none⟩) n cc, .slice at' nt ct, vx, vs, vk, vv⟩) ∧ Hid (Below w.heap.size w wr)) (fun s_ _ => n - (intOf s_).toNat)
  case atStart => exact ⟨0, rfl, Nat.zero_le _, Lib.hid fun i hi => absurd hi (Nat.not_lt_zero _), P1, B1⟩
  case round =>
    clear P1 B1 c0 c1 c2 c3 c4 c5 c6 c7 c8 c9
    obtain ⟨k, rfl, hk, Ha, P, Bb⟩ := hrel
    by_cases hlt : k < n
    · obtain ⟨d0, d1, d2, d3, d4⟩ := Row5p.cells Hcl.out k (by rw [← Hn.out]; exact hlt)
      rw [← Bb.out.cell (show b < w.heap.size from hb)] at d0 d1 d2 d3 d4
      have Hbk := Lib.hid (Hbo.out k)
      have Hopk := Lib.hid (fun h => Hop.out Hd.out Hnn.out hlt h Ha.out)
      obtain ⟨bo, hbo⟩ : ∃ x, x = badOp p k := ⟨_, rfl⟩
      rw [← hbo] at Hbk Hopk
      have Hbo' := Lib.hid hbo
      unfold codeAt at Hbk
      generalize p.code.getD k (fun _ => 0) = x at d0 d1 d2 d3 d4 Hbk
      have HR := Lib.hid fun w => isa_Right x w
      have hbx : Below wr.heap.size wr (wr.alloc (.cells (ic x) 85)) := (Below.refl _ _).alloc (Nat.le_refl _) _
      have Px := Lib.hid (P.out.keep hbx)
      have Bx := Lib.hid (Bb.out.trans (hbx.mono Bb.out.size))
      clear hbx hbo
      by_cases hok : okI x = true
      · have Hbn : Hid (bo = false) := Lib.hid (by rw [Hbk.out, hok]; rfl)
        rw [hok] at HR
        clear hok Hopk
        repeat' (first | go_values | go_skip | go_guarded | go_step | go_upon)
        refine Calls.mono (HR.out _) ?_
        rintro _ w2 ⟨rfl, hb2⟩
        dsimp only
        have P2 := Lib.hid (Px.out.keep hb2)
        have B2 := Lib.hid (Bx.out.trans (hb2.mono Bx.out.size))
        clear hb2
        repeat' (first | go_values | go_skip | go_guarded | go_step | go_upon)
        go_roundw
        case rel => exact ⟨k + 1, by go_num, hlt, Lib.hid fun i hi => by
          rcases Nat.lt_or_ge i k with h1 | h1
          · exact Ha.out i h1
          · obtain rfl : i = k := by omega
            exact Hbo'.out.symm.trans Hbn.out, P2, B2⟩
        case measure => simp [intOf]; omega
      · have hok' : okI x = false := by simpa using hok
        have e := Hopk.out (by rw [Hbk.out, hok']; rfl)
        rw [hok'] at HR
        clear hok hok' Hend Hjmp Hop Hopk
        subst e
        repeat' (first | go_values | go_skip | go_guarded | go_step | go_upon)
        refine Calls.mono (HR.out _) ?_
        rintro _ w2 ⟨rfl, hb2⟩
        dsimp only
        repeat' (first | go_values | go_skip | go_guarded | go_step | go_upon)
        go_ret2
        exact ⟨rfl, Bx.out.trans (hb2.mono Bx.out.size)⟩
    · obtain rfl : n = k := by omega
      have Hallop := Ha
      obtain ⟨c0, c1, c2, c3, c4, c5, c6, c7, c8, c9⟩ := P.out.ten
      dsimp only at c4 c5 c6 c7 c8 c9
      clear Hop Hbo
      repeat' (first | go_values | go_skip | go_guarded | go_step | go_upon)
      go_loopw [40] (fun s_ wr => ∃ k : Nat, s_ = .int .i64 k ∧ k ≤ n ∧ Hid (∀ i, i < k → badJump p i = false) ∧ Hid (PBox wr w.heap.size p ⟨.slice (some ⟨b, off, none⟩) n cc, .slice at' nt ct, vx, vs, vk, vv⟩) ∧ Hid (Below w.heap.size w wr)) (fun s_ _ => n - (intOf s_).toNat)
      case atStart => exact ⟨0, rfl, Nat.zero_le _, Lib.hid fun i hi => absurd hi (Nat.not_lt_zero _), P, Bb⟩
      case round =>
        clear P Bb c0 c1 c2 c3 c4 c5 c6 c7 c8 c9 Ha hk hlt
        obtain ⟨k, rfl, hk, Ha, P, Bb⟩ := hrel
        by_cases hlt : k < n
        · obtain ⟨d0, d1, d2, d3, d4⟩ := Row5p.cells Hcl.out k (by rw [← Hn.out]; exact hlt)
          rw [← Bb.out.cell (show b < w.heap.size from hb)] at d0 d1 d2 d3 d4
          have Hbk := Lib.hid (Hbj.out k)
          have Hjk := Lib.hid (fun h => Hjmp.out Hd.out Hnn.out Hallop.out hlt h Ha.out)
          obtain ⟨bo, hbo⟩ : ∃ x, x = badJump p k := ⟨_, rfl⟩
          rw [← hbo] at Hbk Hjk
          have Hbj' := Lib.hid hbo
          unfold codeAt at Hbk
          generalize p.code.getD k (fun _ => 0) = x at d0 d1 d2 d3 d4 Hbk
          have hbx : Below wr.heap.size wr (wr.alloc (.cells (ic x) 85)) := (Below.refl _ _).alloc (Nat.le_refl _) _
          have Px := Lib.hid (P.out.keep hbx)
          have Bx := Lib.hid (Bb.out.trans (hbx.mono Bb.out.size))
          have hin := InsAt.new wr x
          obtain ⟨e0, e3, e4⟩ := (⟨hin.cell 0 (by decide), hin.cell 3 (by decide), hin.cell 4 (by decide)⟩ : _ ∧ _ ∧ _)
          obtain ⟨c0, c1, c2, c3, c4, c5, c6, c7, c8, c9⟩ := Px.out.ten
          dsimp only at c4 c5 c6 c7 c8 c9
          clear hbx hbo hin P c0 c1 c2 c3 c4 c6 c7 c8 c9
          by_cases hA : (n : Int) ≤ x 3
          · have HE : bo = true := by rw [Hbk.out, decide_eq_true hA]; rfl
            have HEc := hA
            clear HEc
            have HEc := Hbk
            have e := Hjk.out HE
            clear Hend Hjmp Hjk HEc
            subst e
            repeat' (first | go_values | go_skip | go_guarded | go_step | go_upon)
            go_ret2
            exact ⟨rfl, Bx.out⟩
          have hA' : x 3 < (n : Int) := by omega
          have hAd : decide ((n : Int) ≤ x 3) = false := decide_eq_false hA
          have HAd := Lib.hid hAd
          clear hA hAd
          by_cases hB : x 0 = 8
          rotate_left
          · have Hbn : Hid (bo = false) := Lib.hid (by rw [Hbk.out, HAd.out, decide_eq_false hB]; rfl)
            have hB' : (x 0 == 8) = false := beq_false_of_ne hB
            clear hB
            repeat' (first | go_values | go_skip | go_guarded | go_step | go_upon)
            go_roundw
            case rel => exact ⟨k + 1, by go_num, hlt, Lib.hid fun i hi => by
              rcases Nat.lt_or_ge i k with h1 | h1
              · exact Ha.out i h1
              · obtain rfl : i = k := by omega
                exact Hbj'.out.symm.trans Hbn.out, Px, Bx⟩
            case measure => simp [intOf]; omega
          have hB' : (x 0 == 8) = true := by rw [beq_iff_eq]; exact hB
          have HBd : Hid (decide (x 0 = 8) = true) := Lib.hid (decide_eq_true hB)
          clear hB
          by_cases hC : (nt : Int) ≤ x 4
          · have HE : bo = true := by rw [Hbk.out, HAd.out, HBd.out, decide_eq_true hC]; rfl
            have HEc := Hbk
            have e := Hjk.out HE
            clear Hend Hjmp Hjk HEc
            subst e
            repeat' (first | go_values | go_skip | go_guarded | go_step | go_upon)
            go_ret2
            exact ⟨rfl, Bx.out⟩
          · have Hbn : Hid (bo = false) := Lib.hid (by rw [Hbk.out, HAd.out, HBd.out, decide_eq_false hC]; rfl)
            have hC' : x 4 < (nt : Int) := by omega
            clear hC
            repeat' (first | go_values | go_skip | go_guarded | go_step | go_upon)
            go_roundw
            case rel => exact ⟨k + 1, by go_num, hlt, Lib.hid fun i hi => by
              rcases Nat.lt_or_ge i k with h1 | h1
              · exact Ha.out i h1
              · obtain rfl : i = k := by omega
                exact Hbj'.out.symm.trans Hbn.out, Px, Bx⟩
            case measure => simp [intOf]; omega
        · obtain rfl : n = k := by omega
          have He := Hend.out Hd.out Hnn.out Hallop.out Ha.out
          have hnk := Hnn.out
          obtain ⟨d0, d1, d2, d3, d4⟩ := Row5p.cells Hcl.out (n - 1) (by rw [← Hn.out]; omega)
          rw [← Bb.out.cell (show b < w.heap.size from hb)] at d0
          obtain ⟨c0, c1, c2, c3, c4, c5, c6, c7, c8, c9⟩ := P.out.ten
          dsimp only at c4 c5 c6 c7 c8 c9
          have Heo2 := Heo
          unfold codeAt at Heo2
          obtain ⟨y, hy⟩ : ∃ y, y = p.code.getD (n - 1) (fun _ => 0) 0 := ⟨_, rfl⟩
          rw [← hy] at d0 Heo2
          obtain ⟨eo, heo⟩ : ∃ y, y = endOk p := ⟨_, rfl⟩
          rw [← heo] at He Heo2
          have hk1 : ((n : Int) - 1).toNat = n - 1 := by omega
          have hk2 : n - 1 < n := by omega
          clear Hend Hjmp Heo hy heo d1 d2 d3 d4 Hallop Ha Hbj c0 c1 c2 c3 c5 c6 c7 c8 c9 hnk hlt
          by_cases h1 : y = 1
          · have e : eo = true := by rw [Heo2.out, decide_eq_true h1]; rfl
            rw [if_neg (by rw [e]; decide)] at He
            have hy1 : (y != 1) = false := by rw [bne_eq_false_iff_eq]; exact h1
            clear h1 e
            subst He
            repeat' (first | go_values | go_skip | go_guarded | go_step | go_upon)
            go_ret2
            exact ⟨rfl, Bb.out⟩
          have hy1 : (y != 1) = true := by rw [bne_iff_ne]; exact h1
          by_cases h4 : y = 4
          · have e : eo = true := by rw [Heo2.out, decide_eq_true h4]; simp
            rw [if_neg (by rw [e]; decide)] at He
            have hy4 : (y != 4) = false := by rw [bne_eq_false_iff_eq]; exact h4
            clear h1 h4 e
            subst He
            repeat' (first | go_values | go_skip | go_guarded | go_step | go_upon)
            go_ret2
            exact ⟨rfl, Bb.out⟩
          · have e : eo = false := by rw [Heo2.out, decide_eq_false h1, decide_eq_false h4]; rfl
            rw [if_pos e] at He
            have hy4 : (y != 4) = true := by rw [bne_iff_ne]; exact h4
            clear h1 h4 e
            subst He
            repeat' (first | go_values | go_skip | go_guarded | go_step | go_upon)
            go_ret2
            exact ⟨rfl, Bb.out⟩
end Go.Proofs.Ytkpdcejnanhgoaa
/- Walk: whether a program is whole, by the reference. Condition: the program lies in memory. -/
namespace Go.Proofs.Ytkpdcejnanhgoaa
open Go.RowKit
end Go.Proofs.Ytkpdcejnanhgoaa
/- Walk: do ranges show that an instruction does not fault, by the reference. Conditions: program and ranges lie in memory, the program is whole. -/
namespace Go.Proofs.Ytkpdcejnanhgoaa
open Go.RowKit

theorem gen_world {P : Program} {c : Code} {Q : Exit → Act → World → Prop} {a : Act} {w : World} (F : World → Prop) (hF : F w) (h : ∀ w', F w' → c.wp P Q a w') : c.wp P Q a w := h w hF
/-- program and instruction in the call's own variables, the ranges where they were -/
structure SQ (w0 : World) (p : Prg) (v : PV) (x : Nat → Int) (w : World) : Prop where
  bel : Below w0.heap.size w0 w
  pg : PBox w w0.heap.size p v
  ins : InsAt w (w0.heap.size + 1) x
theorem SQ.start (w : World) (p : Prg) (v : PV) (x : Nat → Int) : SQ w p v x ((w.alloc (.cells (pgC p v) 45)).alloc (.cells (ic x) 85)) :=
  ⟨((Below.refl _ _).alloc (Nat.le_refl _) _).alloc (by simp) _, (PBox.new w p v).keep ((Below.refl _ _).alloc (Nat.le_refl _) _), InsAt.new1 w _ x⟩
end Go.Proofs.Ytkpdcejnanhgoaa
