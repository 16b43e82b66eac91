/- Walk: whether a configuration may be, by the reference (fretsawref17.Right). Condition: it lies in memory. -/
import Derived.Test.YtkpdcejnanhgoaaConfMem
namespace Go.Proofs.Ytkpdcejnanhgoaa
open Go.RowKit
set_option maxRecDepth 100000 in
set_option maxHeartbeats 4000000 in
theorem ref_ConfRight (h : Nat) (r : RN) (vp vm vn vb va : Value) (c : ConfP) (w : World) (H : CfAt w h r vp vm vn vb va c) :
    Calls Try.prog 7 #[.agg (cfC r vp vm vn vb va)] w fun e w' => e = .returned (.int .i64 (confE h c)) ∧ Below w.heap.size w w' := by
  have HH := Lib.hid H
  have HS := Lib.hid (confE_steps h c)
  generalize confE h c = R at HS ⊢
  obtain ⟨vs, hvs, hvl, hvr⟩ := H.ps
  obtain ⟨ap, cp, hpe, hpc, hpm, hpcell⟩ := hvs.open oneC_len
  obtain ⟨an, cn, hne, hnc, hnm, hncell⟩ := H.ns.open strC_len17
  obtain ⟨ab, cb, hbe, _, _, _⟩ := H.bf.open intC_len17
  obtain ⟨aa, ca, hae, _, _, _⟩ := H.af.open intC_len17
  subst hpe hne hbe hae
  rw [hvl] at hpc hpcell HH
  obtain ⟨np, hnp⟩ : ∃ n, c.ps.length = n := ⟨_, rfl⟩
  obtain ⟨nn, hnn⟩ : ∃ n, c.ns.length = n := ⟨_, rfl⟩
  obtain ⟨nb, hnb⟩ : ∃ n, c.bf.length = n := ⟨_, rfl⟩
  obtain ⟨na, hna⟩ : ∃ n, c.af.length = n := ⟨_, rfl⟩
  rw [hvl]
  rw [hnp, hnn, hnb, hna] at HH
  rw [hnp] at hpc hpcell
  rw [hnn] at hnc hncell
  rw [hnp, hnn, hnb, hna]
  have Hnp := Lib.hid hnp
  have Hnn := Lib.hid hnn
  have Hnb := Lib.hid hnb
  have Hna := Lib.hid hna
  have Hvr := Lib.hid hvr
  have Hpc := Lib.hid hpcell
  have Hnc := Lib.hid hncell
  have Hvl := Lib.hid hvl
  unfold maxLen at hpm hnm
  have HP : Hid (CBox (w.alloc (.cells (cfC r (.slice ap np cp) vm (.slice an nn cn) (.slice ab nb cb) (.slice aa na ca)) 34)) w.heap.size r (.slice ap np cp) vm (.slice an nn cn) (.slice ab nb cb) (.slice aa na ca)) := Lib.hid (CBox.new _ _ _ _ _ _ _)
  have Hb0 : Hid (Below w.heap.size w (w.alloc (.cells (cfC r (.slice ap np cp) vm (.slice an nn cn) (.slice ab nb cb) (.slice aa na ca)) 34))) := Lib.hid ((Below.refl _ _).alloc (Nat.le_refl _) _)
  obtain ⟨gc, hgc⟩ : ∃ g, g = w.heap.size := ⟨_, rfl⟩
  have hgc' : w.heap.size ≤ gc := by omega
  clear H hvs hvl hvr hpcell hncell hnp hnn hnb hna
  by_cases h1 : 4 < np
  · have e := HS.out.s1 (by rw [Hnp.out]; exact h1)
    subst e
    have h1' : (4 : Int) < np := by omega
    go_enter Try.func7, Try.ntmps7
    repeat' (first | go_values | go_skip | go_guarded | go_step | go_upon)
    go_ret
    exact ⟨rfl, Hb0.out⟩
  have h1' : ¬ (4 : Int) < np := by omega
  have H2 : Hid (∀ k, k < np → passE c.ps k = 0 → ruleE (c.ps.getD k []) ≠ 0 → R = ruleE (c.ps.getD k [])) := Lib.hid fun k hk => HS.out.s2 (by rw [Hnp.out]; exact h1) k (by rw [Hnp.out]; exact hk)
  have H3 : Hid (passE c.ps np = 0 → 32 < growAll c.ps np → R = 172) := Lib.hid fun e => by have := HS.out.s3 (by rw [Hnp.out]; exact h1); rw [Hnp.out] at this; exact this e
  have H4 := Lib.hid (fun e e' => HS.out.s4 (by rw [Hnp.out]; exact h1) (by rw [Hnp.out]; exact e) (by rw [Hnp.out]; exact e'))
  clear HS
  go_enter Try.func7, Try.ntmps7
  repeat' (first | go_values | go_skip | go_guarded | go_step | go_upon)
  rw [← hgc]
  refine gen_worldS (fun W => CBox W gc r (.slice ap np cp) vm (.slice an nn cn) (.slice ab nb cb) (.slice aa na ca) ∧ Below w.heap.size w W) ⟨by rw [hgc]; exact HP.out, Hb0.out⟩ ?_
  clear HP Hb0
  rintro w1 ⟨hP1, hb1⟩
  have HP := Lib.hid hP1
  have HB := Lib.hid hb1
  clear hP1 hb1 hgc
  go_loopg [3, 20] np (fun gk s3 s20 wr => ∃ (k g : Nat), s20 = .int .i64 k ∧ s3 = .int .i64 g ∧ k + gk = np ∧ Hid (passE c.ps k = 0 ∧ g = growAll c.ps k) ∧ Hid (CBox wr gc r (.slice ap np cp) vm (.slice an nn cn) (.slice ab nb cb) (.slice aa na ca)) ∧ Hid (Below w.heap.size w wr))
  case atStart => exact ⟨0, 1, rfl, rfl, by omega, Lib.hid ⟨rfl, rfl⟩, HP, HB⟩
  case round =>
    clear HP HB
    obtain ⟨k, g, rfl, rfl, hk, HG, HP, HB⟩ := hrel
    by_cases hkn : k < np
    · have hkn' : (k : Int) < np := by omega
      rcases Hpc.out with h0 | ⟨b, off, rfl, hbB, hcell⟩
      · omega
      obtain ⟨u, hu⟩ : ∃ u, vs[k]? = some u := ⟨_, List.getElem?_eq_getElem (by rw [Hvl.out, Hnp.out]; exact hkn)⟩
      obtain ⟨l, hl⟩ : ∃ l, c.ps[k]? = some l := ⟨_, List.getElem?_eq_getElem (by rw [Hnp.out]; exact hkn)⟩
      have Hlk : Hid (c.ps.getD k [] = l) := Lib.hid (by rw [List.getD_eq_getElem?_getD, hl]; rfl)
      have c0 : wr.cell? ⟨b, off + k, none⟩ = some u := by
        have := hcell k u 0 hu (by decide)
        rw [Nat.mul_one, Nat.add_zero] at this
        rw [HB.out.cell hbB]; exact this
      have hG := ref_RuleRight u l wr ((Hvr.out k u l hu hl).keep HB.out)
      have Hgr := Lib.hid fun (e : ruleE l = 0) W (hW : Below w.heap.size w W) => ref_Grow u l W ((Hvr.out k u l hu hl).keep hW) e
      have Hg32 := Lib.hid fun (e : ruleE l = 0) => (growTo_le e _ (Nat.le_refl _)).2
      have Hx := Lib.hid (H2.out k hkn HG.out.1)
      rw [Hlk.out] at Hx
      have Hs1 : Hid (ruleE l = 0 → passE c.ps (k + 1) = 0) := Lib.hid fun e => by rw [passE, if_pos HG.out.1, Hlk.out, e]
      have Hs2 : Hid (growAll c.ps (k + 1) = g * growN l) := Lib.hid (by rw [growAll, Hlk.out, HG.out.2])
      have Hgk : Hid (g ≤ 32 ^ k) := Lib.hid (by rw [HG.out.2]; exact growAll_le k (by omega) HG.out.1)
      obtain ⟨E, hE⟩ : ∃ E, ruleE l = E := ⟨_, rfl⟩
      rw [hE] at hG Hg32 Hx Hs1
      change Hid (E = 0 → growN l ≤ 32) at Hg32
      rw [hE] at Hgr
      obtain ⟨M, hM⟩ : ∃ M, growN l = M := ⟨_, rfl⟩
      rw [hM] at Hgr Hg32 Hs2
      clear hcell hu hl hE hM
      repeat' (first | go_values | go_skip | go_guarded | go_step | go_upon)
      refine Calls.mono (hG) ?_
      rintro _ w2 ⟨rfl, hb2⟩
      dsimp only
      have P2 := Lib.hid (HP.out.keep hb2)
      have B2 := Lib.hid (HB.out.trans (hb2.mono HB.out.size))
      clear hb2 HP HB hG c0
      by_cases he : E = 0
      · have hgr := Hgr.out he w2 B2.out
        have hM32 := Hg32.out he
        have hpw := pow_grow (by omega) Hgk.out hM32
        obtain ⟨q, hq⟩ : ∃ q : Nat, g * M = q := ⟨_, rfl⟩
        have hw : IntKind.i64.wrap ((g : Int) * (M : Int)) = (q : Int) := by
          rw [← hq, Int.natCast_mul]
          refine wi64 ?_
          rw [← Int.natCast_mul]
          unfold I64; omega
        have Hnx : Hid (passE c.ps (k + 1) = 0 ∧ q = growAll c.ps (k + 1)) := Lib.hid ⟨Hs1.out he, by rw [Hs2.out, hq]⟩
        subst he
        clear hpw hq Hs1 Hs2 Hx Hg32 Hgk HG hM32 Hgr
        repeat' (first | go_values | go_skip | go_guarded | go_step | go_upon)
        refine Calls.mono (hgr) ?_
        rintro _ w3 ⟨rfl, hb3⟩
        dsimp only
        have P3 := Lib.hid (P2.out.keep hb3)
        have B3 := Lib.hid (B2.out.trans (hb3.mono B2.out.size))
        clear hb3 P2 B2 hgr
        repeat' (first | go_values | go_skip | go_guarded | go_step | go_upon)
        go_roundg (gk - 1)
        case rel => exact ⟨k + 1, q, by go_num, rfl, by omega, Hnx, P3, B3⟩
        case measure => omega
      · have e := Hx.out he
        have hne : (E != 0) = true := by rw [bne_iff_ne]; exact he
        subst e
        clear Hs1 Hs2 Hx Hg32 Hgk HG Hgr
        repeat' (first | go_values | go_skip | go_guarded | go_step | go_upon)
        go_ret
        exact ⟨rfl, B2.out⟩
    · obtain rfl : np = k := by omega
      obtain ⟨c0, c1, c2, c3, c4, c5, c6, c7, c8, c9, c10, c11, c12⟩ := HP.out.cells
      have hge : growAll c.ps np = g := HG.out.2.symm
      have Hx := Lib.hid (H3.out HG.out.1)
      have Hy := Lib.hid (H4.out HG.out.1)
      rw [hge] at Hy
      rw [hge] at Hx
      clear H2 H3 H4 HG hge Hpc Hvr Hvl
      by_cases hg : 32 < g
      · have e := Hx.out hg
        subst e
        have hg' : (32 : Int) < g := by omega
        repeat' (first | go_values | go_skip | go_guarded | go_step | go_upon)
        go_ret
        exact ⟨rfl, HB.out⟩
      have hg' : ¬ (32 : Int) < g := by omega
      have H4 := Lib.hid (Hy.out hg)
      clear Hx Hy hg
      have hre := ref_Right h r c.re wr (HH.out.re.keep HB.out)
      have Hshp := Lib.hid fun (e : rgt h c.re = 0) => rgt_shp e
      generalize rgt h c.re = E1 at hre H4 Hshp
      simp only [reV, reC] at hre
      repeat' (first | go_values | go_skip | go_guarded | go_step | go_upon)
      refine Calls.mono (hre) ?_
      rintro _ w2 ⟨rfl, hb2⟩
      dsimp only
      have P2 := Lib.hid (HP.out.keep hb2)
      have B2 := Lib.hid (HB.out.trans (hb2.mono HB.out.size))
      clear hb2 HP HB hre c0 c1 c2 c3 c4 c5 c6 c7 c8 c9 c10 c11 c12
      by_cases he : E1 = 0
      rotate_left
      · have e := H4.out.1 he
        have hne : (E1 != 0) = true := by rw [bne_iff_ne]; exact he
        subst e
        repeat' (first | go_values | go_skip | go_guarded | go_step | go_upon)
        go_ret
        exact ⟨rfl, B2.out⟩
      have H5 := Lib.hid (H4.out.2 he)
      have hshp := Hshp.out he
      subst he
      obtain ⟨c0, c1, c2, c3, c4, c5, c6, c7, c8, c9, c10, c11, c12⟩ := P2.out.cells
      have hsz := ref_Size h r c.re w2 hshp (HH.out.re.keep B2.out)
      generalize szR h c.re = S at hsz H5
      simp only [reV, reC] at hsz
      clear H4 Hshp hshp
      repeat' (first | go_values | go_skip | go_guarded | go_step | go_upon)
      refine Calls.mono (hsz) ?_
      rintro _ w3 ⟨rfl, hb3⟩
      dsimp only
      have P3 := Lib.hid (P2.out.keep hb3)
      have B3 := Lib.hid (B2.out.trans (hb3.mono B2.out.size))
      clear hb3 P2 B2 hsz c0 c1 c2 c3 c4 c5 c6 c7 c8 c9 c10 c11 c12
      by_cases hS : 1000 < S
      · have e := H5.out.1 hS
        subst e
        repeat' (first | go_values | go_skip | go_guarded | go_step | go_upon)
        go_ret
        exact ⟨rfl, B3.out⟩
      have H6 := Lib.hid (H5.out.2 hS)
      obtain ⟨c0, c1, c2, c3, c4, c5, c6, c7, c8, c9, c10, c11, c12⟩ := P3.out.cells
      have htx := ref_TextsE vm c.ms w3 (HH.out.ms.keep B3.out)
      generalize textsE c.ms = E2 at htx H6
      clear H5
      repeat' (first | go_values | go_skip | go_guarded | go_step | go_upon)
      refine Calls.mono (htx) ?_
      rintro _ w4 ⟨⟨ut, rfl⟩, hb4⟩
      dsimp only
      have P4 := Lib.hid (P3.out.keep hb4)
      have B4 := Lib.hid (B3.out.trans (hb4.mono B3.out.size))
      clear hb4 P3 B3 htx c0 c1 c2 c3 c4 c5 c6 c7 c8 c9 c10 c11 c12 hS
      by_cases he : E2 = 0
      rotate_left
      · have e := H6.out.1 he
        have hne : (E2 != 0) = true := by rw [bne_iff_ne]; exact he
        subst e
        repeat' (first | go_values | go_skip | go_guarded | go_step | go_upon)
        go_ret
        exact ⟨rfl, B4.out⟩
      have H7 := Lib.hid (H6.out.2 he)
      rw [Hnn.out] at H7
      subst he
      clear H6
      obtain ⟨c0, c1, c2, c3, c4, c5, c6, c7, c8, c9, c10, c11, c12⟩ := P4.out.cells
      by_cases h64 : 64 < nn
      · have e := H7.out.1 h64
        subst e
        have h64' : (64 : Int) < nn := by omega
        repeat' (first | go_values | go_skip | go_guarded | go_step | go_upon)
        go_ret
        exact ⟨rfl, B4.out⟩
      have h64' : ¬ (64 : Int) < nn := by omega
      have H8 := Lib.hid (H7.out.2 h64)
      clear H7
      repeat' (first | go_values | go_skip | go_guarded | go_step | go_upon)
      clear c0 c1 c2 c3 c4 c5 c6 c7 c8 c9 c10 c11 c12 h1' hg' h64'
      go_loopg [62] nn (fun gk s62 wr => ∃ k : Nat, s62 = .int .i64 k ∧ k + gk = nn ∧ Hid (∀ i, i < k → ¬ badN c.ns i) ∧ Hid (CBox wr gc r (.slice ap np cp) vm (.slice an nn cn) (.slice ab nb cb) (.slice aa na ca)) ∧ Hid (Below w.heap.size w wr))
      case atStart => exact ⟨0, rfl, by omega, Lib.hid (fun i hi => by omega), P4, B4⟩
      case round =>
        clear P4 B4
        obtain ⟨k, rfl, hk, HG, HP, HB⟩ := hrel
        have c10 := HP.out.cells.2.2.2.2.2.2.2.2.2.2.1
        by_cases hkn : k < nn
        · have hkn' : (k : Int) < nn := by omega
          rcases Hnc.out with h0 | ⟨b, off, rfl, hbB, hcell⟩
          · omega
          have hkl : k < c.ns.length := by rw [Hnn.out]; exact hkn
          have hxx : ∀ i, i ≤ k → c.ns[i]? = some (nam c.ns i) := fun i hi => by unfold nam; rw [List.getD_eq_getElem?_getD, List.getElem?_eq_getElem (by omega)]; rfl
          have Hcells : Hid (∀ W, Below w.heap.size w W → ∀ i, i ≤ k → W.cell? ⟨b, off + i, none⟩ = some (.string ⟨(nam c.ns i).toArray⟩)) := Lib.hid fun W hW i hi => by rw [hW.cell (show b < w.heap.size from hbB)]; exact str_cell hcell (hxx i hi)
          have c0 := Hcells.out wr HB.out k (Nat.le_refl _)
          have Hb : Hid (badN c.ns k → R = 172) := Lib.hid fun hb => H8.out.1 ⟨k, hkl, hb⟩
          have Hnx : Hid (¬ badN c.ns k → ∀ i, i < k + 1 → ¬ badN c.ns i) := Lib.hid fun h i hi => by
            by_cases e : i = k
            · rw [e]; exact h
            · exact HG.out i (by omega)
          unfold badN at Hb Hnx
          generalize hye : nam c.ns k = y at c0 Hb Hnx
          clear hcell hxx hkl hye
          by_cases hy0 : y.length < 1
          · have e := Hb.out (.inl hy0)
            subst e
            have hy0' : (y.length : Int) < 1 := by omega
            repeat' (first | go_values | go_skip | go_guarded | go_step | go_upon)
            go_ret
            exact ⟨rfl, HB.out⟩
          have hy0' : ¬ (y.length : Int) < 1 := by omega
          by_cases hy1 : 32 < y.length
          · have e := Hb.out (.inr (.inl hy1))
            subst e
            have hy1' : (32 : Int) < y.length := by omega
            repeat' (first | go_values | go_skip | go_guarded | go_step | go_upon)
            go_ret
            exact ⟨rfl, HB.out⟩
          have hy1' : ¬ (32 : Int) < y.length := by omega
          have Hb2 : Hid (∀ j, j < k → nam c.ns j = y → R = 172) := Lib.hid fun j hj h => Hb.out (.inr (.inr ⟨j, hj, h⟩))
          have Hnx2 : Hid ((∀ j, j < k → nam c.ns j ≠ y) → ∀ i, i < k + 1 → ¬ badN c.ns i) := Lib.hid fun h => Hnx.out (by
            rintro (h' | h' | ⟨j, hj, h'⟩)
            · exact hy0 h'
            · exact hy1 h'
            · exact h j hj h')
          clear Hb Hnx HG
          repeat' (first | go_values | go_skip | go_guarded | go_step | go_upon)
          clear c0 c10 hy0' hy1'
          go_loopg [12] k (fun gj s12 wi => ∃ j : Nat, s12 = .int .i64 j ∧ j + gj = k ∧ Hid (∀ i, i < j → nam c.ns i ≠ y) ∧ Hid (CBox wi gc r (.slice ap np cp) vm (.slice (some ⟨b, off, none⟩) nn cn) (.slice ab nb cb) (.slice aa na ca)) ∧ Hid (Below w.heap.size w wi))
          case atStart => exact ⟨0, rfl, by omega, Lib.hid (fun i hi => by omega), HP, HB⟩
          case round =>
            clear HP HB
            obtain ⟨j, rfl, hj, HN, HP, HB⟩ := hrel
            have c10 := HP.out.cells.2.2.2.2.2.2.2.2.2.2.1
            by_cases hjk : j < k
            · have c0 := Hcells.out wr HB.out j (by omega)
              have hjk' : (j : Int) < k := by omega
              have hjn : (j : Int) < nn := by omega
              have hjn' : j < nn := by omega
              have Hb3 : Hid (nam c.ns j = y → R = 172) := Lib.hid fun h => Hb2.out j hjk h
              have HN2 : Hid (nam c.ns j ≠ y → ∀ i, i < j + 1 → nam c.ns i ≠ y) := Lib.hid fun h i hi => by
                by_cases e : i = j
                · rw [e]; exact h
                · exact HN.out i (by omega)
              clear HN
              generalize nam c.ns j = z at c0 Hb3 HN2
              by_cases he : z = y
              · have e := Hb3.out he
                subst e he
                repeat' (first | go_values | go_skip | go_guarded | go_step | go_upon)
                go_ret
                exact ⟨rfl, HB.out⟩
              · have heb : (z == y) = false := beq_false_of_ne he
                have HN3 := Lib.hid (HN2.out he)
                clear HN2 Hb3
                repeat' (first | go_values | go_skip | go_guarded | go_step | go_upon)
                go_roundg (gk - 1)
                case rel => exact ⟨j + 1, by go_num, by omega, HN3, HP, HB⟩
                case measure => omega
            · obtain rfl : j = k := by omega
              have HG2 := Lib.hid (Hnx2.out HN.out)
              clear HN c10 Hnx2 Hb2 Hcells
              repeat' (first | go_values | go_skip | go_guarded | go_step | go_upon)
              go_roundg (nn - (j + 1))
              case rel => exact ⟨j + 1, by go_num, by omega, HG2, HP, HB⟩
              case measure => omega
        · obtain rfl : nn = k := by omega
          have H9 := Lib.hid (H8.out.2 (by
            rintro ⟨i, hi, hb⟩
            exact HG.out i (by rw [Hnn.out] at hi; exact hi) hb))
          obtain ⟨_, _, _, _, _, _, _, _, _, _, _, c11, c12⟩ := HP.out.cells
          have hf1 := ref_frame c.bf (.slice ab nb cb) nn wr (HH.out.bf.keep HB.out)
          clear H8 HG Hnc
          repeat' (first | go_values | go_skip | go_guarded | go_step | go_upon)
          refine Calls.mono (hf1) ?_
          rintro _ w5 ⟨⟨B1, rfl, hB1⟩, hb5⟩
          dsimp only
          have P5 := Lib.hid (HP.out.keep hb5)
          have B5 := Lib.hid (HB.out.trans (hb5.mono HB.out.size))
          have HB1 := Lib.hid hB1
          clear hb5 HP HB hf1 c10 c11 c12 hB1
          have c10 := P5.out.cells.2.2.2.2.2.2.2.2.2.2.1
          have c12 := P5.out.cells.2.2.2.2.2.2.2.2.2.2.2.2
          cases B1 with
          | false =>
            have e := H9.out.1 (.inl (by
              rcases Classical.em (frB nn c.bf) with h | h
              · exact h
              · exact absurd (HB1.out.2 h) (by decide)))
            subst e
            repeat' (first | go_values | go_skip | go_guarded | go_step | go_upon)
            go_ret
            exact ⟨rfl, B5.out⟩
          | true =>
            have hf2 := ref_frame c.af (.slice aa na ca) nn w5 (HH.out.af.keep B5.out)
            repeat' (first | go_values | go_skip | go_guarded | go_step | go_upon)
            refine Calls.mono (hf2) ?_
            rintro _ w6 ⟨⟨B2', rfl, hB2⟩, hb6⟩
            dsimp only
            have B6 := Lib.hid (B5.out.trans (hb6.mono B5.out.size))
            have HB2 := Lib.hid hB2
            clear hb6 P5 B5 hf2 c10 c12 hB2
            cases B2' with
            | false =>
              have e := H9.out.1 (.inr (by
                rcases Classical.em (frB nn c.af) with h | h
                · exact h
                · exact absurd (HB2.out.2 h) (by decide)))
              subst e
              repeat' (first | go_values | go_skip | go_guarded | go_step | go_upon)
              go_ret
              exact ⟨rfl, B6.out⟩
            | true =>
              have e := H9.out.2 (by
                rintro (h | h)
                · exact HB1.out.1 rfl h
                · exact HB2.out.1 rfl h)
              subst e
              repeat' (first | go_values | go_skip | go_guarded | go_step | go_upon)
              go_ret
              exact ⟨rfl, B6.out⟩
end Go.Proofs.Ytkpdcejnanhgoaa
