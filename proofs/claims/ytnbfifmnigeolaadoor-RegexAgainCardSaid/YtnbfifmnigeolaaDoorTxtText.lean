/- Walk: a tree is written (regex.text). Conditions: the tree may be; the tables lie. -/
import Derived.Test.YtnbfifmnigeolaaDoorTxtLaw
namespace Go.Proofs.YtnbfifmnigeolaaDoor
open Go.RowKit Go.Lib
/-- how often, its cases -/
structure RZ (mn mx : Int) (s t2 t4 R : List UInt8) : Prop where
  r1 : mn = 0 ∧ mx = -1 → R = s ++ [42]
  r2 : mn = 1 ∧ mx = -1 → R = s ++ [43]
  r3 : mn = 0 ∧ mx = 1 → R = s ++ [63]
  r4 : mn = mx → R = t2 ++ [125]
  r5 : 2 ≤ mn ∧ mx = -1 → R = t2 ++ [44, 125]
  r6 : mn ≠ mx ∧ mx ≠ -1 ∧ ¬ (mn = 0 ∧ mx = 1) → R = t4 ++ [125]
theorem rz_all {mn mx : Int} {s z1 z2 t1 t2 t3 t4 R : List UInt8} (hR : s ++ rptZ mn mx z1 z2 = R) (h1 : s ++ [123] = t1) (h2 : t1 ++ z1 = t2) (h3 : t2 ++ [44] = t3) (h4 : t3 ++ z2 = t4) : RZ mn mx s t2 t4 R := by
  subst h1 h2 h3 h4 hR
  refine ⟨?_, ?_, ?_, ?_, ?_, ?_⟩
  · rintro ⟨rfl, rfl⟩; rfl
  · rintro ⟨rfl, rfl⟩; rfl
  · rintro ⟨rfl, rfl⟩; rfl
  · rintro rfl
    unfold rptZ
    rw [if_neg (by omega), if_neg (by omega), if_neg (by omega), if_pos rfl]
    simp only [List.append_assoc]
  · rintro ⟨h, rfl⟩
    unfold rptZ
    rw [if_neg (by omega), if_neg (by omega), if_neg (by omega), if_neg (by omega), if_pos rfl]
    simp only [List.append_assoc]
  · rintro ⟨h, h', h''⟩
    unfold rptZ
    rw [if_neg (by omega), if_neg (by omega), if_neg h'', if_neg h, if_neg h']
    simp only [List.append_assoc]
section
variable {h : Nat} (IH : ∀ (r : RN) (t : Re) (w : World), ReAt w h r t → Gd h t → TT w → Calls Tryd.prog 13 #[reV r] w fun e w' => e = .returned (.string ⟨(txt h t).toArray⟩) ∧ Below w.heap.size w w')
include IH
set_option maxRecDepth 100000 in
set_option maxHeartbeats 4000000 in
theorem text_14 (r : RN) (t : Re) (w : World) (hr : ReAt w (h + 1) r t) (hg : Gd (h + 1) t) (hT : TT w) (h14 : t.kind = 1 ∨ t.kind = 4) :
    Calls Tryd.prog 13 #[reV r] w fun e w' => e = .returned (.string ⟨(txt (h + 1) t).toArray⟩) ∧ Below w.heap.size w w' := by
  have HB0 := re_box w r
  obtain ⟨k, s0, s1, s2, s3, mn, mx, a, n, cap, kids, rs, rfl, rfl, hn, hnk, hl, _, hrow, hk, hone, hkd⟩ := hr.node
  have HG := Lib.hid hg
  have HT := Lib.hid (hT.keep HB0)
  have HB := Lib.hid HB0
  have Hn := Lib.hid hn
  have Hnk := Lib.hid hnk
  clear hr hT HB0 hnk
  rcases h14 with hk1 | hk4
  · have hk1 : k = 1 := hk1
    subst hk1
    have e := txt_1 (h := h) (t := .mk 1 (s0, s1, s2, s3) mn mx kids) rfl
    have hS := fun W (hW : TabB W) => re_setText (setP (s0, s1, s2, s3)) W hW
    rw [vS_set hg.all.1] at hS
    rw [e]
    change ∀ W, TabB W → Calls _ _ _ W fun e w' => e = .returned (.string ⟨(setTx (setP (Re.mk 1 (s0, s1, s2, s3) mn mx kids).set)).toArray⟩) ∧ _ at hS
    generalize setTx (setP (Re.mk 1 (s0, s1, s2, s3) mn mx kids).set) = R at hS ⊢
    clear e hg HG hrow hk hone hkd IH hn
    simp only [reV, reC] at HB HT ⊢
    go_enter Tryd.func13, Tryd.ntmps13
    repeat' (first | go_values | go_skip | go_guarded | go_step | go_upon)
    refine Calls.mono (hS _ HT.out.1) ?_
    rintro _ w1 ⟨rfl, hb1⟩
    dsimp only
    clear hS
    repeat' (first | go_values | go_skip | go_guarded | go_step | go_upon)
    go_ret
    exact ⟨rfl, HB.out.trans (hb1.mono HB.out.size)⟩
  · have hk4 : k = 4 := hk4
    subst hk4
    obtain ⟨hmn, hmx, u, hu⟩ := rep_open (shp_open hg.shp).1 (t := .mk 4 (s0, s1, s2, s3) mn mx kids) rfl
    change (0 ≤ mn ∧ mn ≤ 20) at hmn
    change (-1 ≤ mx ∧ mx ≤ 20) at hmx
    have hu : kids = [u] := hu
    have e := txt_4 (h := h) (t := .mk 4 (s0, s1, s2, s3) mn mx kids) rfl hu
    rw [e]
    clear e
    have hgu := hg.kid (u := u) (by show u ∈ kids; rw [hu]; simp)
    have hul := hgu.len
    have hn1 : n = 1 := by rw [Hnk.out, hu]; rfl
    have hrs1 : rs.length = 1 := by rw [← hn, hn1]
    obtain ⟨r', hr'⟩ : ∃ r', rs[0]? = some r' := ⟨_, List.getElem?_eq_getElem (by omega)⟩
    obtain ⟨t', ht', hrt⟩ := hk 0 r' hr'
    have hut : t' = u := by rw [hu] at ht'; simpa using ht'.symm
    subst hut
    have hk' : r'.k = t'.kind := by rw [hkd 0 r' hr']; simp [kdOf, hu]
    obtain ⟨a0, cap0, hv, _, _, hc⟩ := hrow.open reC_length
    simp only [Value.slice.injEq] at hv
    obtain ⟨rfl, -, rfl⟩ := hv
    rcases hc with hc | ⟨b, off, rfl, hb, hc⟩
    · omega
    have C8 := row_load hc hr'
    rw [Nat.zero_mul, Nat.add_zero] at C8
    have HC := Lib.hid C8
    have hone := hrt.one
    have HBl := HB.out
    obtain ⟨c0, c1, c2, c3, c4, c5, c6, c7⟩ := C8.keep HBl hb
    have hcall := IH r' t' _ (hrt.keep HBl) hgu HT.out
    -- the node's own cells, after
    have HX : Hid (∀ W, Below (w.alloc (.cells (reC ⟨4, (s0, s1, s2, s3), mn, mx, .slice (some ⟨b, off, none⟩) n cap⟩).toArray 28)).heap.size (w.alloc (.cells (reC ⟨4, (s0, s1, s2, s3), mn, mx, .slice (some ⟨b, off, none⟩) n cap⟩).toArray 28)) W → Cells8 W w.heap.size 0 ⟨4, (s0, s1, s2, s3), mn, mx, .slice (some ⟨b, off, none⟩) n cap⟩) := Lib.hid fun W hW => by
      have hlt : w.heap.size < (w.alloc (.cells (reC ⟨4, (s0, s1, s2, s3), mn, mx, .slice (some ⟨b, off, none⟩) n cap⟩).toArray 28)).heap.size := by simp
      have hgg := Go.heap_alloc_new w (.cells (reC ⟨4, (s0, s1, s2, s3), mn, mx, .slice (some ⟨b, off, none⟩) n cap⟩).toArray 28)
      refine ⟨?_, ?_, ?_, ?_, ?_, ?_, ?_, ?_⟩ <;> (rw [hW.cell hlt, cell_of_row _ _ _ _ _ _ hgg]; rfl)
    subst hn1
    have HBb := Lib.hid (show b < w.heap.size from hb)
    obtain ⟨U, hU⟩ : ∃ U, txt h t' = U := ⟨_, rfl⟩
    rw [hU] at hcall hul ⊢
    have Hk' := Lib.hid hk'
    change Calls _ _ _ w fun e w' => e = Ending.returned (.string ⟨(brk (decide (t'.kind ≠ 1)) U ++ rptZ mn mx (Lib.itoa mn) (Lib.itoa mx)).toArray⟩) ∧ _
    rw [← hk']
    have hz1 := itoa_small (n := mn) (by omega)
    have hz2 := itoa_small (n := mx) (by omega)
    have hI1 := fun W (hW : Tab10 W) => itoa_t mn (by omega) (by omega) W hW
    have hI2 := fun W (hW : Tab10 W) => itoa_t mx (by omega) (by omega) W hW
    generalize Lib.itoa mn = z1 at hz1 hI1 ⊢
    generalize Lib.itoa mx = z2 at hz2 hI2 ⊢
    obtain ⟨s, hs⟩ : ∃ s, brk (decide (r'.k ≠ 1)) U = s := ⟨_, rfl⟩
    have hsl := brk_len (decide (r'.k ≠ 1)) U
    rw [hs] at hsl ⊢
    obtain ⟨R, hR⟩ : ∃ R, s ++ rptZ mn mx z1 z2 = R := ⟨_, rfl⟩
    rw [hR]
    have HR := Lib.hid hR
    clear hR
    clear hU hk' hgu hrt ht' hu hr' hrs1 hk hkd hrow hc IH hg HG hn C8 HBl hb hl
    simp only [reV, reC] at HB HT HX hcall c0 c1 c2 c3 c4 c5 c6 c7 ⊢
    by_cases hk1 : r'.k = 1
    · have e : s = U := by rw [← hs, hk1]; rfl
      subst e
      have hkb : (r'.k != 1) = false := by rw [hk1]; rfl
      clear hs hk1
      go_enter Tryd.func13, Tryd.ntmps13
      repeat' (first | go_values | go_skip | go_guarded | go_step | go_upon)
      refine Calls.mono (hcall) ?_
      rintro _ w1 ⟨rfl, hb1⟩
      dsimp only
      clear hcall c0 c1 c2 c3 c4 c5 c6 c7
      have HB1 := Lib.hid (HB.out.trans (hb1.mono HB.out.size))
      have HT1 := Lib.hid (HT.out.keep hb1)
      have X1 := Lib.hid (HX.out w1 hb1)
      have HL1 : Hid (w.heap.size < w1.heap.size) := Lib.hid (Nat.lt_of_lt_of_le (by simp) hb1.size)
      clear hb1 HX HB HT
      obtain ⟨c0, c1, c2, c3, c4, c5, c6, c7⟩ := HC.out.keep HB1.out HBb.out
      obtain ⟨x0, x1, x2, x3, x4, x5, x6, x7⟩ := X1.out
      clear hsl
      have hsl : s.length ≤ 2048002 := by omega
      repeat' (go_not_at_region 8; first | go_values | go_skip | go_guarded | go_step | go_upon)
      clear c0 c1 c2 c3 c4 c5 c6 c7 x0 x1 x2 x3 x4 x5 x6 x7
      have q5 : ∀ nq : WB w1, nq.1.cell? ⟨w.heap.size, 5, none⟩ = some (.int .i64 mn) := fun nq => (X1.out.keep nq.2 HL1.out).2.2.2.2.2.1
      have q6 : ∀ nq : WB w1, nq.1.cell? ⟨w.heap.size, 6, none⟩ = some (.int .i64 mx) := fun nq => (X1.out.keep nq.2 HL1.out).2.2.2.2.2.2.1
      -- s (at most 2048002 letters), z1, z2: the texts that are put together
      obtain ⟨t1, ht1⟩ : ∃ t, s ++ [123] = t := ⟨_, rfl⟩
      obtain ⟨t2, ht2⟩ : ∃ t, t1 ++ z1 = t := ⟨_, rfl⟩
      obtain ⟨t3, ht3⟩ : ∃ t, t2 ++ [44] = t := ⟨_, rfl⟩
      obtain ⟨t4, ht4⟩ : ∃ t, t3 ++ z2 = t := ⟨_, rfl⟩
      have l1 : t1.length ≤ 2048003 := by rw [← ht1]; simp; omega
      have l2 : t2.length ≤ 2048024 := by rw [← ht2, List.length_append]; omega
      have l3 : t3.length ≤ 2048025 := by rw [← ht3]; simp; omega
      have l4 : t4.length ≤ 2048046 := by rw [← ht4, List.length_append]; omega
      have d1 := ba_lits s [123]
      have d2 := ba_lits t1 z1
      have d3 := ba_lits t2 [44]
      have d4 := ba_lits t3 z2
      rw [ht1] at d1
      rw [ht2] at d2
      rw [ht3] at d3
      rw [ht4] at d4
      have f1 := ba_lits s [42]
      have f2 := ba_lits s [43]
      have f3 := ba_lits s [63]
      have f4 := ba_lits t2 [125]
      have f5 := ba_lits t2 [44, 125]
      have f6 := ba_lits t4 [125]
      have o1 : ¬ 9223372036854775807 < s.length + 1 := by omega
      have o2 : ¬ 9223372036854775807 < t1.length + z1.length := by omega
      have o3 : ¬ 9223372036854775807 < t2.length + 1 := by omega
      have o4 : ¬ 9223372036854775807 < t3.length + z2.length := by omega
      have o5 : ¬ 9223372036854775807 < t2.length + 2 := by omega
      have o6 : ¬ 9223372036854775807 < t4.length + 1 := by omega
      have T1 := Lib.hid ht1
      have T2 := Lib.hid ht2
      have T3 := Lib.hid ht3
      have T4 := Lib.hid ht4
      clear ht1 ht2 ht3 ht4
      have HZ := Lib.hid (rz_all HR.out T1.out T2.out T3.out T4.out)
      clear HR T1 T2 T3 T4
      repeat' (go_not_at_region 8; first | go_values | go_skip | go_guarded | go_step | go_upon)
      refine wp_region_anyC (by kernel_rfl) w1 ?_
      refine wpAnyC_take (i := 0) (v := _) rfl (by kernel_rfl) (by kernel_rfl) (by kernel_rfl) (fun _ _ _ h => h) (Or.inl ⟨by rfl, fun w ⟨nq, hw⟩ => by (subst hw; go_simp <;> with_reducible rfl)⟩) (by go_simp <;> with_reducible rfl) ?_
      refine wpAnyC_take (i := 1) (v := _) rfl (by kernel_rfl) (by kernel_rfl) (by kernel_rfl) (fun _ _ _ h => h) (Or.inl ⟨by rfl, fun w ⟨nq, hw⟩ => by (subst hw; go_simp <;> with_reducible rfl)⟩) (by go_simp <;> with_reducible rfl) ?_
      refine wpAnyC_take (i := 3) (v := _) rfl (by kernel_rfl) (by kernel_rfl) (by kernel_rfl) (fun _ _ _ h => h) (Or.inl ⟨by rfl, fun w ⟨nq, hw⟩ => by (subst hw; go_simp <;> with_reducible rfl)⟩) (by go_simp <;> with_reducible rfl) ?_
      refine wpAnyC_take (i := 4) (v := _) rfl (by kernel_rfl) (by kernel_rfl) (by kernel_rfl) (fun _ _ _ h => h) (Or.inl ⟨by rfl, fun w ⟨nq, hw⟩ => by (subst hw; go_simp <;> with_reducible rfl)⟩) (by go_simp <;> with_reducible rfl) ?_
      refine genC06 (fun W => Below w1.heap.size w1 W) (Below.refl _ _).drew ?_
      intro w2 hb2
      refine wpAnyC_ready (CW.of (hb2)) (rs := [2]) (by kernel_rfl) (by simp) ?_
      refine (AllReadyC.cons rfl (fun K hK => ?_) AllReadyC.nil)
      go_simp
      refine Calls.mono (hI1 w2 (tab10_below HT1.out.2 hb2)) ?_
      rintro _ w3 ⟨rfl, hb3⟩
      dsimp only
      refine hK _ _ ?_
      clear hK K
      have hb4 := hb2.trans (hb3.mono hb2.size)
      refine wpAnyC_ready (CW.of (hb4)) (rs := [5]) (by kernel_rfl) (by simp) ?_
      refine (AllReadyC.cons rfl (fun K hK => ?_) AllReadyC.nil)
      go_simp
      refine Calls.mono (hI2 w3 (tab10_below HT1.out.2 hb4)) ?_
      rintro _ w5 ⟨rfl, hb5⟩
      dsimp only
      refine hK _ _ ?_
      clear hK K
      have hb6 := hb4.trans (hb5.mono hb4.size)
      refine wpAnyC_take (i := 6) (v := _) rfl (by kernel_rfl) (by kernel_rfl) (by kernel_rfl) (fun _ _ _ h => h) (Or.inl ⟨by rfl, fun w ⟨nq, hw⟩ => by (subst hw; go_simp <;> with_reducible rfl)⟩) (by go_simp <;> with_reducible rfl) ?_
      refine wpAnyC_take (i := 7) (v := _) rfl (by kernel_rfl) (by kernel_rfl) (by kernel_rfl) (fun _ _ _ h => h) (Or.inl ⟨by rfl, fun w ⟨nq, hw⟩ => by (subst hw; go_simp <;> with_reducible rfl)⟩) (by go_simp <;> with_reducible rfl) ?_
      refine wpAnyC_done (by kernel_rfl) (CW.of (hb6)) (by go_simp <;> with_reducible rfl) ?_
      have HB5 := Lib.hid (HB1.out.trans (hb6.mono HB1.out.size))
      have x5 := q5 ⟨w5, hb6⟩
      have x6 := q6 ⟨w5, hb6⟩
      dsimp only at x5 x6
      clear hb2 hb3 hb4 hb5 hb6 q5 q6 hI1 hI2 X1 HT1 HB1 HL1
      have hc1 : mn = 0 ∨ mn = 1 ∨ 2 ≤ mn := by omega
      have hc2 : mx = -1 ∨ mx = 0 ∨ mx = 1 ∨ 2 ≤ mx := by omega
      rcases hc1 with rfl | rfl | hm2
      · rcases hc2 with rfl | rfl | rfl | hm3
        · have e := HZ.out.r1 (by omega)
          subst e
          clear HZ
          repeat' (first | go_values | go_skip | go_guarded | go_step | go_upon)
          go_ret
          exact ⟨rfl, HB5.out⟩
        · have e := HZ.out.r4 (by omega)
          subst e
          clear HZ
          repeat' (first | go_values | go_skip | go_guarded | go_step | go_upon)
          go_ret
          exact ⟨rfl, HB5.out⟩
        · have e := HZ.out.r3 (by omega)
          subst e
          clear HZ
          repeat' (first | go_values | go_skip | go_guarded | go_step | go_upon)
          go_ret
          exact ⟨rfl, HB5.out⟩
        · have b1 : (mx == -1) = false := beq_false_of_ne (by omega)
          have b2 : (mx == 1) = false := beq_false_of_ne (by omega)
          have b3 : ((0 : Int) == mx) = false := beq_false_of_ne (by omega)
          have b4 : (mx != 0) = true := bne_iff_ne.2 (by omega)
          have e := HZ.out.r6 (by omega)
          subst e
          clear HZ
          repeat' (first | go_values | go_skip | go_guarded | go_step | go_upon)
          go_ret
          exact ⟨rfl, HB5.out⟩
      · rcases hc2 with rfl | rfl | rfl | hm3
        · have e := HZ.out.r2 (by omega)
          subst e
          clear HZ
          repeat' (first | go_values | go_skip | go_guarded | go_step | go_upon)
          go_ret
          exact ⟨rfl, HB5.out⟩
        · have e := HZ.out.r6 (by omega)
          subst e
          clear HZ
          repeat' (first | go_values | go_skip | go_guarded | go_step | go_upon)
          go_ret
          exact ⟨rfl, HB5.out⟩
        · have e := HZ.out.r4 (by omega)
          subst e
          clear HZ
          repeat' (first | go_values | go_skip | go_guarded | go_step | go_upon)
          go_ret
          exact ⟨rfl, HB5.out⟩
        · have b1 : (mx == -1) = false := beq_false_of_ne (by omega)
          have b2 : (mx == 1) = false := beq_false_of_ne (by omega)
          have b3 : ((1 : Int) == mx) = false := beq_false_of_ne (by omega)
          have b4 : (mx != 1) = true := bne_iff_ne.2 (by omega)
          have e := HZ.out.r6 (by omega)
          subst e
          clear HZ
          repeat' (first | go_values | go_skip | go_guarded | go_step | go_upon)
          go_ret
          exact ⟨rfl, HB5.out⟩
      · have a1 : (mn == 0) = false := beq_false_of_ne (by omega)
        have a2 : (mn == 1) = false := beq_false_of_ne (by omega)
        rcases hc2 with rfl | rfl | rfl | hm3
        · have b1 : (mn == -1) = false := beq_false_of_ne (by omega)
          have e := HZ.out.r5 (by omega)
          subst e
          clear HZ
          repeat' (first | go_values | go_skip | go_guarded | go_step | go_upon)
          go_ret
          exact ⟨rfl, HB5.out⟩
        · have b4 : ((0 : Int) != mn) = true := bne_iff_ne.2 (by omega)
          have e := HZ.out.r6 (by omega)
          subst e
          clear HZ
          repeat' (first | go_values | go_skip | go_guarded | go_step | go_upon)
          go_ret
          exact ⟨rfl, HB5.out⟩
        · have b4 : ((1 : Int) != mn) = true := bne_iff_ne.2 (by omega)
          have e := HZ.out.r6 (by omega)
          subst e
          clear HZ
          repeat' (first | go_values | go_skip | go_guarded | go_step | go_upon)
          go_ret
          exact ⟨rfl, HB5.out⟩
        · have b1 : (mx == -1) = false := beq_false_of_ne (by omega)
          have b2 : (mx == 1) = false := beq_false_of_ne (by omega)
          by_cases he : mn = mx
          · subst he
            have e := HZ.out.r4 (by omega)
            subst e
            clear HZ
            repeat' (first | go_values | go_skip | go_guarded | go_step | go_upon)
            go_ret
            exact ⟨rfl, HB5.out⟩
          · have b3 : (mn == mx) = false := beq_false_of_ne he
            have b4 : (mx != mn) = true := bne_iff_ne.2 fun q => he q.symm
            have e := HZ.out.r6 (by omega)
            subst e
            clear HZ
            repeat' (first | go_values | go_skip | go_guarded | go_step | go_upon)
            go_ret
            exact ⟨rfl, HB5.out⟩
    · have e : s = ([40] ++ U) ++ [41] := by rw [← hs]; unfold brk; rw [if_pos (by simpa using hk1)]
      have hkb : (r'.k != 1) = true := bne_iff_ne.2 hk1
      clear hs hk1 hsl
      have g1 := ba_lits [40] U
      have hsl : s.length ≤ 2048002 := by rw [e]; simp; omega
      obtain ⟨y, hy⟩ : ∃ y, [40] ++ U = y := ⟨_, rfl⟩
      have hyl : y.length ≤ 2048001 := by rw [← hy]; simp; omega
      rw [hy] at g1 e
      have g2 := ba_lits y [41]
      rw [← e] at g2
      have g3 : ¬ 9223372036854775807 < 1 + U.length := by omega
      have g4 : ¬ 9223372036854775807 < y.length + 1 := by omega
      clear e hy
      go_enter Tryd.func13, Tryd.ntmps13
      repeat' (first | go_values | go_skip | go_guarded | go_step | go_upon)
      refine Calls.mono (hcall) ?_
      rintro _ w1 ⟨rfl, hb1⟩
      dsimp only
      clear hcall c0 c1 c2 c3 c4 c5 c6 c7
      have HB1 := Lib.hid (HB.out.trans (hb1.mono HB.out.size))
      have HT1 := Lib.hid (HT.out.keep hb1)
      have X1 := Lib.hid (HX.out w1 hb1)
      have HL1 : Hid (w.heap.size < w1.heap.size) := Lib.hid (Nat.lt_of_lt_of_le (by simp) hb1.size)
      clear hb1 HX HB HT
      obtain ⟨c0, c1, c2, c3, c4, c5, c6, c7⟩ := HC.out.keep HB1.out HBb.out
      obtain ⟨x0, x1, x2, x3, x4, x5, x6, x7⟩ := X1.out
      repeat' (go_not_at_region 8; first | go_values | go_skip | go_guarded | go_step | go_upon)
      clear c0 c1 c2 c3 c4 c5 c6 c7 x0 x1 x2 x3 x4 x5 x6 x7 g1 g2 g3 g4
      have q5 : ∀ nq : WB w1, nq.1.cell? ⟨w.heap.size, 5, none⟩ = some (.int .i64 mn) := fun nq => (X1.out.keep nq.2 HL1.out).2.2.2.2.2.1
      have q6 : ∀ nq : WB w1, nq.1.cell? ⟨w.heap.size, 6, none⟩ = some (.int .i64 mx) := fun nq => (X1.out.keep nq.2 HL1.out).2.2.2.2.2.2.1
      -- s (at most 2048002 letters), z1, z2: the texts that are put together
      obtain ⟨t1, ht1⟩ : ∃ t, s ++ [123] = t := ⟨_, rfl⟩
      obtain ⟨t2, ht2⟩ : ∃ t, t1 ++ z1 = t := ⟨_, rfl⟩
      obtain ⟨t3, ht3⟩ : ∃ t, t2 ++ [44] = t := ⟨_, rfl⟩
      obtain ⟨t4, ht4⟩ : ∃ t, t3 ++ z2 = t := ⟨_, rfl⟩
      have l1 : t1.length ≤ 2048003 := by rw [← ht1]; simp; omega
      have l2 : t2.length ≤ 2048024 := by rw [← ht2, List.length_append]; omega
      have l3 : t3.length ≤ 2048025 := by rw [← ht3]; simp; omega
      have l4 : t4.length ≤ 2048046 := by rw [← ht4, List.length_append]; omega
      have d1 := ba_lits s [123]
      have d2 := ba_lits t1 z1
      have d3 := ba_lits t2 [44]
      have d4 := ba_lits t3 z2
      rw [ht1] at d1
      rw [ht2] at d2
      rw [ht3] at d3
      rw [ht4] at d4
      have f1 := ba_lits s [42]
      have f2 := ba_lits s [43]
      have f3 := ba_lits s [63]
      have f4 := ba_lits t2 [125]
      have f5 := ba_lits t2 [44, 125]
      have f6 := ba_lits t4 [125]
      have o1 : ¬ 9223372036854775807 < s.length + 1 := by omega
      have o2 : ¬ 9223372036854775807 < t1.length + z1.length := by omega
      have o3 : ¬ 9223372036854775807 < t2.length + 1 := by omega
      have o4 : ¬ 9223372036854775807 < t3.length + z2.length := by omega
      have o5 : ¬ 9223372036854775807 < t2.length + 2 := by omega
      have o6 : ¬ 9223372036854775807 < t4.length + 1 := by omega
      have T1 := Lib.hid ht1
      have T2 := Lib.hid ht2
      have T3 := Lib.hid ht3
      have T4 := Lib.hid ht4
      clear ht1 ht2 ht3 ht4
      have HZ := Lib.hid (rz_all HR.out T1.out T2.out T3.out T4.out)
      clear HR T1 T2 T3 T4
      repeat' (go_not_at_region 8; first | go_values | go_skip | go_guarded | go_step | go_upon)
      refine wp_region_anyC (by kernel_rfl) w1 ?_
      refine wpAnyC_take (i := 0) (v := _) rfl (by kernel_rfl) (by kernel_rfl) (by kernel_rfl) (fun _ _ _ h => h) (Or.inl ⟨by rfl, fun w ⟨nq, hw⟩ => by (subst hw; go_simp <;> with_reducible rfl)⟩) (by go_simp <;> with_reducible rfl) ?_
      refine wpAnyC_take (i := 1) (v := _) rfl (by kernel_rfl) (by kernel_rfl) (by kernel_rfl) (fun _ _ _ h => h) (Or.inl ⟨by rfl, fun w ⟨nq, hw⟩ => by (subst hw; go_simp <;> with_reducible rfl)⟩) (by go_simp <;> with_reducible rfl) ?_
      refine wpAnyC_take (i := 3) (v := _) rfl (by kernel_rfl) (by kernel_rfl) (by kernel_rfl) (fun _ _ _ h => h) (Or.inl ⟨by rfl, fun w ⟨nq, hw⟩ => by (subst hw; go_simp <;> with_reducible rfl)⟩) (by go_simp <;> with_reducible rfl) ?_
      refine wpAnyC_take (i := 4) (v := _) rfl (by kernel_rfl) (by kernel_rfl) (by kernel_rfl) (fun _ _ _ h => h) (Or.inl ⟨by rfl, fun w ⟨nq, hw⟩ => by (subst hw; go_simp <;> with_reducible rfl)⟩) (by go_simp <;> with_reducible rfl) ?_
      refine genC06 (fun W => Below w1.heap.size w1 W) (Below.refl _ _).drew ?_
      intro w2 hb2
      refine wpAnyC_ready (CW.of (hb2)) (rs := [2]) (by kernel_rfl) (by simp) ?_
      refine (AllReadyC.cons rfl (fun K hK => ?_) AllReadyC.nil)
      go_simp
      refine Calls.mono (hI1 w2 (tab10_below HT1.out.2 hb2)) ?_
      rintro _ w3 ⟨rfl, hb3⟩
      dsimp only
      refine hK _ _ ?_
      clear hK K
      have hb4 := hb2.trans (hb3.mono hb2.size)
      refine wpAnyC_ready (CW.of (hb4)) (rs := [5]) (by kernel_rfl) (by simp) ?_
      refine (AllReadyC.cons rfl (fun K hK => ?_) AllReadyC.nil)
      go_simp
      refine Calls.mono (hI2 w3 (tab10_below HT1.out.2 hb4)) ?_
      rintro _ w5 ⟨rfl, hb5⟩
      dsimp only
      refine hK _ _ ?_
      clear hK K
      have hb6 := hb4.trans (hb5.mono hb4.size)
      refine wpAnyC_take (i := 6) (v := _) rfl (by kernel_rfl) (by kernel_rfl) (by kernel_rfl) (fun _ _ _ h => h) (Or.inl ⟨by rfl, fun w ⟨nq, hw⟩ => by (subst hw; go_simp <;> with_reducible rfl)⟩) (by go_simp <;> with_reducible rfl) ?_
      refine wpAnyC_take (i := 7) (v := _) rfl (by kernel_rfl) (by kernel_rfl) (by kernel_rfl) (fun _ _ _ h => h) (Or.inl ⟨by rfl, fun w ⟨nq, hw⟩ => by (subst hw; go_simp <;> with_reducible rfl)⟩) (by go_simp <;> with_reducible rfl) ?_
      refine wpAnyC_done (by kernel_rfl) (CW.of (hb6)) (by go_simp <;> with_reducible rfl) ?_
      have HB5 := Lib.hid (HB1.out.trans (hb6.mono HB1.out.size))
      have x5 := q5 ⟨w5, hb6⟩
      have x6 := q6 ⟨w5, hb6⟩
      dsimp only at x5 x6
      clear hb2 hb3 hb4 hb5 hb6 q5 q6 hI1 hI2 X1 HT1 HB1 HL1
      have hc1 : mn = 0 ∨ mn = 1 ∨ 2 ≤ mn := by omega
      have hc2 : mx = -1 ∨ mx = 0 ∨ mx = 1 ∨ 2 ≤ mx := by omega
      rcases hc1 with rfl | rfl | hm2
      · rcases hc2 with rfl | rfl | rfl | hm3
        · have e := HZ.out.r1 (by omega)
          subst e
          clear HZ
          repeat' (first | go_values | go_skip | go_guarded | go_step | go_upon)
          go_ret
          exact ⟨rfl, HB5.out⟩
        · have e := HZ.out.r4 (by omega)
          subst e
          clear HZ
          repeat' (first | go_values | go_skip | go_guarded | go_step | go_upon)
          go_ret
          exact ⟨rfl, HB5.out⟩
        · have e := HZ.out.r3 (by omega)
          subst e
          clear HZ
          repeat' (first | go_values | go_skip | go_guarded | go_step | go_upon)
          go_ret
          exact ⟨rfl, HB5.out⟩
        · have b1 : (mx == -1) = false := beq_false_of_ne (by omega)
          have b2 : (mx == 1) = false := beq_false_of_ne (by omega)
          have b3 : ((0 : Int) == mx) = false := beq_false_of_ne (by omega)
          have b4 : (mx != 0) = true := bne_iff_ne.2 (by omega)
          have e := HZ.out.r6 (by omega)
          subst e
          clear HZ
          repeat' (first | go_values | go_skip | go_guarded | go_step | go_upon)
          go_ret
          exact ⟨rfl, HB5.out⟩
      · rcases hc2 with rfl | rfl | rfl | hm3
        · have e := HZ.out.r2 (by omega)
          subst e
          clear HZ
          repeat' (first | go_values | go_skip | go_guarded | go_step | go_upon)
          go_ret
          exact ⟨rfl, HB5.out⟩
        · have e := HZ.out.r6 (by omega)
          subst e
          clear HZ
          repeat' (first | go_values | go_skip | go_guarded | go_step | go_upon)
          go_ret
          exact ⟨rfl, HB5.out⟩
        · have e := HZ.out.r4 (by omega)
          subst e
          clear HZ
          repeat' (first | go_values | go_skip | go_guarded | go_step | go_upon)
          go_ret
          exact ⟨rfl, HB5.out⟩
        · have b1 : (mx == -1) = false := beq_false_of_ne (by omega)
          have b2 : (mx == 1) = false := beq_false_of_ne (by omega)
          have b3 : ((1 : Int) == mx) = false := beq_false_of_ne (by omega)
          have b4 : (mx != 1) = true := bne_iff_ne.2 (by omega)
          have e := HZ.out.r6 (by omega)
          subst e
          clear HZ
          repeat' (first | go_values | go_skip | go_guarded | go_step | go_upon)
          go_ret
          exact ⟨rfl, HB5.out⟩
      · have a1 : (mn == 0) = false := beq_false_of_ne (by omega)
        have a2 : (mn == 1) = false := beq_false_of_ne (by omega)
        rcases hc2 with rfl | rfl | rfl | hm3
        · have b1 : (mn == -1) = false := beq_false_of_ne (by omega)
          have e := HZ.out.r5 (by omega)
          subst e
          clear HZ
          repeat' (first | go_values | go_skip | go_guarded | go_step | go_upon)
          go_ret
          exact ⟨rfl, HB5.out⟩
        · have b4 : ((0 : Int) != mn) = true := bne_iff_ne.2 (by omega)
          have e := HZ.out.r6 (by omega)
          subst e
          clear HZ
          repeat' (first | go_values | go_skip | go_guarded | go_step | go_upon)
          go_ret
          exact ⟨rfl, HB5.out⟩
        · have b4 : ((1 : Int) != mn) = true := bne_iff_ne.2 (by omega)
          have e := HZ.out.r6 (by omega)
          subst e
          clear HZ
          repeat' (first | go_values | go_skip | go_guarded | go_step | go_upon)
          go_ret
          exact ⟨rfl, HB5.out⟩
        · have b1 : (mx == -1) = false := beq_false_of_ne (by omega)
          have b2 : (mx == 1) = false := beq_false_of_ne (by omega)
          by_cases he : mn = mx
          · subst he
            have e := HZ.out.r4 (by omega)
            subst e
            clear HZ
            repeat' (first | go_values | go_skip | go_guarded | go_step | go_upon)
            go_ret
            exact ⟨rfl, HB5.out⟩
          · have b3 : (mn == mx) = false := beq_false_of_ne he
            have b4 : (mx != mn) = true := bne_iff_ne.2 fun q => he q.symm
            have e := HZ.out.r6 (by omega)
            subst e
            clear HZ
            repeat' (first | go_values | go_skip | go_guarded | go_step | go_upon)
            go_ret
            exact ⟨rfl, HB5.out⟩
end
end Go.Proofs.YtnbfifmnigeolaaDoor
