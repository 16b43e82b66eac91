/- Walk: the statement VerifyChecks. Condition: the program lies in memory. -/
import Derived.Test.YtkhggnlanopgkaaVerFew
namespace Go.Proofs.Ytkhggnlanopgkaa
open Go.RowKit
set_option maxRecDepth 100000 in
set_option maxHeartbeats 4000000 in
theorem walk_VerifyChecks (p : Prg) (v : PV) (w : World) (H : PrgAt w v p) : Calls Try.prog 3 #[pgV p v] w fun e w' => e = .returned (.bool true) ∧ Below w.heap.size w w' := by
  have HH := Lib.hid H
  obtain ⟨ac, cc, hvc, hcc, hmc, _⟩ := H.code.open icL_len
  obtain ⟨vc, vt, vx, vs, vk, vv⟩ := v
  dsimp only at hvc
  subst hvc
  obtain ⟨n, hn⟩ : ∃ n, n = p.code.length := ⟨_, rfl⟩
  have HP : Hid (PBox (w.alloc (.cells (pgC p ⟨.slice ac p.code.length cc, vt, vx, vs, vk, vv⟩) 30)) w.heap.size p ⟨.slice ac p.code.length cc, vt, vx, vs, vk, vv⟩) := Lib.hid (PBox.new _ _ _)
  have Hb0 : Hid (Below w.heap.size w (w.alloc (.cells (pgC p ⟨.slice ac p.code.length cc, vt, vx, vs, vk, vv⟩) 30))) := Lib.hid ((Below.refl _ _).alloc (Nat.le_refl _) _)
  have HA := Lib.hid fun w H => ver_Check p ⟨.slice ac p.code.length cc, vt, vx, vs, vk, vv⟩ w H
  have HB := Lib.hid fun w H => ref_Shape p ⟨.slice ac p.code.length cc, vt, vx, vs, vk, vv⟩ w H
  have HC := Lib.hid fun w H W => law_few p ⟨.slice ac p.code.length cc, vt, vx, vs, vk, vv⟩ w H W
  have HD := Lib.hid fun w H => ref_Check p ⟨.slice ac p.code.length cc, vt, vx, vs, vk, vv⟩ w H
  have Hc1 : Hid ((shapeI p).1 ≠ 0 → checkI p = shapeI p) := Lib.hid fun h => check_shape h
  have Hc2 : Hid ((shapeI p).1 = 0 → checkI p = (0, 0) ∨ ∃ k, k < n ∧ checkI p = (231, (k : Int))) := Lib.hid fun h => by
    unfold checkI
    rw [if_pos h, hn]
    exact wrong_cases p _
  have Hsw : Hid ((shapeI p).1 = 0 → Whole p) := Lib.hid fun h => (shape_whole h).1
  obtain ⟨s1, hs1⟩ : ∃ s, s = (shapeI p).1 := ⟨_, rfl⟩
  obtain ⟨s2, hs2⟩ : ∃ s, s = (shapeI p).2 := ⟨_, rfl⟩
  have Hs : Hid (shapeI p = (s1, s2)) := Lib.hid (by rw [hs1, hs2])
  obtain ⟨c1, hc1⟩ : ∃ s, s = (checkI p).1 := ⟨_, rfl⟩
  obtain ⟨c2, hc2⟩ : ∃ s, s = (checkI p).2 := ⟨_, rfl⟩
  have Hcc : Hid (checkI p = (c1, c2)) := Lib.hid (by rw [hc1, hc2])
  rw [← hs1, ← hs2] at HB
  rw [← hc1, ← hc2] at HA HD
  rw [← hs1] at Hc1 Hc2 Hsw
  rw [Hs.out, Hcc.out] at Hc1
  rw [Hcc.out] at Hc2
  rw [← hn] at HH HP Hb0 HA HB HC HD
  rw [← hn]
  clear hn hs1 hs2 hc1 hc2 hcc hmc H
  go_enter Try.func3, Try.ntmps3
  repeat' (first | (with_reducible refine load_pg HP.out _ rfl rfl ?_) | go_values | go_skip | go_guarded | go_step | go_upon)
  refine Calls.mono (HA.out _ (HH.out.keep Hb0.out)) ?_
  rintro _ w1 ⟨rfl, hb1⟩
  dsimp only
  have P1 := Lib.hid (HP.out.keep hb1)
  have B1 := Lib.hid (Hb0.out.trans (hb1.mono Hb0.out.size))
  clear hb1 HP Hb0 HA
  repeat' (first | (with_reducible refine load_pg P1.out _ rfl rfl ?_) | go_values | go_skip | go_guarded | go_step | go_upon)
  refine Calls.mono (HB.out _ (HH.out.keep B1.out)) ?_
  rintro _ w2 ⟨rfl, hb2⟩
  dsimp only
  have P2 := Lib.hid (P1.out.keep hb2)
  have B2 := Lib.hid (B1.out.trans (hb2.mono B1.out.size))
  clear hb2 P1 B1 HB
  by_cases h0 : s1 = 0
  rotate_left
  · have e := Hc1.out h0
    simp only [Prod.mk.injEq] at e
    obtain ⟨e1, e2⟩ := e
    have hne : (s1 != 0) = true := by rw [bne_iff_ne]; exact h0
    clear h0 Hc1 Hc2 Hsw Hs Hcc
    subst e1 e2
    repeat' (first | go_values | go_skip | go_guarded | go_step | go_upon)
    go_ret
    exact ⟨rfl, B2.out⟩
  · have hne : (s1 != 0) = false := by rw [bne_eq_false_iff_eq]; exact h0
    have Hwh := Lib.hid (Hsw.out h0)
    have Hc3 := Lib.hid (Hc2.out h0)
    clear h0 Hc1 Hc2 Hsw Hs Hcc
    repeat' (first | (with_reducible refine load_pg P2.out _ rfl rfl ?_) | go_values | go_skip | go_guarded | go_step | go_upon)
    refine Calls.mono (HC.out _ (HH.out.keep B2.out) Hwh.out) ?_
    rintro _ w3 ⟨c, rfl, hb3⟩
    dsimp only
    have P3 := Lib.hid (P2.out.keep hb3)
    have B3 := Lib.hid (B2.out.trans (hb3.mono B2.out.size))
    clear hb3 P2 B2 HC hne
    cases c with
    | true =>
      repeat' (first | (with_reducible refine load_pg P3.out _ rfl rfl ?_) | go_values | go_skip | go_guarded | go_step | go_upon)
      refine Calls.mono (HD.out _ (HH.out.keep B3.out)) ?_
      rintro _ w4 ⟨rfl, hb4⟩
      dsimp only
      have B4 := Lib.hid (B3.out.trans (hb4.mono B3.out.size))
      clear hb4 P3 B3 HD Hc3
      repeat' (first | go_values | go_skip | go_guarded | go_step | go_upon)
      go_ret
      exact ⟨rfl, B4.out⟩
    | false =>
      have c4 := P3.out.cell 4
      rcases Hc3.out with e | ⟨k, hk, e⟩
      · simp only [Prod.mk.injEq] at e
        obtain ⟨rfl, rfl⟩ := e
        clear Hc3
        repeat' (first | go_values | go_skip | go_guarded | go_step | go_upon)
        go_ret
        exact ⟨rfl, B3.out⟩
      · simp only [Prod.mk.injEq] at e
        obtain ⟨rfl, rfl⟩ := e
        clear Hc3
        have hk' : (k : Int) < (n : Int) := by omega
        repeat' (first | go_values | go_skip | go_guarded | go_step | go_upon)
        go_ret
        exact ⟨rfl, B3.out⟩
theorem law_VerifyChecks (w : World) (p : Prg) (v : PV) (H : PrgAt w v p) : Calls Try.prog 3 #[pgV p v] w fun e w' => e = .returned (.bool true) ∧ Below w.heap.size w w' := walk_VerifyChecks p v w H
end Go.Proofs.Ytkhggnlanopgkaa
