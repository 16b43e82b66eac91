/- Walk: the statement VerifySound. Conditions: the program and the texts lie in memory; no text is longer than 1048576 bytes. -/
import Derived.Test.YtkpdcejnanhgoaaPk26
import Derived.Test.YtkpdcejnanhgoaaPk23
namespace Go.Proofs.Ytkpdcejnanhgoaa
open Go.RowKit
theorem bnd_self {n : Int} (h : 0 ≤ n ∧ n ≤ 1048576) : bndI n = n := by unfold bndI; omega
theorem room_is {p : Prg} (h : Whole p) (n : Nat) : roomI p n = p.grow * n + p.rest + p.extra := by
  obtain ⟨h1, h2, h3⟩ := whole_small h
  unfold roomI
  rw [bnd_self h1, bnd_self h2, bnd_self h3]
set_option maxRecDepth 100000 in
set_option maxHeartbeats 4000000 in
theorem law_VerifySound (w : World) (p : Prg) (v : PV) (H : PrgAt w v p) (vi : Value) (ys : List (List UInt8)) (hi : RowOf strC 1 w vi ys) (hy : ∀ y ∈ ys, y.length ≤ 1048576) (f : Int) (_ : I64 f) :
    Calls Try.prog 4 #[pgV p v, vi, .int .i64 f] w fun e w' => e = .returned (.bool true) ∧ Below w.heap.size w w' := by
  obtain ⟨ai, ci, rfl, _, _, hcell⟩ := RowOf.open (f := strC) (sz := 1) (fun _ => rfl) hi
  have HH := Lib.hid H
  have HP : Hid (PBox (w.alloc (.cells (pgC p v) 45)) w.heap.size p v) := Lib.hid (PBox.new _ _ _)
  have Hb0 : Hid (Below w.heap.size w (w.alloc (.cells (pgC p v) 45))) := Lib.hid ((Below.refl _ _).alloc (Nat.le_refl _) _)
  have HA := Lib.hid fun w H => ver_Check p v w H
  have HR := Lib.hid fun w x f H h => vm_Run p v w x f H (whole_p64 h) (whole_keys h)
  have Hck : Hid ((checkI p).1 = 0 → checkI p = (0, 0)) := Lib.hid check_zero
  obtain ⟨c1, hc1⟩ : ∃ c, c = (checkI p).1 := ⟨_, rfl⟩
  obtain ⟨c2, hc2⟩ : ∃ c, c = (checkI p).2 := ⟨_, rfl⟩
  rw [← hc1] at HA Hck
  rw [← hc2] at HA
  obtain ⟨n, hn⟩ : ∃ n, n = ys.length := ⟨_, rfl⟩
  have Hn := Lib.hid hn
  rw [← hn] at hcell ⊢
  have Hy := Lib.hid hy
  have Hcell := Lib.hid hcell
  obtain ⟨gp, hgp⟩ : ∃ g, g = w.heap.size := ⟨_, rfl⟩
  clear hc1 hc2 hn hy hcell H hi
  go_enter Try.func4, Try.ntmps4
  repeat' (first | (with_reducible refine load_pg HP.out _ rfl rfl ?_) | go_values | go_skip | go_guarded | go_step | go_upon)
  refine Calls.mono (HA.out _ (HH.out.keep Hb0.out)) ?_
  rintro _ w1 ⟨rfl, hb1⟩
  dsimp only
  have P1 := Lib.hid (HP.out.keep hb1)
  have B1 := Lib.hid (Hb0.out.trans (hb1.mono Hb0.out.size))
  rw [← hgp] at P1 ⊢
  clear hb1 HP Hb0 HA hgp
  by_cases h0 : c1 = 0
  rotate_left
  · have hne : (c1 != 0) = true := by rw [bne_iff_ne]; exact h0
    clear h0 Hck
    repeat' (first | go_values | go_skip | go_guarded | go_step | go_upon)
    go_ret
    exact ⟨rfl, B1.out⟩
  subst h0
  have hck := Hck.out rfl
  have hwh := check_whole0 hck
  have Hc := Lib.hid hck
  have Hw := Lib.hid hwh
  obtain ⟨⟨s1, s2⟩, ⟨s3, s4⟩, ⟨s5, s6⟩⟩ := whole_small hwh
  clear hck hwh Hck
  repeat' (first | go_values | go_skip | go_guarded | go_step | go_upon)
  go_loopg [26] n (fun gk s26 wr => ∃ k : Nat, s26 = .int .i64 k ∧ k + gk = n ∧ Hid (PBox wr gp p v) ∧ Hid (Below w.heap.size w wr))
  case atStart => exact ⟨0, rfl, by omega, P1, B1⟩
  case round =>
    clear P1 B1
    obtain ⟨k, rfl, hk, HP, HB⟩ := hrel
    have hlast : Hid (∀ W, PBox W gp p v → Below w.heap.size w W → Calls Try.prog 9 #[pgV p v, .string ⟨#[]⟩, .int .i64 100] W fun e w' => ∃ (u : Value) (en used : Int), e = .returned (.tuple #[u, .int .i64 en, .int .i64 used]) ∧ (en != 3) = true ∧ Below w.heap.size w w') := Lib.hid fun W _ hB => by
      refine Calls.mono (HR.out W [] 100 (HH.out.keep hB) Hw.out) ?_
      rintro _ w' ⟨u, en, used, l, rfl, hl1, hl2, hl3, hl4, hl5, hl6, hb⟩
      exact ⟨u, en, used, rfl, by rw [bne_iff_ne]; exact hl6 Hc.out, hB.trans (hb.mono hB.size)⟩
    by_cases hkn : k < n
    · rcases Hcell.out with h0 | ⟨b, off, rfl, hbB, hcell⟩
      · omega
      obtain ⟨y, hy⟩ : ∃ y, ys[k]? = some y := ⟨_, List.getElem?_eq_getElem (by rw [← Hn.out]; exact hkn)⟩
      have c0 := hcell k y 0 hy (by decide)
      rw [Nat.mul_one, Nat.add_zero, ← HB.out.cell hbB] at c0
      have hyl := Hy.out y (List.mem_of_getElem? hy)
      have hkn' : (k : Int) < (n : Int) := by omega
      simp only [strC, List.getElem?_cons_zero] at c0
      clear hcell hy
      by_cases h20 : 20 < (k : Int)
      · repeat' (first | (with_reducible refine load_pg HP.out _ rfl rfl ?_) | go_values | go_skip | go_guarded | go_step | go_upon)
        refine Calls.mono (hlast.out _ HP.out HB.out) ?_
        rintro _ w2 ⟨u, en, used, rfl, hen, hb2⟩
        dsimp only
        repeat' (first | go_values | go_skip | go_guarded | go_step | go_upon)
        go_ret
        exact ⟨rfl, hb2⟩
      · repeat' (first | (with_reducible refine load_pg HP.out _ rfl rfl ?_) | go_values | go_skip | go_guarded | go_step | go_upon)
        refine Calls.mono (HR.out _ y _ (HH.out.keep HB.out) Hw.out) ?_
        rintro _ w2 ⟨u, en, used, l, rfl, hl1, hl2, hl3, hl4, hl5, hl6, hb2⟩
        dsimp only
        obtain ⟨au, cu, hu⟩ := hl1.form
        have hus : used ≤ 3000 := by
          have := hl4.2
          unfold fuelI at this
          split at this <;> (try split at this) <;> omega
        have hus' : ¬ 3000 < used := by omega
        have hnn : 0 ≤ p.grow * (y.length : Int) := Int.mul_nonneg s1 (by omega)
        have hnm : p.grow * (y.length : Int) ≤ 1048576 * 1048576 := Int.mul_le_mul s2 (by omega) (by omega) (by omega)
        have hw1 : IntKind.i64.wrap (p.grow * (y.length : Int)) = p.grow * (y.length : Int) := wi64 (by unfold I64; omega)
        have hw2 : IntKind.i64.wrap (p.grow * (y.length : Int) + p.rest) = p.grow * (y.length : Int) + p.rest := wi64 (by unfold I64; omega)
        have hw3 : IntKind.i64.wrap (p.grow * (y.length : Int) + p.rest + p.extra) = p.grow * (y.length : Int) + p.rest + p.extra := wi64 (by unfold I64; omega)
        have hlen : ¬ p.grow * (y.length : Int) + p.rest + p.extra < (l.length : Int) := by
          by_cases he : en = 0
          · have := hl2 he
            rw [room_is Hw.out] at this
            omega
          · rw [hl3 he]; simp; omega
        have h3 := hl6 Hc.out
        have hl0 : Hid (en ≠ 0 → l = []) := Lib.hid hl3
        have P2 := Lib.hid (HP.out.keep hb2)
        have B2 := Lib.hid (HB.out.trans (hb2.mono HB.out.size))
        obtain ⟨d0, d1, d2, _⟩ := P2.out.ten
        clear hl1 hl2 hl3 hl4 hl6 hb2 HP HB c0 hus hnn hnm
        subst hu
        rcases hl5 with rfl | rfl | rfl | rfl
        · clear hl0 h3
          repeat' (first | go_values | go_skip | go_guarded | go_step | go_upon)
          go_roundg (gk - 1)
          case rel => exact ⟨k + 1, by go_num, by omega, P2, B2⟩
          case measure => omega
        · obtain rfl := hl0.out (by decide)
          simp only [List.length_nil] at hlen ⊢
          clear hl0 h3
          repeat' (first | go_values | go_skip | go_guarded | go_step | go_upon)
          go_roundg (gk - 1)
          case rel => exact ⟨k + 1, by go_num, by omega, P2, B2⟩
          case measure => omega
        · obtain rfl := hl0.out (by decide)
          simp only [List.length_nil] at hlen ⊢
          clear hl0 h3
          repeat' (first | go_values | go_skip | go_guarded | go_step | go_upon)
          go_roundg (gk - 1)
          case rel => exact ⟨k + 1, by go_num, by omega, P2, B2⟩
          case measure => omega
        · exact absurd rfl h3
    · obtain rfl : n = k := by omega
      repeat' (first | (with_reducible refine load_pg HP.out _ rfl rfl ?_) | go_values | go_skip | go_guarded | go_step | go_upon)
      refine Calls.mono (hlast.out _ HP.out HB.out) ?_
      rintro _ w2 ⟨u, en, used, rfl, hen, hb2⟩
      dsimp only
      repeat' (first | go_values | go_skip | go_guarded | go_step | go_upon)
      go_ret
      exact ⟨rfl, hb2⟩
end Go.Proofs.Ytkpdcejnanhgoaa
