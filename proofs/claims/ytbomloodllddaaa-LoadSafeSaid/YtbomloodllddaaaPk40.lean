/- Walk: the statement LoadSafe. Condition: the program lies in memory. -/
import Derived.Test.YtbomloodllddaaaPk39
import Derived.Test.YtbomloodllddaaaPk33
namespace Go.Proofs.Ytbomloodllddaaa
open Go.RowKit
theorem load_checked {t : List UInt8} (h : (loadI t).2 = 0) : checkI (loadI t).1 = (0, 0) := by
  unfold loadI at h ⊢
  by_cases h1 : (decI t).2 ≠ 0
  · rw [if_pos h1] at h; exact absurd h h1
  rw [if_neg h1] at h ⊢
  by_cases h2 : (checkI (decI t).1).1 ≠ 0
  · rw [if_pos h2] at h; exact absurd h h2
  rw [if_neg h2]
  exact check_zero (by simpa using h2)
set_option maxRecDepth 100000 in
set_option maxHeartbeats 4000000 in
theorem law_LoadSafe (w : World) (s : ByteArray) (_ : s.size ≤ 140737488351232) (p : Prg) (v : PV) (H : PrgAt w v p) (inp : ByteArray) (_ : inp.size ≤ 140737488351232) (f : Int) (_ : I64 f) :
    Calls Try.prog 9 #[.string s, pgV p v, .string inp, .int .i64 f] w fun e w' => e = .returned (.bool true) ∧ Below w.heap.size w w' := by
  obtain ⟨s, rfl⟩ := ba_list s
  obtain ⟨inp, rfl⟩ := ba_list inp
  have HH := Lib.hid H
  have HP : Hid (PBox (w.alloc (.cells (pgC p v) 30)) w.heap.size p v) := Lib.hid (PBox.new _ _ _)
  have Hb0 : Hid (Below w.heap.size w (w.alloc (.cells (pgC p v) 30))) := Lib.hid ((Below.refl _ _).alloc (Nat.le_refl _) _)
  have HA := Lib.hid fun w H => law_few25 p v w H
  have HB := Lib.hid fun w H => load_Encode p v w H
  have Hlen : Hid ((encI p).1.length ≤ 8500000) := Lib.hid (by
    by_cases h : (encI p).2 = 0
    · obtain ⟨_, _, _, h4⟩ := enc_ok h (hash_u64 H.hash); exact h4
    · rw [enc_bad h]; simp)
  generalize encI p = G at HB Hlen
  obtain ⟨T, e0⟩ := G
  dsimp only at HB Hlen
  clear H
  have hsz := arr_size s
  go_enter Try.func9, Try.ntmps9
  repeat' (first | go_values | go_skip | go_guarded | go_step | go_upon)
  refine Calls.mono (law25_alive _) ?_
  rintro _ w0 ⟨rfl, hb0⟩
  dsimp only
  have P0 := Lib.hid (HP.out.keep hb0)
  have B0 := Lib.hid (Hb0.out.trans (hb0.mono Hb0.out.size))
  clear hb0 HP Hb0
  by_cases hl : 50000 < s.length
  · have hl' : (50000 : Int) < (s.length : Int) := by omega
    clear HH HA HB Hlen
    repeat' (first | go_values | go_skip | go_guarded | go_step | go_upon)
    go_ret
    exact ⟨rfl, B0.out⟩
  have hl' : ¬ (50000 : Int) < (s.length : Int) := by omega
  have Hl := Lib.hid hl
  clear hl
  repeat' (first | (with_reducible refine load_pg P0.out _ rfl rfl ?_) | go_values | go_skip | go_guarded | go_step | go_upon)
  refine Calls.mono (HA.out _ (HH.out.keep B0.out)) ?_
  rintro _ w1 ⟨c, rfl, hb1⟩
  dsimp only
  have P1 := Lib.hid (P0.out.keep hb1)
  have B1 := Lib.hid (B0.out.trans (hb1.mono B0.out.size))
  clear hb1 P0 B0 HA
  cases c
  · repeat' (first | go_values | go_skip | go_guarded | go_step | go_upon)
    go_ret
    exact ⟨rfl, B1.out⟩
  repeat' (first | (with_reducible refine load_pg P1.out _ rfl rfl ?_) | go_values | go_skip | go_guarded | go_step | go_upon)
  refine Calls.mono (HB.out _ (HH.out.keep B1.out)) ?_
  rintro _ w2 ⟨rfl, hb2⟩
  dsimp only
  have B2 := Lib.hid (B1.out.trans (hb2.mono B1.out.size))
  clear hb2 P1 B1 HB HH
  repeat' (first | go_values | go_skip | go_guarded | go_step | go_upon)
  have hJ := Go.heap_alloc_new w2 (.cells #[.string ⟨s.toArray⟩, .string ⟨T.toArray⟩] 9)
  have hb3 : Below w.heap.size w (w2.alloc (.cells #[.string ⟨s.toArray⟩, .string ⟨T.toArray⟩] 9)) := B2.out.trans ((Below.refl _ _).alloc B2.out.size _)
  have hga : w.heap.size ≤ w2.heap.size := B2.out.size
  have HJ := Lib.hid hJ
  have B3 := Lib.hid hb3
  clear hJ hb3 B2
  generalize w2.alloc (.cells #[.string ⟨s.toArray⟩, .string ⟨T.toArray⟩] 9) = w3 at HJ B3 ⊢
  generalize w2.heap.size = ga at HJ hga ⊢
  have Hls := Hl.out
  have HlT := Hlen.out
  go_loopg [37] 2 (fun gn s37 wr => ∃ k : Nat, s37 = .int .i64 k ∧ k + gn = 2 ∧ Hid (wr.heap[ga]? = some (.cells #[.string ⟨s.toArray⟩, .string ⟨T.toArray⟩] 9 (0, 0))) ∧ Hid (Below w.heap.size w wr))
  case atStart => exact ⟨0, rfl, rfl, HJ, B3⟩
  case round =>
    clear HJ B3
    obtain ⟨k, rfl, hk, HJ, HB⟩ := hrel
    by_cases hk2 : k < 2
    · obtain ⟨x, hx, hxl⟩ : ∃ x : List UInt8, wr.cell? ⟨ga, k, none⟩ = some (.string ⟨x.toArray⟩) ∧ x.length ≤ 8500000 := by
        have h := fun j => cell_of_row wr ga j _ _ _ HJ.out
        rcases (by omega : k = 0 ∨ k = 1) with rfl | rfl
        · exact ⟨s, h 0, by omega⟩
        · exact ⟨T, h 1, by omega⟩
      have hk3 : (k : Int) < 2 := by omega
      have hk4 : k < 2 := hk2
      have HC := Lib.hid fun w => load_Load x (by omega) w
      have Hck : Hid ((loadI x).2 = 0 → checkI (loadI x).1 = (0, 0)) := Lib.hid load_checked
      generalize loadI x = L at HC Hck
      obtain ⟨q, e1⟩ := L
      dsimp only at HC Hck
      clear hxl
      repeat' (first | go_values | go_skip | go_guarded | go_step | go_upon)
      refine Calls.mono (HC.out _) ?_
      rintro _ w4 ⟨v4, rfl, ho4, hb4⟩
      dsimp only
      have hone4 := pgA_one ho4.at'
      have B4 := Lib.hid (HB.out.trans (hb4.mono HB.out.size))
      have J4 := Lib.hid ((hb4.block ga (Array.getElem?_eq_some_iff.1 HJ.out).1).trans HJ.out)
      have O4 := Lib.hid ho4.at'
      clear ho4 hb4 HB HJ HC hx
      repeat' (go_not_at_region 10; first | (with_reducible refine store_new_pg _ _ rfl rfl rfl rfl rfl hone4 ?_) | go_values | go_skip | go_guarded | go_step | go_upon)
      have hb5 : Below w4.heap.size w4 (w4.alloc (.cells (pgC q v4) 30)) := (Below.refl _ _).alloc (Nat.le_refl _) _
      obtain ⟨g4, hg4⟩ : ∃ g, g = w4.heap.size := ⟨_, rfl⟩
      rw [← hg4]
      refine gen_wd (fun W => PBox W g4 q v4 ∧ PrgAt W v4 q ∧ W.heap[ga]? = some (.cells #[.string ⟨s.toArray⟩, .string ⟨T.toArray⟩] 9 (0, 0)) ∧ Below w.heap.size w W) ⟨by rw [hg4]; exact PBox.new _ _ _, O4.out.keep hb5, (hb5.block ga (Array.getElem?_eq_some_iff.1 J4.out).1).trans J4.out, B4.out.trans (hb5.mono B4.out.size)⟩ ?_
      clear O4 J4 B4 hb5 hone4 hg4
      rintro w5 ⟨hq5, hp5, hj5, hb5⟩
      have Q5 := Lib.hid hq5
      have O5 := Lib.hid hp5
      have J5 := Lib.hid hj5
      have B5 := Lib.hid hb5
      clear hq5 hp5 hj5 hb5
      by_cases he : e1 = 0
      · subst he
        have hck := Hck.out rfl
        have hwh := check_whole0 hck
        have HR := Lib.hid fun F => vm_Run q v4 w5 inp F O5.out (whole_p64 hwh) (whole_keys hwh)
        have Hc := Lib.hid hck
        clear hck hwh Hck O5
        repeat' (first | (with_reducible refine load_pg Q5.out _ rfl rfl ?_) | go_values | go_skip | go_guarded | go_step | go_upon)
        refine Calls.mono (HR.out _) ?_
        rintro _ w6 ⟨u, en, used, l, rfl, hl1, hl2, hl3, hl4, hl5, hl6, hb6⟩
        dsimp only
        have hen : (en == 3) = false := beq_false_of_ne (hl6 Hc.out)
        have B6 := Lib.hid (B5.out.trans (hb6.mono B5.out.size))
        have J6 := Lib.hid ((hb6.block ga (Array.getElem?_eq_some_iff.1 J5.out).1).trans J5.out)
        clear hl1 hl2 hl3 hl4 hl5 hl6 hb6 B5 J5 HR Q5 Hc
        repeat' (first | go_values | go_skip | go_guarded | go_step | go_upon)
        go_roundg (gk - 1)
        case rel => exact ⟨k + 1, by go_num, by omega, J6, B6⟩
        case measure => omega
      · have hne : (e1 != 0) = true := by rw [bne_iff_ne]; exact he
        clear he Hck O5 Q5
        repeat' (first | go_values | go_skip | go_guarded | go_step | go_upon)
        go_roundg (gk - 1)
        case rel => exact ⟨k + 1, by go_num, by omega, J5, B5⟩
        case measure => omega
    · obtain rfl : k = 2 := by omega
      repeat' (first | go_values | go_skip | go_guarded | go_step | go_upon)
      go_ret
      exact ⟨rfl, HB.out⟩
end Go.Proofs.Ytbomloodllddaaa
