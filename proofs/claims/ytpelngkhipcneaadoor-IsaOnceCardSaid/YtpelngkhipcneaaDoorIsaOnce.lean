/- Walk: the statement IsaOnce. Conditions: the library's variables are as they are laid. -/
import Derived.Test.YtpelngkhipcneaaDoorIsaParse
import Derived.Test.YtpelngkhipcneaaDoorIsaBackSpec
import Derived.Test.YtpelngkhipcneaaDoorIsaLike
import Derived.Test.YtpelngkhipcneaaDoorIsaText
namespace Go.Proofs.YtpelngkhipcneaaDoor
open Go.RowKit
theorem put_once {t : List UInt8} {l : List (Nat → Int)} (h : getI t = (0, l)) : putI l = (t, 0) := by
  obtain ⟨h1, h2, h3⟩ := getI_once h
  unfold putI
  rw [if_pos (allI_good (by omega) h2), h3]
theorem text_once {t : List UInt8} {l : List (Nat → Int)} {n : Int} (h : parseI t = (l, 0, n)) : n = 0 ∧ textI l = (t, 0) := by
  obtain ⟨h0, h1, h2, h3⟩ := parseI_once h
  refine ⟨h0, ?_⟩
  unfold textI
  rw [if_pos (allI_good (by omega) h2), h3]
set_option maxRecDepth 100000 in
set_option maxHeartbeats 4000000 in
theorem walk_IsaOnce (t : List UInt8) (hs : t.length ≤ 1000000000000000) (w : World) (hT : TabR w) :
    Calls Tryd.prog 6 #[.string ⟨t.toArray⟩] w fun e w' => e = .returned (.bool true) ∧ Below w.heap.size w w' := by
  have hsz := sz_arr t
  have HT := Lib.hid hT
  clear hT
  by_cases h2 : 50000 < t.length
  · go_enter Tryd.func6, Tryd.ntmps6
    repeat' (first | go_values | go_skip | go_guarded | go_step | go_upon)
    go_ret
    exact ⟨rfl, Below.refl _ _⟩
  have HG := Lib.hid fun w => isa_Get t hs w
  have HY := Lib.hid fun w hT => isa_Parse t hs w hT
  have Hp1 : Hid (∀ l, getI t = (0, l) → putI l = (t, 0)) := Lib.hid fun l h => put_once h
  have Hp2 : Hid (∀ e l, getI t = (e, l) → e ≠ 0 → l = []) := Lib.hid fun e l h he => getI_err h he
  have Hp3 : Hid (∀ l n, parseI t = (l, 0, n) → n = 0 ∧ textI l = (t, 0)) := Lib.hid fun l n h => text_once h
  have Hp4 : Hid (∀ l e n, parseI t = (l, e, n) → e ≠ 0 → l = [] ∧ 1 ≤ n) := Lib.hid fun l e n h he => by have := parseI_err h he (by omega); exact ⟨this.1, this.2.1⟩
  generalize getI t = g at HG Hp1 Hp2
  generalize parseI t = y at HY Hp3 Hp4
  obtain ⟨e, l⟩ := g
  obtain ⟨m, e2, n⟩ := y
  dsimp only at HG HY
  have htt : (t == t) = true := by simp
  have htt2 : (t != t) = false := by simp
  clear hs
  have Htail : ∀ (w1 : World), Below w.heap.size w w1 → True := fun _ _ => trivial
  clear Htail
  by_cases he : e = 0
  · subst he
    have HPu := Lib.hid fun w v hr => isa_Put v l w hr
    rw [Hp1.out l rfl] at HPu
    by_cases he2 : e2 = 0
    · subst he2
      obtain ⟨rfl, hX⟩ := Hp3.out m n rfl
      have HX := Lib.hid fun w v hr hT => isa_Text v m w hr hT
      rw [hX] at HX
      clear hX Hp1 Hp2 Hp3 Hp4
      go_enter Tryd.func6, Tryd.ntmps6
      repeat' (first | go_values | go_skip | go_guarded | go_step | go_upon)
      refine Calls.mono (HG.out _) ?_
      rintro _ w1 ⟨v1, rfl, hr1, hb1⟩
      dsimp only
      have R1 := Lib.hid hr1
      have Hb1 := Lib.hid hb1
      clear hr1 hb1
      repeat' (first | go_values | go_skip | go_guarded | go_step | go_upon)
      refine Calls.mono (HPu.out _ _ R1.out) ?_
      rintro _ w2 ⟨rfl, hb2⟩
      dsimp only
      have Hb2 := Lib.hid (Hb1.out.trans (hb2.mono Hb1.out.size))
      clear hb2 R1 Hb1
      repeat' (first | go_values | go_skip | go_guarded | go_step | go_upon)
      refine Calls.mono (HY.out _ (HT.out.keep Hb2.out)) ?_
      rintro _ w3 ⟨v2, rfl, hr3, hb3⟩
      dsimp only
      have R3 := Lib.hid hr3
      have Hb3 := Lib.hid (Hb2.out.trans (hb3.mono Hb2.out.size))
      clear hr3 hb3 Hb2
      repeat' (first | go_values | go_skip | go_guarded | go_step | go_upon)
      refine Calls.mono (HX.out _ _ R3.out (HT.out.keep Hb3.out).ten) ?_
      rintro _ w4 ⟨rfl, hb4⟩
      dsimp only
      repeat' (first | go_values | go_skip | go_guarded | go_step | go_upon)
      go_ret
      exact ⟨rfl, Hb3.out.trans (hb4.mono Hb3.out.size)⟩
    · obtain ⟨rfl, hn⟩ := Hp4.out m e2 n rfl he2
      have hbe : (e2 != 0) = true := by simpa using he2
      clear he2 Hp1 Hp2 Hp3 Hp4
      go_enter Tryd.func6, Tryd.ntmps6
      repeat' (first | go_values | go_skip | go_guarded | go_step | go_upon)
      refine Calls.mono (HG.out _) ?_
      rintro _ w1 ⟨v1, rfl, hr1, hb1⟩
      dsimp only
      have R1 := Lib.hid hr1
      have Hb1 := Lib.hid hb1
      clear hr1 hb1
      repeat' (first | go_values | go_skip | go_guarded | go_step | go_upon)
      refine Calls.mono (HPu.out _ _ R1.out) ?_
      rintro _ w2 ⟨rfl, hb2⟩
      dsimp only
      have Hb2 := Lib.hid (Hb1.out.trans (hb2.mono Hb1.out.size))
      clear hb2 R1 Hb1
      repeat' (first | go_values | go_skip | go_guarded | go_step | go_upon)
      refine Calls.mono (HY.out _ (HT.out.keep Hb2.out)) ?_
      rintro _ w3 ⟨v2, rfl, hr3, hb3⟩
      dsimp only
      obtain ⟨a3, cap3, rfl, _, _, _⟩ := hr3.open icL_len
      have Hb3 := Lib.hid (Hb2.out.trans (hb3.mono Hb2.out.size))
      clear hr3 hb3 Hb2
      repeat' (first | go_values | go_skip | go_guarded | go_step | go_upon)
      go_ret
      exact ⟨rfl, Hb3.out⟩
  · have hl0 := Hp2.out e l rfl he
    subst hl0
    have hbe1 : (e == 0) = false := by simpa using he
    clear he
    by_cases he2 : e2 = 0
    · subst he2
      obtain ⟨rfl, hX⟩ := Hp3.out m n rfl
      have HX := Lib.hid fun w v hr hT => isa_Text v m w hr hT
      rw [hX] at HX
      clear hX Hp1 Hp2 Hp3 Hp4
      go_enter Tryd.func6, Tryd.ntmps6
      repeat' (first | go_values | go_skip | go_guarded | go_step | go_upon)
      refine Calls.mono (HG.out _) ?_
      rintro _ w1 ⟨v1, rfl, hr1, hb1⟩
      dsimp only
      obtain ⟨a1, cap1, rfl, _, _, _⟩ := hr1.open icL_len
      have Hb2 := Lib.hid hb1
      clear hr1 hb1
      repeat' (first | go_values | go_skip | go_guarded | go_step | go_upon)
      refine Calls.mono (HY.out _ (HT.out.keep Hb2.out)) ?_
      rintro _ w3 ⟨v2, rfl, hr3, hb3⟩
      dsimp only
      have R3 := Lib.hid hr3
      have Hb3 := Lib.hid (Hb2.out.trans (hb3.mono Hb2.out.size))
      clear hr3 hb3 Hb2
      repeat' (first | go_values | go_skip | go_guarded | go_step | go_upon)
      refine Calls.mono (HX.out _ _ R3.out (HT.out.keep Hb3.out).ten) ?_
      rintro _ w4 ⟨rfl, hb4⟩
      dsimp only
      repeat' (first | go_values | go_skip | go_guarded | go_step | go_upon)
      go_ret
      exact ⟨rfl, Hb3.out.trans (hb4.mono Hb3.out.size)⟩
    · obtain ⟨rfl, hn⟩ := Hp4.out m e2 n rfl he2
      have hbe : (e2 != 0) = true := by simpa using he2
      clear he2 Hp1 Hp2 Hp3 Hp4
      go_enter Tryd.func6, Tryd.ntmps6
      repeat' (first | go_values | go_skip | go_guarded | go_step | go_upon)
      refine Calls.mono (HG.out _) ?_
      rintro _ w1 ⟨v1, rfl, hr1, hb1⟩
      dsimp only
      obtain ⟨a1, cap1, rfl, _, _, _⟩ := hr1.open icL_len
      have Hb2 := Lib.hid hb1
      clear hr1 hb1
      repeat' (first | go_values | go_skip | go_guarded | go_step | go_upon)
      refine Calls.mono (HY.out _ (HT.out.keep Hb2.out)) ?_
      rintro _ w3 ⟨v2, rfl, hr3, hb3⟩
      dsimp only
      obtain ⟨a3, cap3, rfl, _, _, _⟩ := hr3.open icL_len
      have Hb3 := Lib.hid (Hb2.out.trans (hb3.mono Hb2.out.size))
      clear hr3 hb3 Hb2
      repeat' (first | go_values | go_skip | go_guarded | go_step | go_upon)
      go_ret
      exact ⟨rfl, Hb3.out⟩
theorem law_IsaOnce (w : World) (s : ByteArray) (hs : s.size ≤ 140737488351232) (hT : TabR w) :
    Calls Tryd.prog 6 #[.string s] w fun e w' => e = .returned (.bool true) ∧ Below w.heap.size w w' := by
  obtain ⟨t, rfl⟩ := ba_listI s
  rw [arrI_size] at hs
  exact walk_IsaOnce t (by omega) w hT
end Go.Proofs.YtpelngkhipcneaaDoor
