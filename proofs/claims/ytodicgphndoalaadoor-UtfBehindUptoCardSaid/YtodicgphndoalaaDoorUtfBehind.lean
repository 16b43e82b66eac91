/- UtfBehind: walk. Conditions: the texts are of at most 10^6 bytes or so; the tables of unicode/utf8 are laid. -/
import Derived.Test.YtodicgphndoalaaDoorUtfTexts
namespace Go.Proofs.YtodicgphndoalaaDoor
open Go.RowKit
theorem bapp (l m : List UInt8) : (⟨l.toArray⟩ : ByteArray) ++ ⟨m.toArray⟩ = ⟨(l ++ m).toArray⟩ := by
  apply ByteArray.ext
  apply Array.ext'
  simp
theorem count_le (t : List UInt8) : count t ≤ t.length := by
  have := Lib.runeCount_le ⟨t.toArray⟩
  rw [runeCount_count] at this
  exact this
set_option maxRecDepth 100000 in
theorem law_alive (w : World) :
    Calls Tryd.prog 16 #[] w fun e w' => e = .returned (.bool true) ∧ Below w.heap.size w w' := by
  have h := t_Count [97] (by decide) w
  have hc : count [97] = 1 := by decide
  rw [hc] at h
  have H := Lib.hid h; clear h hc
  go_enter Tryd.func16, Tryd.ntmps16
  repeat' (first | go_values | go_skip | go_guarded | go_step | go_upon)
  refine Calls.mono (H.out) ?_
  rintro _ w1 ⟨rfl, hb1⟩
  dsimp only
  repeat' (first | go_values | go_skip | go_guarded | go_step | go_upon)
  go_ret
  exact ⟨rfl, hb1⟩
set_option maxRecDepth 100000 in
set_option maxHeartbeats 1000000 in
theorem law_UtfBehind (s : ByteArray) (hs : s.size ≤ 1048576) (s' : ByteArray) (hs' : s'.size ≤ 1048576) (w : World) (hT : Lib.Utf8Tabs 0 1 w) :
    Calls Tryd.prog 6 #[.string s, .string s'] w fun e w' => e = .returned (.bool true) ∧ Below w.heap.size w w' := by
  obtain ⟨t, rfl⟩ := ba_list s
  obtain ⟨b, rfl⟩ := ba_list s'
  rw [bsz] at hs hs'
  have hfl := fix_len t
  have hfb := fix_len b
  have hch := (fix_chars t.length t (Nat.le_refl _)).1.behind b
  have H0 := fun wx (hb : Below w.heap.size w wx) => calls_acc (law_alive wx) hb
  have H1 := fun wx (hb : Below w.heap.size w wx) => calls_acc (t_Fix t (by omega) wx) hb
  have H2 := fun wx (hb : Below w.heap.size w wx) => calls_acc (t_Fix (fix t ++ b) (by rw [List.length_append]; omega) wx) hb
  have H3 := fun wx (hb : Below w.heap.size w wx) => calls_acc (t_Fix b (by omega) wx) hb
  have H4 := fun wx (hb : Below w.heap.size w wx) => calls_acc (t_Count (fix t ++ b) (by rw [List.length_append]; omega) wx) hb
  have H5 := fun wx (hb : Below w.heap.size w wx) => calls_acc (t_Count (fix t) (by omega) wx) hb
  have H6 := fun wx (hb : Below w.heap.size w wx) => calls_acc (t_Count b (by omega) wx) hb
  have H7 := fun wx (hb : Below w.heap.size w wx) => calls_acc (t_Valid (fix t ++ b) (by rw [List.length_append]; omega) hT wx hb) hb
  have H8 := fun wx (hb : Below w.heap.size w wx) => calls_acc (t_Valid b (by omega) hT wx hb) hb
  have hc1 := count_le (fix t)
  have hc2 := count_le b
  rw [hch.1] at H2
  rw [hch.2.1] at H4
  rw [hch.2.2] at H7
  clear hch
  generalize fix t = u at H1 H2 H4 H5 H7 hfl hc1
  generalize fix b = f at H2 H3 hfb
  generalize count u = k at H4 H5 hc1
  generalize count b = j at H4 H6 hc2
  generalize valid b = v at H7 H8
  have p1 := bapp u b
  have p2 := bapp u f
  have z1 := bsz u
  have z2 := bsz b
  have z3 := bsz f
  have H0 := Lib.hid H0; have H1 := Lib.hid H1; have H2 := Lib.hid H2; have H3 := Lib.hid H3; have H4 := Lib.hid H4; have H5 := Lib.hid H5; have H6 := Lib.hid H6; have H7 := Lib.hid H7; have H8 := Lib.hid H8
  go_enter Tryd.func6, Tryd.ntmps6
  repeat' (first | go_values | go_skip | go_guarded | go_step | go_upon)
  refine Calls.mono (H0.out _ (Below.refl _ _)) ?_
  rintro _ w0 ⟨rfl, hb0⟩
  dsimp only
  repeat' (first | go_values | go_skip | go_guarded | go_step | go_upon)
  refine Calls.mono (H1.out _ hb0) ?_
  rintro _ w1 ⟨rfl, hb1⟩
  dsimp only
  repeat' (first | go_values | go_skip | go_guarded | go_step | go_upon)
  refine Calls.mono (H2.out _ hb1) ?_
  rintro _ w2 ⟨rfl, hb2⟩
  dsimp only
  repeat' (first | go_values | go_skip | go_guarded | go_step | go_upon)
  refine Calls.mono (H3.out _ hb2) ?_
  rintro _ w3 ⟨rfl, hb3⟩
  dsimp only
  repeat' (first | go_values | go_skip | go_guarded | go_step | go_upon)
  refine Calls.mono (H4.out _ hb3) ?_
  rintro _ w4 ⟨rfl, hb4⟩
  dsimp only
  repeat' (first | go_values | go_skip | go_guarded | go_step | go_upon)
  refine Calls.mono (H5.out _ hb4) ?_
  rintro _ w5 ⟨rfl, hb5⟩
  dsimp only
  repeat' (first | go_values | go_skip | go_guarded | go_step | go_upon)
  refine Calls.mono (H6.out _ hb5) ?_
  rintro _ w6 ⟨rfl, hb6⟩
  dsimp only
  repeat' (first | go_values | go_skip | go_guarded | go_step | go_upon)
  refine Calls.mono (H7.out _ hb6) ?_
  rintro _ w7 ⟨rfl, hb7⟩
  dsimp only
  repeat' (first | go_values | go_skip | go_guarded | go_step | go_upon)
  refine Calls.mono (H8.out _ hb7) ?_
  rintro _ w8 ⟨rfl, hb8⟩
  dsimp only
  repeat' (first | go_values | go_skip | go_guarded | go_step | go_upon)
  go_ret
  exact ⟨rfl, hb8⟩
end Go.Proofs.YtodicgphndoalaaDoor
