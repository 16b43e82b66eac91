/- UtfTexts, UtfMended: walks. Conditions: the text is of at most 10^6 bytes or so; the tables of unicode/utf8 are laid. -/
import Derived.Test.YtodicgphndoalaaDoorUtfFix
import Derived.Test.YtodicgphndoalaaDoorUtfWrites
import Derived.Test.YtodicgphndoalaaDoorTail
namespace Go.Proofs.YtodicgphndoalaaDoor
open Go.RowKit
theorem ba_list (s : ByteArray) : ∃ l : List UInt8, s = ⟨l.toArray⟩ := ⟨s.data.toList, by apply ByteArray.ext; apply Array.ext'; simp⟩
theorem calls_acc {P : Program} {f : FuncId} {args : Array Value} {w wx : World} {v : Value} (h : Calls P f args wx fun e w' => e = .returned v ∧ Below wx.heap.size wx w') (hb : Below w.heap.size w wx) :
    Calls P f args wx fun e w' => e = .returned v ∧ Below w.heap.size w w' := h.mono fun _ _ h => ⟨h.1, hb.trans (h.2.mono hb.size)⟩
theorem bsz (t : List UInt8) : (⟨t.toArray⟩ : ByteArray).size = t.length := rfl
theorem t_Fix (t : List UInt8) (ht : t.length ≤ 1000000000000) (w : World) :
    Calls Tryd.prog 14 #[.string ⟨t.toArray⟩] w fun e w' => e = .returned (.string ⟨(fix t).toArray⟩) ∧ Below w.heap.size w w' := utf_Fix ⟨t.toArray⟩ ht w
theorem t_Count (t : List UInt8) (ht : t.length ≤ 1000000000000) (w : World) :
    Calls Tryd.prog 12 #[.string ⟨t.toArray⟩] w fun e w' => e = .returned (.int .i64 (count t)) ∧ Below w.heap.size w w' := utf_Count ⟨t.toArray⟩ ht w
theorem t_Valid (t : List UInt8) (ht : t.length ≤ 1000000000000) {w0 : World} (hT : Lib.Utf8Tabs 0 1 w0) (w : World) (hb : Below w0.heap.size w0 w) :
    Calls Tryd.prog 10 #[.string ⟨t.toArray⟩] w fun e w' => e = .returned (.bool (valid t)) ∧ Below w.heap.size w w' := utf_Valid ⟨t.toArray⟩ (Nat.le_trans ht (by decide)) w (Utf8Tabs_below hT hb)
set_option maxRecDepth 100000 in
set_option maxHeartbeats 1000000 in
theorem law_UtfTexts (s : ByteArray) (hs : s.size ≤ 1048576) (w : World) (hT : Lib.Utf8Tabs 0 1 w) :
    Calls Tryd.prog 4 #[.string s] w fun e w' => e = .returned (.bool true) ∧ Below w.heap.size w w' := by
  obtain ⟨t, rfl⟩ := ba_list s
  rw [bsz] at hs
  have H1 := fun wx (hb : Below w.heap.size w wx) => calls_acc (t_Valid t (by omega) hT wx hb) hb
  have H2 := fun wx (hb : Below w.heap.size w wx) => calls_acc (ref_Valid ⟨t.toArray⟩ (by rw [bsz]; omega) wx) hb
  have H3 := fun wx (hb : Below w.heap.size w wx) => calls_acc (t_Count t (by omega) wx) hb
  have H4 := fun wx (hb : Below w.heap.size w wx) => calls_acc (ref_Count ⟨t.toArray⟩ (by rw [bsz]; omega) wx) hb
  have H5 := fun wx (hb : Below w.heap.size w wx) => calls_acc (t_Fix t (by omega) wx) hb
  have H6 := fun wx (hb : Below w.heap.size w wx) => calls_acc (ref_Fix ⟨t.toArray⟩ (by rw [bsz]; omega) wx) hb
  have e1 : (⟨t.toArray⟩ : ByteArray).data.toList = t := rfl
  rw [e1] at H2 H4 H6
  generalize valid t = b at H1 H2
  generalize count t = k at H3 H4
  generalize fix t = f at H5 H6
  have H1 := Lib.hid H1; have H2 := Lib.hid H2; have H3 := Lib.hid H3; have H4 := Lib.hid H4; have H5 := Lib.hid H5; have H6 := Lib.hid H6
  go_enter Tryd.func4, Tryd.ntmps4
  repeat' (first | go_values | go_skip | go_guarded | go_step | go_upon)
  refine Calls.mono (H1.out _ (Below.refl _ _)) ?_
  rintro _ w1 ⟨rfl, hb1⟩
  dsimp only
  repeat' (first | go_values | go_skip | go_guarded | go_step | go_upon)
  refine Calls.mono (H2.out _ hb1) ?_
  rintro _ w2 ⟨rfl, hb2⟩
  dsimp only
  repeat' (first | go_values | go_skip | go_guarded | go_step | go_upon)
  refine Calls.mono (H3.out _ hb2) ?_
  rintro _ w3 ⟨rfl, hb3⟩
  dsimp only
  repeat' (first | go_values | go_skip | go_guarded | go_step | go_upon)
  refine Calls.mono (H4.out _ hb3) ?_
  rintro _ w4 ⟨rfl, hb4⟩
  dsimp only
  repeat' (first | go_values | go_skip | go_guarded | go_step | go_upon)
  refine Calls.mono (H5.out _ hb4) ?_
  rintro _ w5 ⟨rfl, hb5⟩
  dsimp only
  repeat' (first | go_values | go_skip | go_guarded | go_step | go_upon)
  refine Calls.mono (H6.out _ hb5) ?_
  rintro _ w6 ⟨rfl, hb6⟩
  dsimp only
  repeat' (first | go_values | go_skip | go_guarded | go_step | go_upon)
  go_ret
  exact ⟨rfl, hb6⟩
set_option maxRecDepth 100000 in
set_option maxHeartbeats 1000000 in
theorem law_UtfMended (s : ByteArray) (hs : s.size ≤ 1048576) (w : World) (hT : Lib.Utf8Tabs 0 1 w) :
    Calls Tryd.prog 5 #[.string s] w fun e w' => e = .returned (.bool true) ∧ Below w.heap.size w w' := by
  obtain ⟨t, rfl⟩ := ba_list s
  rw [bsz] at hs
  have hfl := fix_len t
  have hch := fix_chars t.length t (Nat.le_refl _)
  have hal := Chars.all hch.1
  have h0 := t_Fix t (by omega) w
  have H1 := fun wx (hb : Below w.heap.size w wx) => calls_acc (t_Valid (fix t) (by omega) hT wx hb) hb
  have H2 := fun wx (hb : Below w.heap.size w wx) => calls_acc (t_Valid t (by omega) hT wx hb) hb
  have H3 := fun wx (hb : Below w.heap.size w wx) => calls_acc (t_Count (fix t) (by omega) wx) hb
  have H4 := fun wx (hb : Below w.heap.size w wx) => calls_acc (t_Count t (by omega) wx) hb
  have H5 := fun wx (hb : Below w.heap.size w wx) => calls_acc (t_Fix (fix t) (by omega) wx) hb
  rw [hal.2] at H1
  rw [hch.2] at H3
  rw [hal.1] at H5
  have hvt : valid t = true → fix t = t := fun hv => (Chars.all (valid_chars t.length t (Nat.le_refl _) hv)).1
  cases hv : valid t with
  | false =>
    rw [hv] at H2
    generalize count t = k at H3 H4
    generalize fix t = f at h0 H1 H3 H5 hfl
    clear hvt hal hch hv
    have H0 := Lib.hid h0
    have H1 := Lib.hid H1; have H2 := Lib.hid H2; have H3 := Lib.hid H3; have H4 := Lib.hid H4; have H5 := Lib.hid H5
    clear h0
    go_enter Tryd.func5, Tryd.ntmps5
    repeat' (first | go_values | go_skip | go_guarded | go_step | go_upon)
    refine Calls.mono (H0.out) ?_
    rintro _ w1 ⟨rfl, hb1⟩
    dsimp only
    repeat' (first | go_values | go_skip | go_guarded | go_step | go_upon)
    refine Calls.mono (H1.out _ hb1) ?_
    rintro _ w2 ⟨rfl, hb2⟩
    dsimp only
    repeat' (first | go_values | go_skip | go_guarded | go_step | go_upon)
    refine Calls.mono (H5.out _ hb2) ?_
    rintro _ w3 ⟨rfl, hb3⟩
    dsimp only
    repeat' (first | go_values | go_skip | go_guarded | go_step | go_upon)
    refine Calls.mono (H2.out _ hb3) ?_
    rintro _ w4 ⟨rfl, hb4⟩
    dsimp only
    repeat' (first | go_values | go_skip | go_guarded | go_step | go_upon)
    refine Calls.mono (H3.out _ hb4) ?_
    rintro _ w5 ⟨rfl, hb5⟩
    dsimp only
    repeat' (first | go_values | go_skip | go_guarded | go_step | go_upon)
    refine Calls.mono (H4.out _ hb5) ?_
    rintro _ w6 ⟨rfl, hb6⟩
    dsimp only
    repeat' (first | go_values | go_skip | go_guarded | go_step | go_upon)
    go_ret
    exact ⟨rfl, hb6⟩
  | true =>
    rw [hvt hv] at h0 H1 H3 H5
    rw [hv] at H2
    generalize count t = k at H3 H4
    clear hvt hal hch hv hfl
    have H0 := Lib.hid h0
    have H1 := Lib.hid H1; have H3 := Lib.hid H3; have H5 := Lib.hid H5
    clear h0 H2 H4
    go_enter Tryd.func5, Tryd.ntmps5
    repeat' (first | go_values | go_skip | go_guarded | go_step | go_upon)
    refine Calls.mono (H0.out) ?_
    rintro _ w1 ⟨rfl, hb1⟩
    dsimp only
    repeat' (first | go_values | go_skip | go_guarded | go_step | go_upon)
    refine Calls.mono (H1.out _ hb1) ?_
    rintro _ w2 ⟨rfl, hb2⟩
    dsimp only
    repeat' (first | go_values | go_skip | go_guarded | go_step | go_upon)
    refine Calls.mono (H5.out _ hb2) ?_
    rintro _ w3 ⟨rfl, hb3⟩
    dsimp only
    repeat' (first | go_values | go_skip | go_guarded | go_step | go_upon)
    refine Calls.mono (H1.out _ hb3) ?_
    rintro _ w4 ⟨rfl, hb4⟩
    dsimp only
    repeat' (first | go_values | go_skip | go_guarded | go_step | go_upon)
    refine Calls.mono (H3.out _ hb4) ?_
    rintro _ w5 ⟨rfl, hb5⟩
    dsimp only
    repeat' (first | go_values | go_skip | go_guarded | go_step | go_upon)
    refine Calls.mono (H3.out _ hb5) ?_
    rintro _ w6 ⟨rfl, hb6⟩
    dsimp only
    repeat' (first | go_values | go_skip | go_guarded | go_step | go_upon)
    go_ret
    exact ⟨rfl, hb6⟩
end Go.Proofs.YtodicgphndoalaaDoor
