/- Walks: a character is written (utf.Put); whether a text is well-formed (utf.Valid); UtfWrites. Condition: the tables of unicode/utf8 are laid. -/
import Derived.Test.YtodicgphndoalaaDoorUtfNext
import Derived.Test.YtodicgphndoalaaDoorUtfValidLib
import Derived.Laws.Runes
namespace Go.Proofs.YtodicgphndoalaaDoor
open Go.RowKit
theorem encode_enc {c : Int} (h : isI c = true) : Utf8.encode c = ⟨(encI c).toArray⟩ := by
  have hb := isI_iff.1 h
  have he : encI c = enc c.toNat := by unfold encI; rw [if_pos h]
  have hv : Utf8.valid c = true := by unfold Utf8.valid; simp; omega
  rw [he]
  unfold Utf8.encode enc
  simp only [hv, if_true]
  by_cases k1 : c.toNat < 128
  · rw [if_pos k1, if_pos k1]; rfl
  by_cases k2 : c.toNat < 2048
  · rw [if_neg k1, if_pos k2, if_neg k1, if_pos k2]; rfl
  by_cases k3 : c.toNat < 65536
  · rw [if_neg k1, if_neg k2, if_pos k3, if_neg k1, if_neg k2, if_pos k3]; rfl
  · rw [if_neg k1, if_neg k2, if_neg k3, if_neg k1, if_neg k2, if_neg k3]; rfl
theorem valid_isI {c : Int} (h0 : 0 ≤ c) (h1 : c ≤ 1114111) : Lib.validRune c = isI c := by
  rw [Bool.eq_iff_iff, isI_iff]
  unfold Lib.validRune
  rw [decide_eq_true_iff]
  omega
set_option maxRecDepth 100000 in
set_option maxHeartbeats 1000000 in
theorem utf_Put (c : Int) (hc : I64 c) (w : World) :
    Calls Tryd.prog 17 #[.int .i64 c] w fun e w' => e = .returned (.string ⟨(encI c).toArray⟩) ∧ w = w' := by
  by_cases h0 : c < 0
  · have : encI c = [] := encI_not (by rw [Bool.eq_false_iff, ne_eq, isI_iff]; omega)
    rw [this]
    go_enter Tryd.func17, Tryd.ntmps17
    repeat' (first | go_values | go_skip | go_guarded | go_step | go_upon)
    go_ret
    exact ⟨rfl, rfl⟩
  by_cases h1 : 1114111 < c
  · have : encI c = [] := encI_not (by rw [Bool.eq_false_iff, ne_eq, isI_iff]; omega)
    rw [this]
    go_enter Tryd.func17, Tryd.ntmps17
    repeat' (first | go_values | go_skip | go_guarded | go_step | go_upon)
    go_ret
    exact ⟨rfl, rfl⟩
  have hw : IntKind.i32.wrap c = c := by unfold IntKind.wrap; simp [IntKind.bits, IntKind.signed]; omega
  have hv : Calls Tryd.prog 26 #[.int .i32 c] w fun e w' => e = .returned (.bool (isI c)) ∧ w = w' := by
    rw [← valid_isI (by omega) (by omega)]; exact (Tryd.utf8_ValidRune c w).mono fun _ _ h => ⟨h.1, h.2.symm⟩
  have Hv := Lib.hid hv; clear hv
  cases hi : isI c with
  | false =>
    rw [hi] at Hv
    rw [encI_not hi]
    clear hi
    go_enter Tryd.func17, Tryd.ntmps17
    repeat' (first | go_values | go_skip | go_guarded | go_step | go_upon)
    refine Calls.mono (Hv.out) ?_
    rintro _ w1 ⟨rfl, rfl⟩
    dsimp only
    repeat' (first | go_values | go_skip | go_guarded | go_step | go_upon)
    go_ret
    exact ⟨rfl, rfl⟩
  | true =>
    rw [hi] at Hv
    have he := encode_enc hi
    clear hi
    go_enter Tryd.func17, Tryd.ntmps17
    repeat' (first | go_values | go_skip | go_guarded | go_step | go_upon)
    refine Calls.mono (Hv.out) ?_
    rintro _ w1 ⟨rfl, rfl⟩
    dsimp only
    repeat' (first | go_values | go_skip | go_guarded | go_step | go_upon)
    go_ret
    exact ⟨by rw [← he]; rfl, rfl⟩
set_option maxRecDepth 100000 in
theorem utf_Valid (s : ByteArray) (hs : s.size ≤ 1000000000000000) (w : World) (hT : Lib.Utf8Tabs 0 1 w) :
    Calls Tryd.prog 10 #[.string s] w fun e w' => e = .returned (.bool (valid s.data.toList)) ∧ Below w.heap.size w w' := by
  have h := utf8_ValidString s w (Nat.le_trans hs (by decide)) hT
  rw [validD_valid] at h
  have H := Lib.hid h; clear h
  go_enter Tryd.func10, Tryd.ntmps10
  repeat' (first | go_values | go_skip | go_guarded | go_step | go_upon)
  refine Calls.mono (H.out) ?_
  rintro _ w1 ⟨rfl, hb1⟩
  dsimp only
  repeat' (first | go_values | go_skip | go_guarded | go_step | go_upon)
  go_ret
  exact ⟨rfl, hb1⟩
theorem take_enc {c : Int} (h : isI c = true) : takeL (encI c) 0 = (c, ((encI c).length : Int), true) := by
  have hb := isI_iff.1 h
  have he : encI c = enc c.toNat := by unfold encI; rw [if_pos h]
  have hic : isC c.toNat = true := by unfold isI at h; rw [Bool.and_eq_true] at h; exact h.2
  have hn := next_enc hic []
  rw [List.append_nil] at hn
  have hp := enc_pos c.toNat
  rw [he]
  unfold takeL
  rw [if_pos (by omega), show (0 : Int).toNat = 0 from rfl, List.drop_zero, hn]
  simp only [Int.toNat_of_nonneg hb.1]
set_option maxRecDepth 100000 in
set_option maxHeartbeats 1000000 in
theorem law_UtfWrites (c : Int) (hc : I64 c) (w : World) (hT : Lib.Utf8Tabs 0 1 w) :
    Calls Tryd.prog 7 #[.int .i64 c] w fun e w' => e = .returned (.bool true) ∧ Below w.heap.size w w' := by
  have hlen : (encI c).length ≤ 4 := by
    unfold encI; split
    · exact enc_le _
    · exact Nat.zero_le _
  have hsz : (⟨(encI c).toArray⟩ : ByteArray).size ≤ 1000000000000000 := by show (encI c).toArray.size ≤ _; rw [List.size_toArray]; omega
  have h1 := utf_Put c hc w
  have h2 := ref_Put c hc
  have h3 := fun w (hT : Lib.Utf8Tabs 0 1 w) => utf_Next ⟨(encI c).toArray⟩ hsz 0 (i64_small (by omega)) w hT
  have h4 := fun w (hT : Lib.Utf8Tabs 0 1 w) => utf_Valid ⟨(encI c).toArray⟩ hsz w hT
  cases hi : isI c with
  | false =>
    have he : encI c = [] := encI_not hi
    rw [he] at h1 h2 h3 h4
    have ht : takeL (⟨([] : List UInt8).toArray⟩ : ByteArray).data.toList 0 = (0, 0, false) := rfl
    rw [ht] at h3
    have H2 := Lib.hid h2; have H3 := Lib.hid h3
    clear h4 h2 h3 hsz hlen
    go_enter Tryd.func7, Tryd.ntmps7
    repeat' (first | go_values | go_skip | go_guarded | go_step | go_upon)
    refine Calls.mono (h1) ?_
    rintro _ w1 ⟨rfl, rfl⟩
    dsimp only
    repeat' (first | go_values | go_skip | go_guarded | go_step | go_upon)
    refine Calls.mono (H2.out _) ?_
    rintro _ w2 ⟨rfl, hb2⟩
    dsimp only
    repeat' (first | go_values | go_skip | go_guarded | go_step | go_upon)
    refine Calls.mono (H3.out _ (Utf8Tabs_below hT hb2)) ?_
    rintro _ w3 ⟨rfl, hb3⟩
    dsimp only
    repeat' (first | go_values | go_skip | go_guarded | go_step | go_upon)
    go_ret
    exact ⟨rfl, hb2.trans (hb3.mono hb2.size)⟩
  | true =>
    have ht : takeL (⟨(encI c).toArray⟩ : ByteArray).data.toList 0 = (c, ((encI c).length : Int), true) := take_enc hi
    rw [ht] at h3
    have hv : valid (⟨(encI c).toArray⟩ : ByteArray).data.toList = true := by
      show valid (encI c) = true
      have he : encI c = enc c.toNat := by unfold encI; rw [if_pos hi]
      have hic : isC c.toNat = true := by unfold isI at hi; rw [Bool.and_eq_true] at hi; exact hi.2
      have := valid_enc hic []
      rw [List.append_nil] at this
      rw [he, this]; rfl
    rw [hv] at h4
    have hne : (encI c == []) = false := by
      have he : encI c = enc c.toNat := by unfold encI; rw [if_pos hi]
      have := enc_pos c.toNat
      rw [he]
      cases hx : enc c.toNat with
      | nil => rw [hx] at this; simp at this
      | cons => rfl
    clear hv ht hsz hi
    generalize encI c = u at h1 h2 h3 h4 hne hlen
    have H2 := Lib.hid h2; have H3 := Lib.hid h3; have H4 := Lib.hid h4
    clear h2 h3 h4
    have hus : (⟨u.toArray⟩ : ByteArray).size = u.length := rfl
    go_enter Tryd.func7, Tryd.ntmps7
    repeat' (first | go_values | go_skip | go_guarded | go_step | go_upon)
    refine Calls.mono (h1) ?_
    rintro _ w1 ⟨rfl, rfl⟩
    dsimp only
    repeat' (first | go_values | go_skip | go_guarded | go_step | go_upon)
    refine Calls.mono (H2.out _) ?_
    rintro _ w2 ⟨rfl, hb2⟩
    dsimp only
    repeat' (first | go_values | go_skip | go_guarded | go_step | go_upon)
    refine Calls.mono (H3.out _ (Utf8Tabs_below hT hb2)) ?_
    rintro _ w3 ⟨rfl, hb3⟩
    dsimp only
    repeat' (first | go_values | go_skip | go_guarded | go_step | go_upon)
    refine Calls.mono (H4.out _ (Utf8Tabs_below (Utf8Tabs_below hT hb2) hb3)) ?_
    rintro _ w4 ⟨rfl, hb4⟩
    dsimp only
    repeat' (first | go_values | go_skip | go_guarded | go_step | go_upon)
    go_ret
    exact ⟨rfl, (hb2.trans (hb3.mono hb2.size)).trans (hb4.mono (Nat.le_trans hb2.size hb3.size))⟩
end Go.Proofs.YtodicgphndoalaaDoor
