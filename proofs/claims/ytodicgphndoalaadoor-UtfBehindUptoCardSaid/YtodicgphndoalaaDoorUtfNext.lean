/- Walks: which character begins (utf.Next), and that it is the reference's (UtfTakes). Conditions: the text is of at most 10^15 bytes; the tables of unicode/utf8 are laid. -/
import Derived.Test.YtodicgphndoalaaDoorUtfRefNext
import Derived.Test.YtodicgphndoalaaDoorShelf
namespace Go.Proofs.YtodicgphndoalaaDoor
open Go.RowKit
theorem slice_tail {P : Program} {ty : TypeId} (hu : P.underlying ty = some .string) (s : ByteArray) (m : Nat) (hm : m ≤ s.size) (wx : World) :
    (Instr.slice ty (.string s) (some (.int .i64 m)) none none).run P wx = .ok (.string ⟨(s.data.toList.drop m).toArray⟩) wx := by
  have hsz : s.data.toList.length = s.size := ba_len s
  rw [run_slice_string_l (ht := hu) (kl := .i64) (l := (m : Int)) (h0 := by omega) (h1 := by omega), ba_extract]
  rw [Int.toNat_natCast]
  have e : (s.data.toList.drop m).take (s.size - m) = s.data.toList.drop m := List.take_of_length_le (by simp)
  rw [e]
theorem next3 {l : List UInt8} (h : l ≠ []) : (nextL l).2.2 = (!((dec l).1 == 65533) || (dec l).2 == 3) := by
  have : nextL l = ((dec l).1, (dec l).2, !((dec l).1 == 65533 && (dec l).2 == 1)) := rfl
  rw [this]
  rcases dec_cases' h with e | ⟨c, t, h1, h2, e⟩
  · rw [e]; rfl
  · rw [e]
    by_cases hc : c = 65533
    · subst hc; rfl
    · have : (c == 65533) = false := by simpa using hc
      simp [this]
theorem decodeGo_list {l : List UInt8} (h : l ≠ []) : Lib.decodeGo ⟨l.toArray⟩ = dec l := by
  unfold Lib.decodeGo
  rw [if_neg (by simpa [ByteArray.size] using h), decode_list, List.drop_zero]
set_option maxRecDepth 100000 in
set_option maxHeartbeats 1000000 in
theorem utf_Next (s : ByteArray) (hs : s.size ≤ 1000000000000000) (a : Int) (ha : I64 a) (w : World) (hT : Lib.Utf8Tabs 0 1 w) :
    Calls Tryd.prog 8 #[.string s, .int .i64 a] w fun e w' => e = .returned (.tuple #[.int .i64 (takeL s.data.toList a).1, .int .i64 (takeL s.data.toList a).2.1, .bool (takeL s.data.toList a).2.2]) ∧ Below w.heap.size w w' := by
  have hl := ba_len s
  by_cases h0 : a < 0
  · have : takeL s.data.toList a = (0, 0, false) := by unfold takeL; rw [if_neg (by omega)]
    rw [this]
    go_enter Tryd.func8, Tryd.ntmps8
    repeat' (first | go_values | go_skip | go_guarded | go_step | go_upon)
    go_ret3
    exact ⟨rfl, Below.refl _ _⟩
  obtain ⟨m, rfl⟩ := Int.eq_ofNat_of_zero_le (by omega : 0 ≤ a)
  by_cases h1 : (s.size : Int) ≤ m
  · have : takeL s.data.toList m = (0, 0, false) := by unfold takeL; rw [if_neg (by omega)]
    rw [this]
    go_enter Tryd.func8, Tryd.ntmps8
    repeat' (first | go_values | go_skip | go_guarded | go_step | go_upon)
    go_ret3
    exact ⟨rfl, Below.refl _ _⟩
  have hsl := slice_tail (P := Tryd.prog) Tryd.underlying9 s m (by omega)
  have hne : s.data.toList.drop m ≠ [] := by
    intro h; have := congrArg List.length h; rw [List.length_drop] at this; simp at this; omega
  have hlen : (s.data.toList.drop m).length = s.size - m := by rw [List.length_drop]; omega
  have ht : takeL s.data.toList m = (((nextL (s.data.toList.drop m)).1 : Int), ((nextL (s.data.toList.drop m)).2.1 : Int), (nextL (s.data.toList.drop m)).2.2) := by
    unfold takeL; rw [if_pos (by omega)]; rfl
  rw [ht]
  generalize s.data.toList.drop m = t at hne hlen hsl ⊢
  have hd := Tryd.utf8_DecodeRuneInString ⟨t.toArray⟩ w hT
  rw [decodeGo_list hne] at hd
  rw [next3 hne]
  have hb := (isC_iff.1 (dec_pos hne).2.2.2).1
  have e1 : (nextL t).1 = (dec t).1 := rfl
  have e2 : (nextL t).2.1 = (dec t).2 := rfl
  rw [e1, e2]
  generalize (dec t).1 = r at hd hb ⊢
  generalize (dec t).2 = n at hd ⊢
  have Hd := Lib.hid hd
  have hb' : (r : Int) ≤ 1114111 := by omega
  clear hd hb ht hne hlen e1 e2 hl
  have hr64 : IntKind.i64.wrap (r : Int) = r := wi64 (i64_small (by omega))
  by_cases h5 : r = 65533
  · subst h5
    by_cases h6 : n = 3
    · subst h6
      go_enter Tryd.func8, Tryd.ntmps8
      repeat' (first | go_values | go_skip | go_guarded | go_step | go_upon)
      refine Calls.mono (Hd.out) ?_
      rintro _ w1 ⟨rfl, hb1⟩
      dsimp only
      repeat' (first | go_values | go_skip | go_guarded | go_step | go_upon)
      go_ret3
      exact ⟨rfl, hb1⟩
    · have h7 : (n == 3) = false := by simpa using h6
      have h8 : ((n : Int) == 3) = false := by simp; omega
      rw [h7]
      go_enter Tryd.func8, Tryd.ntmps8
      repeat' (first | go_values | go_skip | go_guarded | go_step | go_upon)
      refine Calls.mono (Hd.out) ?_
      rintro _ w1 ⟨rfl, hb1⟩
      dsimp only
      repeat' (first | go_values | go_skip | go_guarded | go_step | go_upon)
      go_ret3
      exact ⟨rfl, hb1⟩
  · have h7 : (r == 65533) = false := by simpa using h5
    have h8 : ((r : Int) == 65533) = false := by simp; omega
    have h9 : ((r : Int) = 65533) = False := by simp; omega
    rw [h7]
    go_enter Tryd.func8, Tryd.ntmps8
    repeat' (first | go_values | go_skip | go_guarded | go_step | go_upon)
    refine Calls.mono (Hd.out) ?_
    rintro _ w1 ⟨rfl, hb1⟩
    dsimp only
    repeat' (first | go_values | go_skip | go_guarded | go_step | go_upon)
    go_ret3
    exact ⟨rfl, hb1⟩
set_option maxRecDepth 100000 in
set_option maxHeartbeats 1000000 in
theorem law_UtfTakes (s : ByteArray) (hs' : s.size ≤ 140737488351232) (a : Int) (ha : I64 a) (w : World) (hT : Lib.Utf8Tabs 0 1 w) :
    Calls Tryd.prog 3 #[.string s, .int .i64 a] w fun e w' => e = .returned (.bool true) ∧ Below w.heap.size w w' := by
  have hs : s.size ≤ 1000000000000000 := Nat.le_trans hs' (by decide)
  have h1 := utf_Next s hs a ha w hT
  have h2 := ref_Next s hs a ha
  generalize (takeL s.data.toList a).1 = x at h1 h2
  generalize (takeL s.data.toList a).2.1 = y at h1 h2
  generalize (takeL s.data.toList a).2.2 = b at h1 h2
  go_enter Tryd.func3, Tryd.ntmps3
  repeat' (first | go_values | go_skip | go_guarded | go_step | go_upon)
  refine Calls.mono (h1) ?_
  rintro _ w1 ⟨rfl, hb1⟩
  dsimp only
  repeat' (first | go_values | go_skip | go_guarded | go_step | go_upon)
  refine Calls.mono (h2 _) ?_
  rintro _ w2 ⟨rfl, hb2⟩
  dsimp only
  repeat' (first | go_values | go_skip | go_guarded | go_step | go_upon)
  go_ret
  exact ⟨rfl, hb1.trans (hb2.mono hb1.size)⟩
end Go.Proofs.YtodicgphndoalaaDoor
