/- Walk: digits as a number, by the reference (P21.4). Condition: the text is of at most 10^6 bytes. -/
import Derived.Test.YtpelngkhipcneaaDoorIsaTab
namespace Go.Proofs.YtpelngkhipcneaaDoor
open Go.RowKit
theorem numB_no {s : List UInt8} (h : s = [] ∨ 10 < s.length ∨ (at8 s 0 = 48 ∧ 1 < s.length)) : numB s = -1 := by unfold numB; rw [if_pos h]
theorem numB_bad {s : List UInt8} {i : Nat} (hi : i < s.length) (h : at8 s i < 48 ∨ 57 < at8 s i) : numB s = -1 := by
  unfold numB
  split
  · rfl
  · have : Lib.decFrom 0 s = none := by
      cases hd : Lib.decFrom 0 s with
      | none => rfl
      | some n =>
        obtain ⟨d, hdv⟩ := Lib.digit_of_decFrom s 0 n hd i s[i] (List.getElem?_eq_getElem hi)
        have h1 := digitVal_some hdv
        have h2 : at8 s i = s[i].toNat := by unfold at8; rw [List.getD_eq_getElem?_getD, List.getElem?_eq_getElem hi]; rfl
        rw [h1.1] at h2
        have : (UInt8.ofNat (48 + d)).toNat = 48 + d := by simp; omega
        omega
    rw [this]
theorem numB_ok {s : List UInt8} (h : ¬ (s = [] ∨ 10 < s.length ∨ (at8 s 0 = 48 ∧ 1 < s.length))) {n : Nat} (hd : Lib.decFrom 0 s = some n) : numB s = n := by unfold numB; rw [if_neg h, hd]
theorem dec_step {s : List UInt8} {i n : Nat} (hi : i < s.length) (hd : Lib.decFrom 0 (s.take i) = some n) (h1 : 48 ≤ at8 s i) (h2 : at8 s i ≤ 57) : Lib.decFrom 0 (s.take (i + 1)) = some (n * 10 + (at8 s i - 48)) := by
  have h3 : at8 s i = s[i].toNat := by unfold at8; rw [List.getD_eq_getElem?_getD, List.getElem?_eq_getElem hi]; rfl
  refine Lib.decFrom_take s i 0 n s[i] (at8 s i - 48) hd (List.getElem?_eq_getElem hi) ?_
  unfold Lib.digitVal
  rw [if_pos (by omega), h3]
theorem list_nb (s : List UInt8) (h : s ≠ []) : (s == []) = false := by simpa using h
set_option maxRecDepth 100000 in
set_option maxHeartbeats 4000000 in
theorem ref_number (s : List UInt8) (hs : s.length ≤ 1000000) (w : World) :
    Calls Tryd.prog 42 #[.string ⟨s.toArray⟩] w fun e w' => e = .returned (.int .i64 (numB s)) ∧ w = w' := by
  have hz := sz_arr s
  by_cases h0 : s = []
  · subst h0
    rw [numB_no (.inl rfl)]
    go_enter Tryd.func42, Tryd.ntmps42
    repeat' (first | go_values | go_skip | go_guarded | go_step | go_upon)
    go_ret
    exact ⟨rfl, rfl⟩
  have hb0 := list_nb s h0
  have hp : 1 ≤ s.length := by
    rcases Nat.eq_zero_or_pos s.length with h | h
    · exact absurd (List.eq_nil_of_length_eq_zero h) h0
    · exact h
  by_cases h1 : 10 < s.length
  · rw [numB_no (.inr (.inl h1))]
    have h1' : (10 : Int) < s.length := by omega
    clear h1
    go_enter Tryd.func42, Tryd.ntmps42
    repeat' (first | go_values | go_skip | go_guarded | go_step | go_upon)
    go_ret
    exact ⟨rfl, rfl⟩
  have h1' : (s.length : Int) ≤ 10 := by omega
  have hat0 := at8_lt s 0
  by_cases h2 : at8 s 0 = 48 ∧ 1 < s.length
  · rw [numB_no (.inr (.inr h2))]
    have h3 : (((at8 s 0 : Nat) : Int) == 48) = true := by rw [beq_iff_eq]; omega
    have h4 : (1 : Int) < s.length := by omega
    clear h1 h2
    go_enter Tryd.func42, Tryd.ntmps42
    repeat' (first | go_values | go_skip | go_guarded | go_step | go_upon)
    go_ret
    exact ⟨rfl, rfl⟩
  have Hc : Hid (∀ n : Nat, Lib.decFrom 0 s = some n → numB s = n) := Lib.hid fun n hd => numB_ok (by
    rintro (h | h | h)
    · exact h0 h
    · exact h1 h
    · exact h2 h) hd
  have Hb : Hid (∀ i, i < s.length → (at8 s i < 48 ∨ 57 < at8 s i) → numB s = -1) := Lib.hid fun i hi h => numB_bad hi h
  have Hst : Hid (∀ i n, i < s.length → Lib.decFrom 0 (s.take i) = some n → 48 ≤ at8 s i → at8 s i ≤ 57 → Lib.decFrom 0 (s.take (i + 1)) = some (n * 10 + (at8 s i - 48))) := Lib.hid fun i n hi hd h1 h2 => dec_step hi hd h1 h2
  obtain ⟨N, hN⟩ : ∃ N, N = numB s := ⟨_, rfl⟩
  rw [← hN] at Hc Hb ⊢
  clear hN
  have hcase : ((((at8 s 0 : Nat) : Int) == 48) = false) ∨ ((((at8 s 0 : Nat) : Int) == 48) = true ∧ (s.length : Int) ≤ 1) := by
    by_cases h : at8 s 0 = 48
    · exact .inr ⟨by rw [beq_iff_eq]; omega, by omega⟩
    · exact .inl (beq_false_of_ne (by omega))
  clear h1 h2 h0
  rcases hcase with h3 | ⟨h3, h4⟩
  all_goals
    go_enter Tryd.func42, Tryd.ntmps42
    repeat' (first | go_values | go_skip | go_guarded | go_step | go_upon)
    clear h3
    go_loopw [3, 4] (fun s3 s4 wr => ∃ i n : Nat, s3 = .int .i64 n ∧ s4 = .int .i64 i ∧ i ≤ s.length ∧ Hid (Lib.decFrom 0 (s.take i) = some n) ∧ Hid (n < 10 ^ i) ∧ w = wr) (fun _ s4 _ => s.length - (intOf s4).toNat)
    case atStart => exact ⟨0, 0, rfl, rfl, Nat.zero_le _, Lib.hid rfl, Lib.hid (by decide), rfl⟩
    case round =>
      obtain ⟨i, n, rfl, rfl, hi, Hd, Hn, rfl⟩ := hrel
      have hnb : n ≤ 10000000000 := by
        have h := Hn.out
        have := Nat.pow_le_pow_right (n := 10) (by decide) (show i ≤ 10 by omega)
        omega
      by_cases hlt : i < s.length
      · have Hbi := Lib.hid (Hb.out i hlt)
        have Hsi := Lib.hid (Hst.out i n hlt Hd.out)
        have hlt' : i < (⟨s.toArray⟩ : ByteArray).size := by rw [hz]; exact hlt
        have hby : ((⟨s.toArray⟩ : ByteArray)[i]'hlt').toNat = at8 s i := by rw [ba_at]
        have ha := at8_lt s i
        generalize at8 s i = a at Hbi Hsi ha hby
        clear Hb Hst
        by_cases h1 : (a : Int) < 48
        · have e := Hbi.out (.inl (by omega))
          clear Hbi Hc
          subst e
          repeat' (first | go_values | go_skip | go_guarded | go_step | go_upon)
          go_ret
          exact ⟨rfl, rfl⟩
        have h1n : 48 ≤ (a : Int) := by omega
        clear h1
        by_cases h2 : (57 : Int) < a
        · have e := Hbi.out (.inr (by omega))
          clear Hbi Hc
          subst e
          repeat' (first | go_values | go_skip | go_guarded | go_step | go_upon)
          go_ret
          exact ⟨rfl, rfl⟩
        have h2n : (a : Int) ≤ 57 := by omega
        have Hs2 := Lib.hid (Hsi.out (by omega) (by omega))
        clear h2 Hbi Hsi
        repeat' (first | go_values | go_skip | go_guarded | go_step | go_upon)
        go_roundw
        case rel => exact ⟨i + 1, n * 10 + (a - 48), by go_num, by go_num, hlt, Hs2, Lib.hid (by have := Hn.out; rw [Nat.pow_succ]; omega), trivial⟩
        case measure => simp [intOf]; omega
      · obtain rfl : i = s.length := by omega
        have hd := Hd.out
        rw [List.take_length] at hd
        have e := Hc.out n hd
        clear hd Hc Hb Hst
        subst e
        repeat' (first | go_values | go_skip | go_guarded | go_step | go_upon)
        go_ret
        exact ⟨rfl, rfl⟩
end Go.Proofs.YtpelngkhipcneaaDoor
