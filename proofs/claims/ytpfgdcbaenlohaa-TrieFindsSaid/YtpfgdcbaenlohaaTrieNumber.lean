/- Walk: a word's number in a trie, as the document says (fretsawref16.Number). Conditions: the text is of at most 10^6 bytes; the rows are of ints. -/
import Derived.Test.YtpfgdcbaenlohaaTrieFind
namespace Go.Proofs.Ytpfgdcbaenlohaa
open Go.RowKit
section
variable {b1 o1 c1 b2 o2 c2 b3 o3 c3 n : Nat}
set_option maxRecDepth 100000 in
set_option maxHeartbeats 2000000 in
theorem ref_Number (f1 f2 f3 : Nat → Int) (hn0 : 1 ≤ n) (hn : n ≤ 400000) (s : ByteArray) (hs : s.size ≤ 1000000) (w : World) (h1 : Row3 w b1 o1 n f1) (h2 : Row3 w b2 o2 n f2) (h3 : Row3 w b3 o3 n f3) :
    Calls Try.prog 12 #[(.agg #[.slice (some ⟨b1, o1, none⟩) n c1, .slice (some ⟨b2, o2, none⟩) n c2, .slice (some ⟨b3, o3, none⟩) n c3]), .string s] w fun e w' => e = .returned (.int .i64 (numF f1 f2 f3 n s.data.toList)) ∧ Below w.heap.size w w' := by
  obtain ⟨r, hr⟩ : ∃ r, numF f1 f2 f3 n s.data.toList = r := ⟨_, rfl⟩
  rw [hr]
  have Hr := Lib.hid hr; clear hr
  have Hbox := Lib.hid (BoxAt.alloc w (.slice (some ⟨b1, o1, none⟩) n c1) (.slice (some ⟨b2, o2, none⟩) n c2) (.slice (some ⟨b3, o3, none⟩) n c3) 24)
  have Hb : Hid (Below w.heap.size w (w.alloc (.cells #[.slice (some ⟨b1, o1, none⟩) n c1, .slice (some ⟨b2, o2, none⟩) n c2, .slice (some ⟨b3, o3, none⟩) n c3] 24))) := Lib.hid ((Below.refl _ _).alloc (Nat.le_refl _) _)
  have G1 := Lib.hid (h1.keep Hb.out)
  have G2 := Lib.hid (h2.keep Hb.out)
  have G3 := Lib.hid (h3.keep Hb.out)
  clear h1 h2 h3
  go_enter Try.func12, Try.ntmps12
  repeat' (first | go_values | go_skip | go_guarded | go_step | go_upon)
  generalize (w.alloc (.cells #[.slice (some ⟨b1, o1, none⟩) n c1, .slice (some ⟨b2, o2, none⟩) n c2, .slice (some ⟨b3, o3, none⟩) n c3] 24)) = w1 at Hbox Hb G1 G2 G3
  go_loopw [5, 6] (fun s5 s6 w' => ∃ k st : Nat, s6 = .int .i64 k ∧ k ≤ s.size ∧ s5 = .int .i64 st ∧ st < n ∧ Hid (goF f1 f2 n (s.data.toList.take k) = some st) ∧ Hid (Below w1.heap.size w1 w')) (fun _ s6 _ => s.size - (intOf s6).toNat)
  case atStart => exact ⟨0, 0, rfl, Nat.zero_le _, rfl, hn0, Lib.hid rfl, Lib.hid (Below.refl _ _)⟩
  case round =>
    obtain ⟨k, st, rfl, hk, rfl, hst, Hg, Hw⟩ := hrel
    have HB := Lib.hid (Hbox.out.keep Hw.out)
    have R1 := Lib.hid (G1.out.keep Hw.out)
    have R2 := Lib.hid (G2.out.keep Hw.out)
    have R3 := Lib.hid (G3.out.keep Hw.out)
    by_cases hlt : k < s.size
    · have hlt' : (k : Int) < s.size := by omega
      obtain ⟨b, hb⟩ : ∃ b, s[k].toNat = b := ⟨_, rfl⟩
      have hbl : b < 256 := by rw [← hb]; exact s[k].toNat_lt
      have hgn := goF_snoc f1 f2 n (s.data.toList.take k) s[k]
      rw [← take_next s k hlt, Hg.out, hb] at hgn
      have hba : at8 s.data.toList k = b := by rw [← ba_at s k hlt]; exact hb
      have Hgn : Hid (goF f1 f2 n (s.data.toList.take (k + 1)) = stepS f1 f2 n st b) := Lib.hid hgn
      have HG : Hid (goF f1 f2 n (s.data.toList.take (k + 1)) = none → r = -1) := Lib.hid (fun h => by
        rw [← Hr.out, numF_none]
        have h' := goF_take h hlt
        rwa [List.take_of_length_le (by simp)] at h')
      clear hgn hb
      have q0 := HB.out.2.1
      have q1 := HB.out.2.2.1
      have hc1 := R1.out.2 st hst
      obtain ⟨o, ho⟩ : ∃ o, stepS f1 f2 n st b = o := ⟨_, rfl⟩
      rw [ho] at Hgn
      unfold stepS at ho
      obtain ⟨x, hx⟩ : ∃ x, f1 st = x := ⟨_, rfl⟩
      rw [hx] at ho hc1
      clear hx
      have Ho := Lib.hid ho; clear ho
      by_cases k1 : -400000 ≤ x ∧ x ≤ 400000
      · obtain ⟨k1, k2⟩ := k1
        by_cases k3 : 0 < x + b + 1 ∧ x + b + 1 < n
        · obtain ⟨k3, k4⟩ := k3
          obtain ⟨p, hp⟩ := Int.eq_ofNat_of_zero_le (show 0 ≤ x + b + 1 by omega)
          have hpn : p < n := by omega
          have hp0 : 0 < p := by omega
          have Hp := Lib.hid hp
          have Hk1 := Lib.hid k1; have Hk2 := Lib.hid k2; have Hk3 := Lib.hid k3; have Hk4 := Lib.hid k4
          have qn1 : wr.drew.cell? ⟨w.heap.size, 0, none⟩ = some (.slice (some ⟨b1, o1, none⟩) n c1) := q0
          have qn2 : wr.drew.cell? ⟨w.heap.size, 1, none⟩ = some (.slice (some ⟨b2, o2, none⟩) n c2) := q1
          have hc2 : wr.drew.cell? ⟨b2, o2 + p, none⟩ = some (.int .i64 (f2 p)) := R2.out.2 p hpn
          by_cases k5 : f2 p = st
          · have e5 : (f2 p == (st : Int)) = true := by simpa using k5
            have e6 : (f2 p != (st : Int)) = false := by simpa using k5
            have Hk5 := Lib.hid k5; clear k5
            have e : o = some p := by
              rw [← Ho.out, if_pos ⟨Hk1.out, Hk2.out, Hk3.out, Hk4.out, by rw [Hp.out]; exact Hk5.out⟩, Hp.out]; rfl
            subst e
            repeat' (first | go_values | go_skip | go_guarded | go_step | go_upon)
            go_region
            repeat' (first | go_values | go_skip | go_guarded | go_step | go_upon)
            go_roundw
            case rel => exact ⟨k + 1, p, by go_num, hlt, rfl, hpn, Hgn, Lib.hid Hw.out.drew⟩
            case measure => simp [intOf]; omega
          · have e5 : (f2 p == (st : Int)) = false := by simpa using k5
            have e6 : (f2 p != (st : Int)) = true := by simpa using k5
            have Hk5 := Lib.hid k5; clear k5
            have e : o = none := by
              rw [← Ho.out, if_neg (fun h => Hk5.out (by have := h.2.2.2.2; rw [Hp.out] at this; exact this))]
            subst e
            have hr1 := HG.out Hgn.out
            repeat' (first | go_values | go_skip | go_guarded | go_step | go_upon)
            go_region
            repeat' (first | go_values | go_skip | go_guarded | go_step | go_upon)
            all_goals go_ret
            all_goals exact ⟨ret_i hr1.symm, Hb.out.trans (Hw.out.drew.mono Hb.out.size)⟩
        · have e : o = none := by rw [← Ho.out, if_neg (fun h => k3 ⟨h.2.2.1, h.2.2.2.1⟩)]
          subst e
          have hr1 := HG.out Hgn.out
          have qn1 : wr.drew.cell? ⟨w.heap.size, 0, none⟩ = some (.slice (some ⟨b1, o1, none⟩) n c1) := q0
          repeat' (first | go_values | go_skip | go_guarded | go_step | go_upon)
          go_region
          repeat' (first | go_values | go_skip | go_guarded | go_step | go_upon)
          all_goals go_ret
          all_goals exact ⟨ret_i hr1.symm, Hb.out.trans (Hw.out.drew.mono Hb.out.size)⟩
      · have e : o = none := by rw [← Ho.out, if_neg (fun h => k1 ⟨h.1, h.2.1⟩)]
        subst e
        have hr1 := HG.out Hgn.out
        repeat' (first | go_values | go_skip | go_guarded | go_step | go_upon)
        all_goals go_ret
        all_goals exact ⟨ret_i hr1.symm, Hb.out.trans (Hw.out.mono Hb.out.size)⟩
    · obtain rfl : k = s.size := by omega
      have hg := Hg.out
      rw [List.take_of_length_le (by simp)] at hg
      have hw2 := HB.out.2.2.2
      have hc3 := R3.out.2 st hst
      have hnum := numF_some (f3 := f3) hg
      rw [Hr.out] at hnum
      generalize f3 st = x at hc3 hnum
      have Hnum := Lib.hid hnum; clear hnum hg
      by_cases hx : x < 0
      · have e : r = -1 := by rw [Hnum.out, if_pos hx]
        repeat' (first | go_values | go_skip | go_guarded | go_step | go_upon)
        go_ret
        exact ⟨ret_i e.symm, Hb.out.trans (Hw.out.mono Hb.out.size)⟩
      · have e : r = x := by rw [Hnum.out, if_neg hx]
        repeat' (first | go_values | go_skip | go_guarded | go_step | go_upon)
        go_ret
        exact ⟨ret_i e.symm, Hb.out.trans (Hw.out.mono Hb.out.size)⟩
end
end Go.Proofs.Ytpfgdcbaenlohaa
