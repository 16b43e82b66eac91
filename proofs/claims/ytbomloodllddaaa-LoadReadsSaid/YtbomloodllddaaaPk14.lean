/- Walk: whether a hash may be, by the reference. Condition: the hash lies in memory. -/
import Derived.Test.YtbomloodllddaaaPk13
namespace Go.Proofs.Ytbomloodllddaaa
open Go.RowKit
set_option maxRecDepth 100000 in
set_option maxHeartbeats 4000000 in
theorem rh_Right (vs vk vv : Value) (h : HashP) (w : World) (H : HashAt w vs vk vv h) :
    Calls Try.prog 125 #[.agg #[vs, vk, vv]] w fun e w' => e = .returned (.bool (hokI h)) ∧ Below w.heap.size w w' := by
  obtain ⟨asd, caps, hvs, hcs, hms, _⟩ := H.seeds.open (sz := 1) (f := u32C) (fun _ => rfl)
  obtain ⟨ak, capk, hvk, hck, hmk, hcellk⟩ := H.keys.open (sz := 1) (f := u64C) (fun _ => rfl)
  obtain ⟨av, capv, hvv, hcv, hmv, _⟩ := H.vals.open (sz := 1) (f := u64C) (fun _ => rfl)
  have HH := Lib.hid H
  clear H
  unfold maxLen at hms hmk hmv
  have hlen := fun hc => @hok_len h hc
  have hbad := fun i => @hok_bad h i
  have hgood := @hok_good h
  have hchk : ∀ i, chkI h i = (decide (placeI h (h.keys.getD i 0) = i) && (decide (h.seeds.length ≠ 0) || (decide (i = 0) || decide (h.keys.getD (i - 1) 0 < h.keys.getD i 0)))) := fun i => rfl
  obtain ⟨n, hn⟩ : ∃ n, n = h.keys.length := ⟨_, rfl⟩
  obtain ⟨m, hm⟩ : ∃ n, n = h.seeds.length := ⟨_, rfl⟩
  obtain ⟨q, hq⟩ : ∃ n, n = h.vals.length := ⟨_, rfl⟩
  rw [← hn] at hvk hck hcellk hlen hbad hgood
  rw [← hm] at hvs hcs hlen hgood hchk
  rw [← hq] at hvv hcv hlen hgood
  have Hn := Lib.hid hn
  have Hm := Lib.hid hm
  subst hvs hvk hvv
  clear hm hq hn
  by_cases h1 : 4096 < n
  · have HF := Lib.hid (hlen (by omega))
    clear hlen hbad hgood hchk
    generalize hokI h = B at HF ⊢
    go_enter Try.func125, Try.ntmps125
    repeat' (first | go_values | go_skip | go_guarded | go_step | go_upon)
    go_ret
    exact ⟨ret_b HF.out.symm, (Below.refl _ _).alloc (Nat.le_refl _) _⟩
  by_cases h2 : q = n
  rotate_left
  · have HF := Lib.hid (hlen (by omega))
    have hb : ((q : Int) != (n : Int)) = true := by rw [bne_iff_ne]; omega
    clear hlen hbad hgood hchk
    generalize hokI h = B at HF ⊢
    go_enter Try.func125, Try.ntmps125
    repeat' (first | go_values | go_skip | go_guarded | go_step | go_upon)
    go_ret
    exact ⟨ret_b HF.out.symm, (Below.refl _ _).alloc (Nat.le_refl _) _⟩
  have hqn : ((q : Int) != (n : Int)) = false := by rw [bne_eq_false_iff_eq]; omega
  by_cases h3 : 4096 < m
  · have HF := Lib.hid (hlen (by omega))
    clear hlen hbad hgood hchk h2
    generalize hokI h = B at HF ⊢
    go_enter Try.func125, Try.ntmps125
    repeat' (first | go_values | go_skip | go_guarded | go_step | go_upon)
    go_ret
    exact ⟨ret_b HF.out.symm, (Below.refl _ _).alloc (Nat.le_refl _) _⟩
  by_cases h0 : n = 0
  · have hq0 : q = 0 := by omega
    subst h0
    subst hq0
    clear hqn
    by_cases h4 : m = 0
    · subst h4
      have HF := Lib.hid (hgood ⟨by omega, rfl, by omega, .inr rfl⟩ (fun i hi => absurd hi (Nat.not_lt_zero _)))
      clear hlen hbad hgood hchk h2 hcellk
      generalize hokI h = B at HF ⊢
      go_enter Try.func125, Try.ntmps125
      repeat' (first | go_values | go_skip | go_guarded | go_step | go_upon)
      go_ret
      exact ⟨ret_b HF.out.symm, (Below.refl _ _).alloc (Nat.le_refl _) _⟩
    · have HF := Lib.hid (hlen (by omega))
      have hmz : ((m : Int) == 0) = false := beq_false_of_ne (by omega)
      have hmz2 : (0 : Int) < m := by omega
      clear hlen hbad hgood hchk h2 hcellk
      generalize hokI h = B at HF ⊢
      go_enter Try.func125, Try.ntmps125
      repeat' (first | go_values | go_skip | go_guarded | go_step | go_upon)
      go_ret
      exact ⟨ret_b HF.out.symm, (Below.refl _ _).alloc (Nat.le_refl _) _⟩
  rcases hcellk with hk0 | ⟨b, off, rfl, hb, hcellk⟩
  · exact absurd hk0 h0
  have hn4 : n ≤ 4096 := by omega
  have hm4 : m ≤ 4096 := by omega
  have Hcellk := Lib.hid hcellk
  have Hbad := Lib.hid hbad
  have Hgood : Hid ((∀ i, i < n → chkI h i = true) → hokI h = true) := Lib.hid (hgood ⟨by omega, h2, by omega, .inl h0⟩)
  have Hchk := Lib.hid hchk
  have hn0 : ((n : Int) == 0) = false := beq_false_of_ne (by omega)
  have Hp := Lib.hid fun k hk w H => rh_place (.slice asd m caps) (.slice (some ⟨b, off, none⟩) n capk) (.slice av q capv) h k hk w H (by rw [← Hn.out]; exact h0) (by rw [← Hn.out]; omega)
  have HB0 : Hid (HBox (w.alloc (.cells #[.slice asd m caps, .slice (some ⟨b, off, none⟩) n capk, .slice av q capv] 28)) w.heap.size (.slice asd m caps) (.slice (some ⟨b, off, none⟩) n capk) (.slice av q capv)) := Lib.hid (HBox.new _ _ _ _)
  have Hb0 : Hid (Below w.heap.size w (w.alloc (.cells #[.slice asd m caps, .slice (some ⟨b, off, none⟩) n capk, .slice av q capv] 28))) := Lib.hid ((Below.refl _ _).alloc (Nat.le_refl _) _)
  clear hlen hbad hgood hchk hcellk h2 h1 h3 hms hmk hmv hcs hcv
  generalize hokI h = B at Hbad Hgood ⊢
  go_enter Try.func125, Try.ntmps125
  repeat' (first | go_values | go_skip | go_guarded | go_step | go_upon)
  obtain ⟨wb, hwb⟩ : ∃ wb, wb = w.alloc (.cells #[.slice asd m caps, .slice (some ⟨b, off, none⟩) n capk, .slice av q capv] 28) := ⟨_, rfl⟩
  have HB1 : Hid (HBox wb w.heap.size (.slice asd m caps) (.slice (some ⟨b, off, none⟩) n capk) (.slice av q capv)) := Lib.hid (by rw [hwb]; exact HB0.out)
  have Hb1 : Hid (Below w.heap.size w wb) := Lib.hid (by rw [hwb]; exact Hb0.out)
  rw [← hwb]
  clear hwb HB0 Hb0
  go_loopw [33] (fun s_ wr => ∃ k : Nat, s_ = .int .i64 k ∧ k ≤ n ∧ Hid (∀ i, i < k → chkI h i = true) ∧ Hid (HBox wr w.heap.size (.slice asd m caps) (.slice (some ⟨b, off, none⟩) n capk) (.slice av q capv)) ∧ Hid (Below w.heap.size w wr)) (fun s_ _ => n - (intOf s_).toNat)
  case atStart => exact ⟨0, rfl, Nat.zero_le _, Lib.hid fun i hi => absurd hi (Nat.not_lt_zero _), HB1, Hb1⟩
  case round =>
    clear HB1 Hb1
    obtain ⟨k, rfl, hk, Ha, HB, Hb⟩ := hrel
    by_cases hlt : k < n
    · have ck := row1 (d := 0) Hcellk.out k (by rw [← Hn.out]; omega)
      rw [← Hb.out.cell (show b < w.heap.size from hb)] at ck
      simp only [u64C, List.getElem?_cons_zero] at ck
      have cp : 1 ≤ k → wr.cell? ⟨b, off + (k - 1), none⟩ = some (.int .u64 (h.keys.getD (k - 1) 0 : Nat)) := fun h1 => by
        have := row1 (d := 0) Hcellk.out (k - 1) (by rw [← Hn.out]; omega)
        rw [← Hb.out.cell (show b < w.heap.size from hb)] at this
        simpa only [u64C, List.getElem?_cons_zero] using this
      have hkb := HH.out.kb k
      have hkb2 := HH.out.kb (k - 1)
      have Hpk := Lib.hid fun w H => Hp.out (h.keys.getD k 0) hkb w H
      have HHr := Lib.hid (HH.out.keep Hb.out)
      have Hck := Lib.hid (Hchk.out k)
      have Hbk := Lib.hid (Hbad.out k hlt)
      generalize h.keys.getD k 0 = x at ck hkb Hpk Hck
      generalize h.keys.getD (k - 1) 0 = y at cp hkb2 Hck
      generalize placeI h x = pl at Hpk Hck
      obtain ⟨ch, hch⟩ : ∃ c, c = chkI h k := ⟨_, rfl⟩
      rw [← hch] at Hck Hbk
      have Hch := Lib.hid hch
      clear hch
      have hbB : b < wr.heap.size := Nat.lt_of_lt_of_le hb Hb.out.size
      have cp2 : ∀ w2, Below wr.heap.size wr w2 → 1 ≤ k → w2.cell? ⟨b, off + (k - 1), none⟩ = some (.int .u64 (y : Nat)) := fun w2 hb2 h1 => by rw [hb2.cell (show b < wr.heap.size from hbB)]; exact cp h1
      clear cp
      by_cases hA : pl = (k : Int)
      rotate_left
      · have HF := Lib.hid (Hbk.out (by rw [Hck.out, decide_eq_false hA]; rfl))
        have hA1 : (pl != (k : Int)) = true := by rw [bne_iff_ne]; exact hA
        clear hA
        have c0 := HB.out.c0
        have c1 := HB.out.c1
        have c2 := HB.out.c2
        repeat' (first | go_values | go_skip | go_guarded | go_step | go_upon)
        refine Calls.mono (Hpk.out _ HHr.out) ?_
        rintro _ w2 ⟨rfl, hb2⟩
        dsimp only
        have HB2 := Lib.hid (HB.out.keep hb2)
        have Hb2 := Lib.hid (Hb.out.trans (hb2.mono Hb.out.size))
        have d0 := HB2.out.c0
        have d1 := HB2.out.c1
        skip
        clear hb2
        repeat' (first | go_values | go_skip | go_guarded | go_step | go_upon)
        go_ret
        exact ⟨ret_b HF.out.symm, Hb2.out⟩
      have hA1 : (pl != (k : Int)) = false := by rw [bne_eq_false_iff_eq]; exact hA
      have hAd : decide (pl = (k : Int)) = true := decide_eq_true hA
      have HAd := Lib.hid hAd
      clear hA hAd
      by_cases hm0 : m = 0
      rotate_left
      · have Hok : Hid (ch = true) := Lib.hid (by rw [Hck.out, HAd.out, decide_eq_true hm0]; rfl)
        have hm1 : ((m : Int) == 0) = false := beq_false_of_ne (by omega)
        have hm2 : ((m : Int) != 0) = true := by rw [bne_iff_ne]; omega
        have hlt1 : (k : Int) < n := by omega
        have Hlt := Lib.hid hlt
        clear hm0 hlt cp2
        have c0 := HB.out.c0
        have c1 := HB.out.c1
        have c2 := HB.out.c2
        repeat' (first | go_values | go_skip | go_guarded | go_step | go_upon)
        refine Calls.mono (Hpk.out _ HHr.out) ?_
        rintro _ w2 ⟨rfl, hb2⟩
        dsimp only
        have HB2 := Lib.hid (HB.out.keep hb2)
        have Hb2 := Lib.hid (Hb.out.trans (hb2.mono Hb.out.size))
        have d0 := HB2.out.c0
        have d1 := HB2.out.c1
        skip
        clear hb2
        repeat' (first | go_values | go_skip | go_guarded | go_step | go_upon)
        go_roundw
        case rel => exact ⟨k + 1, by go_num, Hlt.out, Lib.hid fun i hi => by
          rcases Nat.lt_or_ge i k with h1 | h1
          · exact Ha.out i h1
          · obtain rfl : i = k := by omega
            exact Hch.out.symm.trans Hok.out, HB2, Hb2⟩
        case measure => simp [intOf]; omega
      have hm1 : ((m : Int) == 0) = true := by rw [beq_iff_eq]; omega
      by_cases hk0 : k = 0
      · have Hok : Hid (ch = true) := Lib.hid (by rw [Hck.out, HAd.out, decide_eq_true hk0]; simp)
        have hk1 : (k : Int) ≤ 0 := by omega
        have hlt1 : (k : Int) < n := by omega
        have Hlt := Lib.hid hlt
        clear hk0 hm0 hlt cp2
        have c0 := HB.out.c0
        have c1 := HB.out.c1
        have c2 := HB.out.c2
        repeat' (first | go_values | go_skip | go_guarded | go_step | go_upon)
        refine Calls.mono (Hpk.out _ HHr.out) ?_
        rintro _ w2 ⟨rfl, hb2⟩
        dsimp only
        have HB2 := Lib.hid (HB.out.keep hb2)
        have Hb2 := Lib.hid (Hb.out.trans (hb2.mono Hb.out.size))
        have d0 := HB2.out.c0
        have d1 := HB2.out.c1
        skip
        clear hb2
        repeat' (first | go_values | go_skip | go_guarded | go_step | go_upon)
        go_roundw
        case rel => exact ⟨k + 1, by go_num, Hlt.out, Lib.hid fun i hi => by
          rcases Nat.lt_or_ge i k with h1 | h1
          · exact Ha.out i h1
          · obtain rfl : i = k := by omega
            exact Hch.out.symm.trans Hok.out, HB2, Hb2⟩
        case measure => simp [intOf]; omega
      have hk1 : (0 : Int) < k := by omega
      have hkm : ((k : Int) - 1).toNat = k - 1 := by omega
      have hkn : k - 1 < n := by omega
      by_cases hxy : y < x
      · have Hok : Hid (ch = true) := Lib.hid (by rw [Hck.out, HAd.out, decide_eq_true hxy]; simp)
        have hx1 : (y : Int) < x := by omega
        have hlt1 : (k : Int) < n := by omega
        have Hlt := Lib.hid hlt
        clear hxy hm0 hk0 hlt
        have c0 := HB.out.c0
        have c1 := HB.out.c1
        have c2 := HB.out.c2
        repeat' (first | go_values | go_skip | go_guarded | go_step | go_upon)
        refine Calls.mono (Hpk.out _ HHr.out) ?_
        rintro _ w2 ⟨rfl, hb2⟩
        dsimp only
        have HB2 := Lib.hid (HB.out.keep hb2)
        have Hb2 := Lib.hid (Hb.out.trans (hb2.mono Hb.out.size))
        have d0 := HB2.out.c0
        have d1 := HB2.out.c1
        have cy := cp2 w2 hb2 (by omega)
        clear cp2
        clear hb2
        repeat' (first | go_values | go_skip | go_guarded | go_step | go_upon)
        go_roundw
        case rel => exact ⟨k + 1, by go_num, Hlt.out, Lib.hid fun i hi => by
          rcases Nat.lt_or_ge i k with h1 | h1
          · exact Ha.out i h1
          · obtain rfl : i = k := by omega
            exact Hch.out.symm.trans Hok.out, HB2, Hb2⟩
        case measure => simp [intOf]; omega
      · have HF := Lib.hid (Hbk.out (by rw [Hck.out, HAd.out, decide_eq_false hxy, decide_eq_false hk0, decide_eq_false (by omega : ¬ m ≠ 0)]; rfl))
        have hx1 : (x : Int) ≤ y := by omega
        have hlt1 : (k : Int) < n := by omega
        clear hxy hm0 hk0 hlt
        have c0 := HB.out.c0
        have c1 := HB.out.c1
        have c2 := HB.out.c2
        repeat' (first | go_values | go_skip | go_guarded | go_step | go_upon)
        refine Calls.mono (Hpk.out _ HHr.out) ?_
        rintro _ w2 ⟨rfl, hb2⟩
        dsimp only
        have HB2 := Lib.hid (HB.out.keep hb2)
        have Hb2 := Lib.hid (Hb.out.trans (hb2.mono Hb.out.size))
        have d0 := HB2.out.c0
        have d1 := HB2.out.c1
        have cy := cp2 w2 hb2 (by omega)
        clear cp2
        clear hb2
        repeat' (first | go_values | go_skip | go_guarded | go_step | go_upon)
        go_ret
        exact ⟨ret_b HF.out.symm, Hb2.out⟩
    · obtain rfl : k = n := by omega
      have HF := Lib.hid (Hgood.out Ha.out)
      repeat' (first | go_values | go_skip | go_guarded | go_step | go_upon)
      go_ret
      exact ⟨ret_b HF.out.symm, Hb.out⟩
end Go.Proofs.Ytbomloodllddaaa
