/- Walks: what some bytes write (more), which character begins (Next), by the reference. Condition: the text is of at most 10^15 bytes. -/
import Derived.Test.YtodicgphndoalaaDoorUtfRef
namespace Go.Proofs.YtodicgphndoalaaDoor
open Go.RowKit
theorem at8_drop (t : List UInt8) (m k : Nat) : at8 (t.drop m) k = at8 t (m + k) := by
  unfold at8; rw [List.getD_eq_getElem?_getD, List.getD_eq_getElem?_getD, List.getElem?_drop]
theorem more_out {l : List UInt8} {n : Nat} {c : Int} (h : n ≤ l.length) (hc : mc l n (n - 1) = some c) : moreL l n = c := by
  unfold moreL; rw [if_neg (by omega), hc]; rfl
theorem more_bad {l : List UInt8} {n i : Nat} (h : n ≤ l.length) (hi : i + 1 < n) (hb : ¬ (128 ≤ at8 l (i + 1) ∧ at8 l (i + 1) ≤ 191)) : moreL l n = -1 := by
  unfold moreL
  have := mc_none (mc_stop (n := n) hb) (n - 1 - (i + 1))
  rw [if_neg (by omega), show n - 1 = i + 1 + (n - 1 - (i + 1)) from by omega, this]; rfl
set_option maxRecDepth 100000 in
set_option maxHeartbeats 1000000 in
theorem ref_more (s : ByteArray) (hs : s.size ≤ 1000000000000000) (m : Nat) (hm : m < s.size) (n : Nat) (hn : 1 ≤ n) (hn4 : n ≤ 4) (w : World) :
    Calls Tryd.prog 20 #[.string s, .int .i64 m, .int .i64 n] w fun e w' => e = .returned (.int .i64 (moreL (s.data.toList.drop m) n)) ∧ w = w' := by
  have hl := ba_len s
  by_cases h1 : s.size < m + n
  · have : moreL (s.data.toList.drop m) n = -1 := by unfold moreL; rw [if_pos (by rw [List.length_drop]; omega)]
    rw [this]
    go_enter Tryd.func20, Tryd.ntmps20
    repeat' (first | go_values | go_skip | go_guarded | go_step | go_upon)
    go_ret
    exact ⟨rfl, rfl⟩
  have Hl : Hid (n ≤ (s.data.toList.drop m).length) := Lib.hid (by rw [List.length_drop]; omega)
  clear hl
  obtain ⟨t, ht⟩ : ∃ t, t = s.data.toList := ⟨_, rfl⟩
  have hbt : ∀ i (h : i < s.size), s[i].toNat = at8 t i := fun i h => by rw [ba_at, ht]
  rw [← ht] at Hl ⊢
  clear ht
  obtain ⟨r, hr⟩ : ∃ r, r = moreL (t.drop m) n := ⟨_, rfl⟩
  rw [← hr]
  have Hr := Lib.hid hr; clear hr
  have Hz : Hid (mc (t.drop m) n 0 = some ((at8 t m : Int) - offN n)) := Lib.hid (by rw [mc_zero, at8_drop]; rfl)
  obtain ⟨b, hb⟩ : ∃ b, at8 t m = b := ⟨_, rfl⟩
  have hb256 : b < 256 := by rw [← hb]; exact at8_lt _ _
  rw [hb] at Hz
  have Hb := Lib.hid hb
  have Hbn : ∀ i (c : Int), mc (t.drop m) n i = some c → i + 1 ≤ n → -67108864 ≤ c ∧ c < 67108864 := fun i c h hi => by
    have := mc_bound h (by omega)
    rcases (by omega : i = 0 ∨ i = 1 ∨ i = 2 ∨ i = 3) with rfl | rfl | rfl | rfl <;> omega
  have HB := Lib.hid Hbn; clear Hbn
  have hnn := (by omega : n = 1 ∨ n = 2 ∨ n = 3 ∨ n = 4)
  have ho : (((n : Int) == 2) = false ∧ ((n : Int) == 3) = false ∧ ((n : Int) == 4) = false ∧ offN n = 0)
    ∨ (((n : Int) == 2) = true ∧ ((n : Int) == 3) = false ∧ ((n : Int) == 4) = false ∧ offN n = 192)
    ∨ (((n : Int) == 2) = false ∧ ((n : Int) == 3) = true ∧ ((n : Int) == 4) = false ∧ offN n = 224)
    ∨ (((n : Int) == 2) = false ∧ ((n : Int) == 3) = false ∧ ((n : Int) == 4) = true ∧ offN n = 240) := by
    rcases hnn with rfl | rfl | rfl | rfl <;> decide
  clear hnn
  rcases ho with ⟨e2, e3, e4, ho⟩ | ⟨e2, e3, e4, ho⟩ | ⟨e2, e3, e4, ho⟩ | ⟨e2, e3, e4, ho⟩
  all_goals
    rw [ho] at Hz
    clear ho
    go_enter Tryd.func20, Tryd.ntmps20
    repeat' (first | go_values | go_skip | go_guarded | go_step | go_upon)
    go_loop [8, 9] (fun s8 s9 => ∃ (i : Nat) (c : Int), s9 = .int .i64 ((i : Int) + 1) ∧ s8 = .int .i64 c ∧ i + 1 ≤ n ∧ Hid (mc (t.drop m) n i = some c)) (fun _ s9 => (n - intOf s9).toNat)
    case atStart => exact ⟨0, _, by simp, rfl, by omega, Lib.hid (by rw [Hz.out]; try simp)⟩
    case round =>
      obtain ⟨i, c, rfl, rfl, hi, Hc⟩ := hrel
      by_cases he : i + 1 = n
      · have hin : ((i : Int) + 1 < n) = False := by simp; omega
        have He := Lib.hid he; clear he
        repeat' (first | go_values | go_skip | go_guarded | go_step | go_upon)
        go_ret
        refine ⟨?_, rfl⟩
        rw [Hr.out, more_out (c := c) Hl.out (by have := He.out; rw [show n - 1 = i from by omega]; exact Hc.out)]; rfl
      · have hin : ((i : Int) + 1 < n) = True := by simp; omega
        have hc := HB.out _ _ Hc.out hi
        obtain ⟨b1, hb1⟩ : ∃ b1, at8 t (m + (i + 1)) = b1 := ⟨_, rfl⟩
        have hb1' : at8 t (m + i + 1) = b1 := hb1
        have hbu : b1 < 256 := by rw [← hb1]; exact at8_lt _ _
        have Hd : Hid (at8 (t.drop m) (i + 1) = b1) := Lib.hid (by rw [at8_drop]; exact hb1)
        by_cases hlo : b1 < 128
        · repeat' (first | go_values | go_skip | go_guarded | go_step | go_upon)
          all_goals go_ret
          all_goals exact ⟨by rw [Hr.out, more_bad Hl.out (i := i) (by omega) (by rw [Hd.out]; omega)]; rfl, rfl⟩
        by_cases hhi : 191 < b1
        · repeat' (first | go_values | go_skip | go_guarded | go_step | go_upon)
          all_goals go_ret
          all_goals exact ⟨by rw [Hr.out, more_bad Hl.out (i := i) (by omega) (by rw [Hd.out]; omega)]; rfl, rfl⟩
        repeat' (first | go_values | go_skip | go_guarded | go_step | go_upon)
        go_round
        case rel => exact ⟨i + 1, _, by go_num, rfl, by omega, Lib.hid (by rw [mc_succ Hc.out (by rw [Hd.out]; omega), Hd.out])⟩
        case measure => simp [intOf]; omega
/-- what is taken at a place -/
def takeL (l : List UInt8) (a : Int) : Int × Int × Bool :=
  if 0 ≤ a ∧ a < l.length then (((nextL (l.drop a.toNat)).1 : Int), ((nextL (l.drop a.toNat)).2.1 : Int), (nextL (l.drop a.toNat)).2.2) else (0, 0, false)
theorem moreI64 {l : List UInt8} {n : Nat} (h1 : 1 ≤ n) (h2 : n ≤ 4) : -67108864 ≤ moreL l n ∧ moreL l n < 67108864 := by
  unfold moreL
  split
  · omega
  · cases h : mc l n (n - 1) with
    | none => exact ⟨by decide, by decide⟩
    | some c =>
      have := mc_bound h (by omega)
      rw [Option.getD_some]
      rcases (by omega : n = 1 ∨ n = 2 ∨ n = 3 ∨ n = 4) with rfl | rfl | rfl | rfl <;> simp at this <;> omega
set_option maxRecDepth 100000 in
set_option maxHeartbeats 1000000 in
theorem ref_Next (s : ByteArray) (hs : s.size ≤ 1000000000000000) (a : Int) (ha : I64 a) (w : World) :
    Calls Tryd.prog 9 #[.string s, .int .i64 a] w fun e w' => e = .returned (.tuple #[.int .i64 (takeL s.data.toList a).1, .int .i64 (takeL s.data.toList a).2.1, .bool (takeL s.data.toList a).2.2]) ∧ Below w.heap.size w w' := by
  have hl := ba_len s
  by_cases h0 : a < 0
  · have : takeL s.data.toList a = (0, 0, false) := by unfold takeL; rw [if_neg (by omega)]
    rw [this]
    go_enter Tryd.func9, Tryd.ntmps9
    repeat' (first | go_values | go_skip | go_guarded | go_step | go_upon)
    go_ret3
    exact ⟨rfl, Below.refl _ _⟩
  obtain ⟨m, rfl⟩ := Int.eq_ofNat_of_zero_le (by omega : 0 ≤ a)
  by_cases h1 : (s.size : Int) ≤ m
  · have : takeL s.data.toList m = (0, 0, false) := by unfold takeL; rw [if_neg (by omega)]
    rw [this]
    go_enter Tryd.func9, Tryd.ntmps9
    repeat' (first | go_values | go_skip | go_guarded | go_step | go_upon)
    go_ret3
    exact ⟨rfl, Below.refl _ _⟩
  have hm : m < s.size := by omega
  have Hm := ref_more s hs m hm
  have Hsl : Hid (∀ n, m + n ≤ s.size → ∀ wx, (Instr.slice 9 (.string s) (some (.int .i64 m)) (some (.int .i64 ((m : Int) + n))) none).run Tryd.prog wx = .ok (.string ⟨((s.data.toList.drop m).take n).toArray⟩) wx) := Lib.hid fun n hn wx => by
    have := slice_str (P := Tryd.prog) Tryd.underlying9 s m ((m : Int) + n) m (m + n) rfl (by omega) (by omega) hn wx
    rw [this, show m + n - m = n from by omega]
  have hne : s.data.toList.drop m ≠ [] := by
    intro h; have := congrArg List.length h; rw [List.length_drop] at this; simp at this; omega
  have hlen : (s.data.toList.drop m).length = s.size - m := by rw [List.length_drop]; omega
  have ht : takeL s.data.toList m = (((nextL (s.data.toList.drop m)).1 : Int), ((nextL (s.data.toList.drop m)).2.1 : Int), (nextL (s.data.toList.drop m)).2.2) := by
    unfold takeL; rw [if_pos (by omega)]; rfl
  rw [ht]
  obtain ⟨t, hT⟩ : ∃ t, t = s.data.toList.drop m := ⟨_, rfl⟩
  rw [← hT] at hne hlen ⊢
  rw [← hT] at Hm Hsl
  rw [← resN_next hne]
  obtain ⟨r, hr⟩ : ∃ r, r = resN t 4 := ⟨_, rfl⟩
  rw [← hr]
  have Hr := Lib.hid hr
  have HM := Lib.hid Hm
  have Hlen := Lib.hid hlen
  clear hr Hm hT ht hlen hl hne
  go_enter Tryd.func9, Tryd.ntmps9
  repeat' (first | go_values | go_skip | go_guarded | go_step | go_upon)
  go_loopw [7] (fun s7 wr => ∃ j : Nat, s7 = .int .i64 ((j : Int) + 1) ∧ j ≤ 4 ∧ Hid (r = resN t (4 - j)) ∧ Below w.heap.size w wr) (fun s7 _ => (5 - intOf s7).toNat)
  case atStart => exact ⟨0, by simp, by omega, Lib.hid Hr.out, Below.refl _ _⟩
  case round =>
    obtain ⟨j, rfl, hj, Hj, hb⟩ := hrel
    by_cases h4 : j = 4
    · subst h4
      repeat' (first | go_values | go_skip | go_guarded | go_step | go_upon)
      go_ret3
      refine ⟨?_, hb⟩
      rw [Hj.out]; rfl
    have hj' : ((j : Int) + 1 ≤ 4) = True := by simp; omega
    have hMI := moreI64 (l := t) (n := j + 1) (by omega) (by omega)
    have hmo := HM.out (j + 1) (by omega) (by omega)
    rw [show ((j + 1 : Nat) : Int) = (j : Int) + 1 from by omega] at hmo
    have Hok : Hid (okAt t (j + 1) = (isI (moreL t (j + 1)) && (encI (moreL t (j + 1)) == t.take (j + 1)))) := Lib.hid rfl
    have Hje : Hid (resN t (4 - j) = if okAt t (j + 1) = true then ((moreL t (j + 1)).toNat, j + 1, true) else resN t (4 - (j + 1))) := Lib.hid (by
      rw [show 4 - j = (3 - j) + 1 from by omega, resN, show 4 - (3 - j) = j + 1 from by omega, show 4 - (j + 1) = 3 - j from by omega])
    have Hfit : Hid (isI (moreL t (j + 1)) = true → j + 1 ≤ t.length ∧ 0 ≤ moreL t (j + 1)) := Lib.hid fun h => ⟨by
      rcases Nat.lt_or_ge t.length (j + 1) with hk | hk
      · have := (isI_iff.1 h).1; unfold moreL at this; rw [if_pos hk] at this; omega
      · exact hk, (isI_iff.1 h).1⟩
    obtain ⟨c, hc⟩ : ∃ c, moreL t (j + 1) = c := ⟨_, rfl⟩
    rw [hc] at hMI hmo Hok Hje Hfit
    clear hc
    have hcI : I64 c := i64_small (by omega)
    have HI := Lib.hid (ref_Is c hcI)
    have HP := Lib.hid (ref_Put c hcI)
    have Hmo := Lib.hid hmo
    clear hmo
    cases hi : isI c with
    | false =>
      rw [hi] at HI Hok
      clear hi
      repeat' (first | go_values | go_skip | go_guarded | go_step | go_upon)
      refine Calls.mono (Hmo.out _) ?_
      rintro _ w1 ⟨rfl, rfl⟩
      dsimp only
      repeat' (first | go_values | go_skip | go_guarded | go_step | go_upon)
      refine wp_region_wb (by kernel_rfl) (by kernel_rfl) wr (Below.refl _ _) ?_
      repeat (go_big_quiet_step ((first | (go_at_call 21; with_reducible exact calls_wb_same (HI.out _)) | (go_at_call 18; with_reducible exact calls_wb (HP.out _)))))
      refine wpQuiet_nil ?_
      rintro _ ⟨nq, rfl⟩
      have hnq := nq.2
      repeat' (first | go_values | go_skip | go_guarded | go_step | go_upon)
      go_roundw
      case rel => exact ⟨j + 1, by go_num, by omega, Lib.hid (by rw [Hj.out, Hje.out, if_neg (by rw [Hok.out]; simp)]), hb.trans (hnq.mono hb.size)⟩
      case measure => simp [intOf]; omega
    | true =>
      rw [hi] at HI Hok
      have hf := Hfit.out hi
      clear hi
      have hsl := Hsl.out (j + 1) (by have := Hlen.out; omega)
      rw [show ((j + 1 : Nat) : Int) = (j : Int) + 1 from by omega] at hsl
      obtain ⟨u, hu⟩ : ∃ u, t.take (j + 1) = u := ⟨_, rfl⟩
      rw [hu] at hsl Hok
      clear hu
      obtain ⟨v, hv⟩ : ∃ v, encI c = v := ⟨_, rfl⟩
      rw [hv] at HP Hok
      clear hv
      cases hb2 : (v == u) with
      | false =>
        rw [hb2] at Hok
        repeat' (first | go_values | go_skip | go_guarded | go_step | go_upon)
        refine Calls.mono (Hmo.out _) ?_
        rintro _ w1 ⟨rfl, rfl⟩
        dsimp only
        repeat' (first | go_values | go_skip | go_guarded | go_step | go_upon)
        refine wp_region_wb (by kernel_rfl) (by kernel_rfl) wr (Below.refl _ _) ?_
        repeat (go_big_quiet_step ((first | (go_at_call 21; with_reducible exact calls_wb_same (HI.out _)) | (go_at_call 18; with_reducible exact calls_wb (HP.out _)))))
        refine wpQuiet_nil ?_
        rintro _ ⟨nq, rfl⟩
        have hnq := nq.2
        repeat' (first | go_values | go_skip | go_guarded | go_step | go_upon)
        go_roundw
        case rel => exact ⟨j + 1, by go_num, by omega, Lib.hid (by rw [Hj.out, Hje.out, if_neg (by rw [Hok.out]; simp)]), hb.trans (hnq.mono hb.size)⟩
        case measure => simp [intOf]; omega
      | true =>
        rw [hb2] at Hok
        repeat' (first | go_values | go_skip | go_guarded | go_step | go_upon)
        refine Calls.mono (Hmo.out _) ?_
        rintro _ w1 ⟨rfl, rfl⟩
        dsimp only
        repeat' (first | go_values | go_skip | go_guarded | go_step | go_upon)
        refine wp_region_wb (by kernel_rfl) (by kernel_rfl) wr (Below.refl _ _) ?_
        repeat (go_big_quiet_step ((first | (go_at_call 21; with_reducible exact calls_wb_same (HI.out _)) | (go_at_call 18; with_reducible exact calls_wb (HP.out _)))))
        refine wpQuiet_nil ?_
        rintro _ ⟨nq, rfl⟩
        have hnq := nq.2
        repeat' (first | go_values | go_skip | go_guarded | go_step | go_upon)
        go_ret3
        refine ⟨?_, hb.trans (hnq.mono hb.size)⟩
        rw [Hj.out, Hje.out, if_pos (by rw [Hok.out]; decide)]
        have e : ((c.toNat : Nat) : Int) = c := Int.toNat_of_nonneg hf.2
        simp only [e]
        rfl
end Go.Proofs.YtodicgphndoalaaDoor
