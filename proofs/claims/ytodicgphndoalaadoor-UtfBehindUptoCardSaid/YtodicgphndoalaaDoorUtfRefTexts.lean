/- Walks: a text made well-formed, its characters counted, whether it is well-formed: by the reference. Condition: the text is of at most 10^12 bytes. -/
import Derived.Test.YtodicgphndoalaaDoorUtfRefNext
import Derived.Test.YtodicgphndoalaaDoorSlices
namespace Go.Proofs.YtodicgphndoalaaDoor
open Go.RowKit
theorem info_u8 : (Tryd.prog.info? 5).map (fun i => (i.zero, i.size, i.bytes)) = some (some (.int .u8 0), 1, 1) := by kernel_rfl
theorem toU8s_bytes (x : List UInt8) : toU8s (x.map fun b => (b.toNat : Int)) = x := by
  induction x with
  | nil => rfl
  | cons b x ih => rw [List.map_cons, toU8s_cons, ih]; simp [u8_self]
theorem take_in {t : List UInt8} {m : Nat} (h : m < t.length) : takeL t m = (((dec (t.drop m)).1 : Int), ((dec (t.drop m)).2 : Int), (nextL (t.drop m)).2.2) := by
  unfold takeL; rw [if_pos (by omega)]; rfl
theorem drop_ne {t : List UInt8} {m : Nat} (h : m < t.length) : t.drop m ≠ [] := by
  intro e; have := congrArg List.length e; rw [List.length_drop] at this; simp at this; omega
theorem drop_step {t : List UInt8} {m : Nat} (h : m < t.length) : (dec (t.drop m)).2 ≤ t.length - m ∧ 1 ≤ (dec (t.drop m)).2 ∧ (dec (t.drop m)).2 ≤ 4 ∧ (t.drop m).drop (dec (t.drop m)).2 = t.drop (m + (dec (t.drop m)).2) ∧ isC (dec (t.drop m)).1 = true := by
  have := dec_pos (drop_ne h)
  refine ⟨by have := this.2.1; rw [List.length_drop] at this; exact this, this.1, this.2.2.1, by rw [List.drop_drop], this.2.2.2⟩
theorem enc_isI {c : Nat} (h : isC c = true) : encI c = enc c ∧ isI c = true := by
  have : isI (c : Int) = true := by unfold isI; simp [h]
  exact ⟨by unfold encI; rw [if_pos this]; rfl, this⟩
set_option maxRecDepth 100000 in
set_option maxHeartbeats 1000000 in
theorem ref_Fix (s : ByteArray) (hs : s.size ≤ 1000000000000) (w : World) :
    Calls Tryd.prog 15 #[.string s] w fun e w' => e = .returned (.string ⟨(fix s.data.toList).toArray⟩) ∧ Below w.heap.size w w' := by
  have hl := ba_len s
  have hN := fun (m : Nat) => ref_Next s (by omega) m
  obtain ⟨t, ht⟩ : ∃ t, t = s.data.toList := ⟨_, rfl⟩
  rw [← ht] at hl hN ⊢
  clear ht
  have Hl := Lib.hid hl; have HN := Lib.hid hN
  clear hl hN
  go_enter Tryd.func15, Tryd.ntmps15
  repeat' (first | go_values | go_skip | go_guarded | go_step | go_upon)
  go_loopw [3, 4] (fun s3 s4 wr => ∃ (m : Nat) (l : List Int), s4 = .int .i64 m ∧ m ≤ s.size ∧ OwnI w.heap.size 5 .u8 wr s3 l ∧ l.length ≤ 4 * m ∧ Hid (toU8s l ++ fix (t.drop m) = fix t) ∧ Below w.heap.size w wr) (fun _ s4 _ => (s.size - intOf s4).toNat)
  case atStart => exact ⟨0, [], rfl, Nat.zero_le _, OwnI.lit w [] (Nat.le_refl _) 0 rfl (by decide), Nat.le_refl _, Lib.hid (by simp [toU8s]), (Below.refl _ _).alloc (Nat.le_refl _) _⟩
  case round =>
    obtain ⟨m, l, rfl, hm, hown, hll, Hf, hbel⟩ := hrel
    have hsz := hbel.size
    by_cases hms : m < s.size
    · have hmt : m < t.length := by rw [Hl.out]; exact hms
      have hst := drop_step hmt
      have hmI : I64 (m : Int) := i64_small (by omega)
      have hnx := HN.out m hmI
      rw [take_in hmt] at hnx
      have hfs := fix_step (drop_ne hmt)
      rw [hst.2.2.2.1] at hfs
      rw [Hl.out] at hst
      generalize (dec (t.drop m)).1 = c at hnx hst hfs
      generalize (dec (t.drop m)).2 = n at hnx hst hfs
      generalize (nextL (t.drop m)).2.2 = ok at hnx
      have Hnx := Lib.hid hnx; have Hfs := Lib.hid hfs
      have hci := isC_iff.1 hst.2.2.2.2
      have hcI : I64 (c : Int) := i64_small (by omega)
      have hp := ref_Put c hcI
      have hel := enc_le c
      rw [(enc_isI hst.2.2.2.2).1] at hp
      have Hp := Lib.hid hp
      have hn1 := hst.1; have hn2 := hst.2.1; have hn3 := hst.2.2.1
      clear hnx hfs hp hci hst
      repeat' (first | go_values | go_skip | go_guarded | go_step | go_upon)
      refine Calls.mono (Hnx.out _) ?_
      rintro _ w1 ⟨rfl, hb1⟩
      dsimp only
      repeat' (first | go_values | go_skip | go_guarded | go_step | go_upon)
      refine Calls.mono (Hp.out _) ?_
      rintro _ w2 ⟨rfl, hb2⟩
      dsimp only
      have hb12 := hb1.trans (hb2.mono hb1.size)
      have hown1 := OwnI.keep hown hb12 (Nat.le_refl _)
      have hB1 : w.heap.size ≤ w2.heap.size := by have := hb1.size; have := hb2.size; omega
      repeat' (first | (at_builtin; go_loud (refine app_str w.heap.size _ Tryd.underlying36 Tryd.underlying9 info_u8 rfl _ _ rfl rfl rfl hown1 hB1 (by omega) ?_); intro v3 w3 hown3 hb3 _) | go_values | go_skip | go_guarded | go_step | go_upon)
      go_roundw
      case rel =>
        refine ⟨m + n, _, by go_num, by omega, hown3, ?_, Lib.hid ?_, hbel.trans ((hb12.mono hsz).trans hb3)⟩
        · simp; omega
        · rw [toU8s_append, toU8s_bytes, ← Hf.out, Hfs.out, List.append_assoc]
      case measure => simp [intOf]; omega
    · obtain rfl : m = s.size := by omega
      repeat' (first | (with_reducible refine wp_conv_own Tryd.underlying36 Tryd.underlying5 Tryd.underlying9 rfl _ rfl rfl hown ?_) | go_values | go_skip | go_guarded | go_step | go_upon)
      go_ret
      refine ⟨ret_s ?_, hbel⟩
      rw [← Hf.out, List.drop_of_length_le (by rw [Hl.out]; exact Nat.le_refl _), fix_nil, List.append_nil]
set_option maxRecDepth 100000 in
set_option maxHeartbeats 1000000 in
theorem ref_Count (s : ByteArray) (hs : s.size ≤ 1000000000000) (w : World) :
    Calls Tryd.prog 13 #[.string s] w fun e w' => e = .returned (.int .i64 (count s.data.toList)) ∧ Below w.heap.size w w' := by
  have hl := ba_len s
  have hN := fun (m : Nat) => ref_Next s (by omega) m
  obtain ⟨t, ht⟩ : ∃ t, t = s.data.toList := ⟨_, rfl⟩
  rw [← ht] at hl hN ⊢
  clear ht
  have Hl := Lib.hid hl; have HN := Lib.hid hN
  clear hl hN
  obtain ⟨r, hr⟩ : ∃ r, r = count t := ⟨_, rfl⟩
  rw [← hr]
  have Hr := Lib.hid hr; clear hr
  go_enter Tryd.func13, Tryd.ntmps13
  repeat' (first | go_values | go_skip | go_guarded | go_step | go_upon)
  go_loopw [3, 4] (fun s3 s4 wr => ∃ (m k : Nat), s4 = .int .i64 m ∧ s3 = .int .i64 k ∧ m ≤ s.size ∧ k ≤ m ∧ Hid (k + count (t.drop m) = r) ∧ Below w.heap.size w wr) (fun _ s4 _ => (s.size - intOf s4).toNat)
  case atStart => exact ⟨0, 0, rfl, rfl, Nat.zero_le _, Nat.le_refl _, Lib.hid (by rw [Hr.out]; simp), Below.refl _ _⟩
  case round =>
    obtain ⟨m, k, rfl, rfl, hm, hk, Hf, hbel⟩ := hrel
    have hsz := hbel.size
    by_cases hms : m < s.size
    · have hmt : m < t.length := by rw [Hl.out]; exact hms
      have hst := drop_step hmt
      have hmI : I64 (m : Int) := i64_small (by omega)
      have hnx := HN.out m hmI
      rw [take_in hmt] at hnx
      have hfs := count_step (drop_ne hmt)
      rw [hst.2.2.2.1] at hfs
      rw [Hl.out] at hst
      generalize (dec (t.drop m)).1 = c at hnx hst hfs
      generalize (dec (t.drop m)).2 = n at hnx hst hfs
      generalize (nextL (t.drop m)).2.2 = ok at hnx
      have Hnx := Lib.hid hnx; have Hfs := Lib.hid hfs
      have hn1 := hst.1; have hn2 := hst.2.1; have hn3 := hst.2.2.1
      clear hnx hfs hst
      repeat' (first | go_values | go_skip | go_guarded | go_step | go_upon)
      refine Calls.mono (Hnx.out _) ?_
      rintro _ w1 ⟨rfl, hb1⟩
      dsimp only
      repeat' (first | go_values | go_skip | go_guarded | go_step | go_upon)
      go_roundw
      case rel =>
        exact ⟨m + n, k + 1, by go_num, by go_num, by omega, by omega, Lib.hid (by rw [← Hf.out, Hfs.out]; omega), hbel.trans (hb1.mono hsz)⟩
      case measure => simp [intOf]; omega
    · obtain rfl : m = s.size := by omega
      have hr : (r : Int) = k := by
        have := Hf.out
        rw [List.drop_of_length_le (by rw [Hl.out]; exact Nat.le_refl _)] at this
        have : count [] = 0 := rfl
        omega
      repeat' (first | go_values | go_skip | go_guarded | go_step | go_upon)
      go_ret
      exact ⟨by rw [hr]; rfl, hbel⟩
set_option maxRecDepth 100000 in
set_option maxHeartbeats 1000000 in
theorem ref_Valid (s : ByteArray) (hs : s.size ≤ 1000000000000) (w : World) :
    Calls Tryd.prog 11 #[.string s] w fun e w' => e = .returned (.bool (valid s.data.toList)) ∧ Below w.heap.size w w' := by
  have hl := ba_len s
  have hN := fun (m : Nat) => ref_Next s (by omega) m
  obtain ⟨t, ht⟩ : ∃ t, t = s.data.toList := ⟨_, rfl⟩
  rw [← ht] at hl hN ⊢
  clear ht
  have Hl := Lib.hid hl; have HN := Lib.hid hN
  clear hl hN
  obtain ⟨r, hr⟩ : ∃ r, r = valid t := ⟨_, rfl⟩
  rw [← hr]
  have Hr := Lib.hid hr; clear hr
  go_enter Tryd.func11, Tryd.ntmps11
  repeat' (first | go_values | go_skip | go_guarded | go_step | go_upon)
  go_loopw [3] (fun s3 wr => ∃ (m : Nat), s3 = .int .i64 m ∧ m ≤ s.size ∧ Hid (valid (t.drop m) = r) ∧ Below w.heap.size w wr) (fun s3 _ => (s.size - intOf s3).toNat)
  case atStart => exact ⟨0, rfl, Nat.zero_le _, Lib.hid (by rw [Hr.out]; simp), Below.refl _ _⟩
  case round =>
    obtain ⟨m, rfl, hm, Hf, hbel⟩ := hrel
    have hsz := hbel.size
    by_cases hms : m < s.size
    · have hmt : m < t.length := by rw [Hl.out]; exact hms
      have hst := drop_step hmt
      have hmI : I64 (m : Int) := i64_small (by omega)
      have hnx := HN.out m hmI
      rw [take_in hmt] at hnx
      have hfs := valid_step (drop_ne hmt)
      rw [hst.2.2.2.1] at hfs
      rw [Hl.out] at hst
      generalize (dec (t.drop m)).1 = c at hnx hst hfs
      generalize (dec (t.drop m)).2 = n at hnx hst hfs
      generalize (nextL (t.drop m)).2.2 = ok at hnx hfs
      have hn1 := hst.1; have hn2 := hst.2.1; have hn3 := hst.2.2.1
      clear hst
      cases ok with
      | false =>
        have Hnx := Lib.hid hnx; have Hfs := Lib.hid hfs
        clear hnx hfs
        repeat' (first | go_values | go_skip | go_guarded | go_step | go_upon)
        refine Calls.mono (Hnx.out _) ?_
        rintro _ w1 ⟨rfl, hb1⟩
        dsimp only
        repeat' (first | go_values | go_skip | go_guarded | go_step | go_upon)
        go_ret
        exact ⟨by rw [← Hf.out, Hfs.out]; rfl, hbel.trans (hb1.mono hsz)⟩
      | true =>
        have Hnx := Lib.hid hnx; have Hfs := Lib.hid hfs
        clear hnx hfs
        repeat' (first | go_values | go_skip | go_guarded | go_step | go_upon)
        refine Calls.mono (Hnx.out _) ?_
        rintro _ w1 ⟨rfl, hb1⟩
        dsimp only
        repeat' (first | go_values | go_skip | go_guarded | go_step | go_upon)
        go_roundw
        case rel =>
          exact ⟨m + n, by go_num, by omega, Lib.hid (by rw [← Hf.out, Hfs.out]; rfl), hbel.trans (hb1.mono hsz)⟩
        case measure => simp [intOf]; omega
    · obtain rfl : m = s.size := by omega
      repeat' (first | go_values | go_skip | go_guarded | go_step | go_upon)
      go_ret
      refine ⟨?_, hbel⟩
      rw [← Hf.out, List.drop_of_length_le (by rw [Hl.out]; exact Nat.le_refl _)]
      rfl
end Go.Proofs.YtodicgphndoalaaDoor
