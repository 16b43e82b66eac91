/- Walks: a text made well-formed (utf.Fix), its characters counted (utf.Count). Condition: the text is of at most 10^12 bytes. -/
import Derived.Test.YtodicgphndoalaaDoorBuilderRune
import Derived.Test.YtodicgphndoalaaDoorUtfRefTexts
import Derived.Lib.OthersKept
import Derived.WalkSmall
namespace Go.Proofs.YtodicgphndoalaaDoor
open Go.RowKit
theorem Bld.iter {w : World} {B g k : Nat} {l : List UInt8} {s : ByteArray} {pos : Nat} (h : Bld w B g l) (hk : w.heap[k]? = some (.stringIter s pos)) (pos' : Nat) : Bld (w.iterAt k s pos') B g l := by
  have hh : ∀ j o, w.heap[j]? = some o → (∀ (s : ByteArray) (p : Nat), o ≠ Obj.stringIter s p) → (w.iterAt k s pos').heap[j]? = some o := fun j o hj hn => by
    rw [Lib.iterAt_other w k j s pos' (fun e => by subst e; rw [hk] at hj; exact hn _ _ (Option.some.inj hj).symm)]; exact hj
  have one : ∀ p, Lib.BuilderAt 38 5 B g p (Lib.byteCells l) w → Lib.BuilderAt 38 5 B g p (Lib.byteCells l) (w.iterAt k s pos') := by
    rintro p ⟨h1, v, h2, h3, h4⟩
    refine ⟨h1, v, hh _ _ h2 (fun _ _ => by simp), ?_, h4⟩
    refine ⟨h3.1, ?_⟩
    rcases h3.2 with h3 | ⟨k', cap, cur, rfl, hk', hh', rest⟩
    · exact .inl h3
    · exact .inr ⟨k', cap, cur, rfl, hk', hh _ _ hh' (fun _ _ => by simp), rest⟩
  rcases h with h | h
  · exact .inl (one _ h)
  · exact .inr (one _ h)
theorem iter_apart {b : Nat} {w w' : World} (h : Apart b w w') {k : Nat} {s : ByteArray} {pos : Nat} (hk : w.heap[k]? = some (.stringIter s pos)) (hb : k ≠ b) : w'.heap[k]? = some (.stringIter s pos) := by
  rw [h.2 k (Array.getElem?_eq_some_iff.1 hk).1 hb (fun cs' fz' e => by rw [hk] at e; simp at e)]
  exact hk
set_option maxRecDepth 100000 in
set_option maxHeartbeats 1000000 in
theorem utf_Fix (s : ByteArray) (hs : s.size ≤ 1000000000000) (w : World) :
    Calls Tryd.prog 14 #[.string s] w fun e w' => e = .returned (.string ⟨(fix s.data.toList).toArray⟩) ∧ Below w.heap.size w w' := by
  have hl := ba_len s
  have hD : ∀ m, Utf8.decode s m = dec (s.data.toList.drop m) := fun m => decode_list s.data.toList m
  obtain ⟨t, ht⟩ : ∃ t, t = s.data.toList := ⟨_, rfl⟩
  rw [← ht] at hl hD ⊢
  clear ht
  have Hl := Lib.hid hl; have HD := Lib.hid hD
  clear hl hD
  obtain ⟨wb, hwb⟩ : ∃ wb, wb = w.alloc (.cells #[.pointer none, .slice none 0 0] 38) := ⟨_, rfl⟩
  have Hbl : Hid (Bld wb w.heap.size w.heap.size []) := Lib.hid (by rw [hwb]; exact Bld.fresh w)
  have Hbb : Hid (Below w.heap.size w wb) := Lib.hid (by rw [hwb]; exact (Below.refl _ _).alloc (Nat.le_refl _) _)
  have Hsb : Hid (wb.heap.size = w.heap.size + 1) := Lib.hid (by rw [hwb]; simp)
  have Hwb := Lib.hid hwb
  clear hwb
  go_enter Tryd.func14, Tryd.ntmps14
  repeat' (first | go_values | go_skip | go_guarded | go_step | go_upon)
  rw [← Hwb.out]
  have hit : (wb.iter s 0).heap[w.heap.size + 1]? = some (Obj.stringIter s 0) := by rw [← Hsb.out]; exact World.iter_heap _ _ _
  have hib : Below wb.heap.size wb (wb.iter s 0) := (Below.refl _ _).alloc (Nat.le_refl _) _
  have Hit := Lib.hid hit; have Hib := Lib.hid hib
  clear hit hib
  go_loopw [5] (fun _ wr => ∃ (pos : Nat) (l : List UInt8), wr.heap[w.heap.size + 1]? = some (Obj.stringIter s pos) ∧ pos ≤ s.size ∧ Hid (Bld wr w.heap.size w.heap.size l) ∧ l.length ≤ 4 * pos ∧ Hid (l ++ fix (t.drop pos) = fix t) ∧ Hid (Below w.heap.size w wr)) (fun _ wr => s.size - wr.iterPos (w.heap.size + 1))
  case atStart =>
    exact ⟨0, [], Hit.out, Nat.zero_le _, Lib.hid (Hbl.out.keep Hib.out (Nat.le_refl _)), Nat.le_refl _, Lib.hid (by simp), Lib.hid (Hbb.out.trans (Hib.out.mono (by have := Hsb.out; omega)))⟩
  case round =>
    obtain ⟨pos, l, hk, hp, Hb, hll, Hf, Hbel⟩ := hrel
    by_cases hps : pos < s.size
    · have hpt : pos < t.length := by rw [Hl.out]; exact hps
      have hst := drop_step hpt
      have hd := HD.out pos
      have hfs := fix_step (drop_ne hpt)
      rw [hst.2.2.2.1] at hfs
      rw [Hl.out] at hst
      have hnx : ∀ ty, (Instr.next (.pointer (some ⟨w.heap.size + 1, 0, none⟩)) true ty).run Tryd.prog wr = _ := fun ty => Lib.run_next_any_at wr (w.heap.size + 1) s pos ty hk hps
      rw [hd] at hnx
      generalize (dec (t.drop pos)).1 = c at hnx hst hfs
      generalize (dec (t.drop pos)).2 = n at hnx hst hfs
      have Hfs := Lib.hid hfs
      have hci := hst.2.2.2.2
      have hn1 := hst.1; have hn2 := hst.2.1; have hn3 := hst.2.2.1
      have hel := enc_le c
      obtain ⟨wi, hwi⟩ : ∃ wi, wi = wr.iterAt (w.heap.size + 1) s (pos + n) := ⟨_, rfl⟩
      have hwk : wi.heap[w.heap.size + 1]? = some (Obj.stringIter s (pos + n)) := by rw [hwi]; exact Lib.iterAt_heap _ _ _ _ _ hk
      have hwB : Bld wi w.heap.size w.heap.size l := by rw [hwi]; exact Hb.out.iter hk _
      have hwl : Below w.heap.size w wi := by rw [hwi]; exact Lib.below_iterAt Hbel.out (by omega) _ _
      rw [← hwi] at hnx
      have HW := Lib.hid (bld_WriteRune w.heap.size w.heap.size l c hci wi hwB (by omega) hwl.size)
      have Hwk := Lib.hid hwk; have Hwl := Lib.hid hwl
      have hp0 : wr.iterPos (w.heap.size + 1) = pos := iterPos_of hk
      clear hwk hwB hwl hwi hst hd hfs hci
      repeat' (first | go_values | go_skip | go_guarded | go_step | go_upon)
      refine Calls.mono (HW.out) ?_
      rintro _ w1 ⟨⟨v1, rfl⟩, hB1, hb1, hap1⟩
      dsimp only
      have hk1 := iter_apart hap1 Hwk.out (by omega)
      have HB1 := Lib.hid hB1; have Hb1 := Lib.hid hb1
      clear hap1 hB1 hb1
      repeat' (first | go_values | go_skip | go_guarded | go_step | go_upon)
      go_roundw
      case rel =>
        refine ⟨pos + n, l ++ enc c, hk1, by omega, HB1, by rw [List.length_append]; omega, Lib.hid ?_, Lib.hid (Hwl.out.trans Hb1.out)⟩
        rw [← Hf.out, Hfs.out, List.append_assoc]
      case measure =>
        rw [iterPos_of hk1, hp0]; omega
    · obtain rfl : pos = s.size := by omega
      have hnx : ∀ ty, (Instr.next (.pointer (some ⟨w.heap.size + 1, 0, none⟩)) true ty).run Tryd.prog wr = _ := fun ty => Lib.run_next_end_at wr (w.heap.size + 1) s s.size ty hk (Nat.lt_irrefl _)
      have HS := Lib.hid (bld_String w.heap.size w.heap.size l wr Hb.out Hbel.out.size)
      repeat' (first | go_values | go_skip | go_guarded | go_step | go_upon)
      refine Calls.mono (HS.out) ?_
      rintro _ w1 ⟨rfl, hb1⟩
      dsimp only
      repeat' (first | go_values | go_skip | go_guarded | go_step | go_upon)
      go_ret
      refine ⟨ret_s ?_, Hbel.out.trans hb1⟩
      rw [← Hf.out, List.drop_of_length_le (by rw [Hl.out]; exact Nat.le_refl _), fix_nil, List.append_nil]
theorem count_run (s : ByteArray) : ∀ (b pos : Nat), s.size ≤ pos + b → Lib.runeCountFrom s b pos = count (s.data.toList.drop pos)
  | 0, pos, h => by
    rw [List.drop_of_length_le (by rw [ba_len]; omega)]; rfl
  | b + 1, pos, h => by
    rw [Lib.runeCountFrom]
    split
    · rename_i hp
      have hpt : pos < s.data.toList.length := by rw [ba_len]; exact hp
      have hd : Utf8.decode s pos = dec (s.data.toList.drop pos) := decode_list s.data.toList pos
      have hst := drop_step hpt
      rw [hd, count_run s b _ (by omega), count_step (drop_ne hpt), hst.2.2.2.1]
    · rw [List.drop_of_length_le (by rw [ba_len]; omega)]; rfl
theorem runeCount_count (s : ByteArray) : Lib.runeCount s = count s.data.toList := by
  rw [Lib.runeCount, count_run s _ _ (by omega), List.drop_zero]
set_option maxRecDepth 100000 in
theorem utf_Count (s : ByteArray) (hs : s.size ≤ 1000000000000) (w : World) :
    Calls Tryd.prog 12 #[.string s] w fun e w' => e = .returned (.int .i64 (count s.data.toList)) ∧ Below w.heap.size w w' := by
  have h := Tryd.utf8_RuneCountInString s w (by omega)
  rw [runeCount_count] at h
  have H := Lib.hid h; clear h
  go_enter Tryd.func12, Tryd.ntmps12
  repeat' (first | go_values | go_skip | go_guarded | go_step | go_upon)
  refine Calls.mono (H.out) ?_
  rintro _ w1 ⟨rfl, pos, rfl⟩
  dsimp only
  repeat' (first | go_values | go_skip | go_guarded | go_step | go_upon)
  go_ret
  exact ⟨rfl, (Below.refl _ _).alloc (Nat.le_refl _) _⟩
end Go.Proofs.YtodicgphndoalaaDoor
