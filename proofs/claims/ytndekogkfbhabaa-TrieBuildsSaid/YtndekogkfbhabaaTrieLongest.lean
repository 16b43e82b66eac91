/- Walks: the longest word at a place of a text (trie.Longest, the reference's). Conditions: the text is of at most 10^6 bytes; the rows are of ints. -/
import Derived.Test.YtndekogkfbhabaaTrieNumber
namespace Go.Proofs.Ytndekogkfbhabaa
open Go.RowKit
/-- the longest of the first j beginnings of a text that has a number, and where it ends -/
def lng (f1 f2 f3 : Nat → Int) (n m : Nat) (t : List UInt8) : Nat → Int × Int
  | 0 => (-1, -1)
  | j + 1 => if numF f1 f2 f3 n (t.take j) < 0 then lng f1 f2 f3 n m t j else (numF f1 f2 f3 n (t.take j), ((m + j : Nat) : Int))
theorem lng_dead {f1 f2 f3 : Nat → Int} {n m : Nat} {t : List UInt8} {j : Nat} (h : goF f1 f2 n (t.take j) = none) : ∀ i, lng f1 f2 f3 n m t (j + i) = lng f1 f2 f3 n m t j
  | 0 => rfl
  | i + 1 => by
    rw [← Nat.add_assoc, lng, numF_none (goF_take h (by omega)), if_pos (by decide)]
    exact lng_dead h i
theorem drop_next (s : ByteArray) (m j : Nat) (hk : m + j < s.size) : (s.data.toList.drop m).take (j + 1) = (s.data.toList.drop m).take j ++ [s[m + j]] := by
  have hl : j < (s.data.toList.drop m).length := by rw [List.length_drop]; simp; omega
  rw [List.take_succ_eq_append_getElem hl, List.getElem_drop]
  rfl
theorem ret_ii {a b a' b' : Int} (h1 : a = a') (h2 : b = b') : Ending.returned (.tuple #[.int .i64 a, .int .i64 b]) = Ending.returned (.tuple #[.int .i64 a', .int .i64 b']) := by rw [h1, h2]
section
variable {b1 o1 c1 b2 o2 c2 b3 o3 c3 n : Nat}
set_option maxRecDepth 100000 in
set_option maxHeartbeats 2000000 in
theorem trie_Longest (f1 f2 f3 : Nat → Int) (hn0 : 1 ≤ n) (hn : n ≤ 400000) (s : ByteArray) (hs : s.size ≤ 1000000) (m : Nat) (hm : m ≤ s.size) (w : World) (h1 : Row3 w b1 o1 n f1) (h2 : Row3 w b2 o2 n f2) (h3 : Row3 w b3 o3 n f3) :
    Calls Try.prog 12 #[(.agg #[.slice (some ⟨b1, o1, none⟩) n c1, .slice (some ⟨b2, o2, none⟩) n c2, .slice (some ⟨b3, o3, none⟩) n c3]), .string s, .int .i64 m] w fun e w' => e = .returned (.tuple #[.int .i64 (lng f1 f2 f3 n m (s.data.toList.drop m) (s.size - m + 1)).1, .int .i64 (lng f1 f2 f3 n m (s.data.toList.drop m) (s.size - m + 1)).2]) ∧ Below w.heap.size w w' := by
  have hmb : mayBe n n n = true := mayBe_eq.2 ⟨hn0, hn, rfl, rfl⟩
  have hri := trie_Right (some ⟨b1, o1, none⟩) n c1 (some ⟨b2, o2, none⟩) n c2 (some ⟨b3, o3, none⟩) n c3
  rw [hmb] at hri
  obtain ⟨r, hr⟩ : ∃ r, lng f1 f2 f3 n m (s.data.toList.drop m) (s.size - m + 1) = r := ⟨_, rfl⟩
  rw [hr]
  have Hr := Lib.hid hr; clear hr hmb
  have H1 := Lib.hid h1; clear h1
  have H2 := Lib.hid h2; clear h2
  have H3 := Lib.hid h3; clear h3
  have hm0 : ¬ (s.size : Int) < m := by omega
  go_enter Try.func12, Try.ntmps12
  repeat' (first | go_values | go_skip | go_guarded | go_step | go_upon)
  refine Calls.mono (hri _) ?_
  rintro _ w1 ⟨rfl, hb1⟩
  dsimp only
  clear hri
  have Hbox := Lib.hid ((BoxAt.alloc w (.slice (some ⟨b1, o1, none⟩) n c1) (.slice (some ⟨b2, o2, none⟩) n c2) (.slice (some ⟨b3, o3, none⟩) n c3) 27).keep hb1)
  have Hb : Hid (Below w.heap.size w w1) := Lib.hid (((Below.refl _ _).alloc (Nat.le_refl _) _).trans (hb1.mono (by simp)))
  have G1 := Lib.hid (H1.out.keep Hb.out)
  have G2 := Lib.hid (H2.out.keep Hb.out)
  have G3 := Lib.hid (H3.out.keep Hb.out)
  clear hb1 H1 H2 H3
  repeat' (first | go_values | go_skip | go_guarded | go_step | go_upon)
  go_loopw [2, 8, 9, 10] (fun s2 s8 s9 s10 w' => ∃ (j st : Nat) (be en : Int), s2 = .int .i64 ((m : Int) + j) ∧ m + j ≤ s.size ∧ s10 = .int .i64 st ∧ st < n ∧ s8 = .int .i64 be ∧ s9 = .int .i64 en ∧ Hid (lng f1 f2 f3 n m (s.data.toList.drop m) j = (be, en)) ∧ Hid (goF f1 f2 n ((s.data.toList.drop m).take j) = some st) ∧ Hid (Below w1.heap.size w1 w')) (fun s2 _ _ _ _ => s.size - (intOf s2).toNat)
  case atStart => exact ⟨0, 0, -1, -1, by simp, by omega, rfl, hn0, rfl, rfl, Lib.hid rfl, Lib.hid rfl, Lib.hid (Below.refl _ _)⟩
  case round =>
    obtain ⟨j, st, be, en, rfl, hj, rfl, hst, rfl, rfl, Hlg, Hg, Hw⟩ := hrel
    have HB := Lib.hid (Hbox.out.keep Hw.out)
    have R1 := Lib.hid (G1.out.keep Hw.out)
    have R2 := Lib.hid (G2.out.keep Hw.out)
    have R3 := Lib.hid (G3.out.keep Hw.out)
    have hw2 := HB.out.2.2.2
    have hc3 := R3.out.2 st hst
    have hnum := numF_some (f3 := f3) Hg.out
    have hlg : lng f1 f2 f3 n m (s.data.toList.drop m) (j + 1) = if f3 st < 0 then (be, en) else (f3 st, ((m + j : Nat) : Int)) := by
      rw [lng, hnum, Hlg.out]
      by_cases hx : f3 st < 0
      · rw [if_pos hx, if_pos (by decide), if_pos hx]
      · simp only [if_neg hx]
    clear hnum
    generalize f3 st = x at hc3 hlg
    have hpair : ∃ be2 en2 : Int, lng f1 f2 f3 n m (s.data.toList.drop m) (j + 1) = (be2, en2) ∧ ((x < 0 ∧ be2 = be ∧ en2 = en) ∨ (0 ≤ x ∧ be2 = x ∧ en2 = (m : Int) + j)) := by
      by_cases hx : x < 0
      · exact ⟨be, en, by rw [hlg, if_pos hx], .inl ⟨hx, rfl, rfl⟩⟩
      · exact ⟨x, (m : Int) + j, by rw [hlg, if_neg hx]; simp, .inr ⟨by omega, rfl, rfl⟩⟩
    clear hlg Hlg
    obtain ⟨be2, en2, hlg, hcase⟩ := hpair
    have Hlg := Lib.hid hlg; clear hlg
    by_cases hend : m + j = s.size
    · have hend' : ((m : Int) + j == s.size) = true := by simp; omega
      have e : r = (be2, en2) := by rw [← Hr.out, ← Hlg.out]; congr 1; omega
      have Hend := Lib.hid hend; clear hend
      subst e
      rcases hcase with ⟨hx, rfl, rfl⟩ | ⟨hx, rfl, rfl⟩
      all_goals repeat' (first | go_values | go_skip | go_guarded | go_step | go_upon)
      all_goals go_ret2
      all_goals exact ⟨rfl, Hb.out.trans (Hw.out.mono Hb.out.size)⟩
    · have hlt : m + j < s.size := by omega
      have hlt' : (m : Int) + j < s.size := by omega
      have hend' : ((m : Int) + j == s.size) = false := by simp; omega
      obtain ⟨b, hb⟩ : ∃ b, s[m + j].toNat = b := ⟨_, rfl⟩
      have hbl : b < 256 := by rw [← hb]; exact s[m + j].toNat_lt
      have hgn := goF_snoc f1 f2 n ((s.data.toList.drop m).take j) s[m + j]
      rw [← drop_next s m j hlt, Hg.out, hb] at hgn
      have hba : at8 s.data.toList (m + j) = b := by rw [← ba_at s (m + j) hlt]; exact hb
      have Hgn : Hid (goF f1 f2 n ((s.data.toList.drop m).take (j + 1)) = stepS f1 f2 n st b) := Lib.hid hgn
      clear hgn hb
      have q0 : ∀ nq : WB wr, nq.1.cell? ⟨w.heap.size, 0, none⟩ = some (.slice (some ⟨b1, o1, none⟩) n c1) := fun nq => (HB.out.keep nq.2).2.1
      have q1 : ∀ nq : WB wr, nq.1.cell? ⟨w.heap.size, 1, none⟩ = some (.slice (some ⟨b2, o2, none⟩) n c2) := fun nq => (HB.out.keep nq.2).2.2.1
      have q2 : ∀ nq : WB wr, nq.1.cell? ⟨w.heap.size, 2, none⟩ = some (.slice (some ⟨b3, o3, none⟩) n c3) := fun nq => (HB.out.keep nq.2).2.2.2
      have Hst := Lib.hid (fun nq : WB wr => trie_step (b1 := b1) (o1 := o1) (c1 := c1) (b2 := b2) (o2 := o2) (c2 := c2) (b3 := b3) (o3 := o3) (c3 := c3) f1 f2 hn st hst b hbl nq.1 (R1.out.keep nq.2) (R2.out.keep nq.2))
      have Hsl : Hid (∀ p, stepS f1 f2 n st b = some p → p < n) := Lib.hid (fun p hp => stepS_lt hp)
      rcases hcase with ⟨hx, rfl, rfl⟩ | ⟨hx, rfl, rfl⟩
      · repeat' (first | go_values | go_skip | go_guarded | go_step | go_upon)
        refine wp_region_wb (by kernel_rfl) (by kernel_rfl) wr (Below.refl _ _) ?_
        repeat (go_big_quiet_step ((go_at_call 18; exact calls_wb (Hst.out _))))
        refine wpQuiet_nil ?_
        rintro _ ⟨nq, rfl⟩
        have hnq := nq.2
        clear q0 q1 q2 hw2 hc3
        have HSl := Hsl.out
        generalize stepS f1 f2 n st b = o at Hgn HSl
        cases o with
        | none =>
          dsimp only [optI]
          repeat' (first | go_values | go_skip | go_guarded | go_step | go_upon)
          go_ret2
          exact ⟨by
            have h := lng_dead (f3 := f3) (m := m) Hgn.out (s.size - m - j)
            rw [show j + 1 + (s.size - m - j) = s.size - m + 1 from by omega, Hr.out, Hlg.out] at h
            subst h
            rfl, Hb.out.trans ((Hw.out.mono Hb.out.size).trans (hnq.mono (Nat.le_trans Hb.out.size Hw.out.size)))⟩
        | some p =>
          have hp := HSl p rfl
          clear HSl
          dsimp only [optI]
          repeat' (first | go_values | go_skip | go_guarded | go_step | go_upon)
          go_roundw
          case rel => exact ⟨j + 1, p, _, _, by go_num, by omega, rfl, hp, rfl, rfl, Hlg, Hgn, Lib.hid (Hw.out.trans (hnq.mono Hw.out.size))⟩
          case measure => simp [intOf]; omega
      · repeat' (first | go_values | go_skip | go_guarded | go_step | go_upon)
        refine wp_region_wb (by kernel_rfl) (by kernel_rfl) wr (Below.refl _ _) ?_
        repeat (go_big_quiet_step ((go_at_call 18; exact calls_wb (Hst.out _))))
        refine wpQuiet_nil ?_
        rintro _ ⟨nq, rfl⟩
        have hnq := nq.2
        clear q0 q1 q2 hw2 hc3
        have HSl := Hsl.out
        generalize stepS f1 f2 n st b = o at Hgn HSl
        cases o with
        | none =>
          dsimp only [optI]
          repeat' (first | go_values | go_skip | go_guarded | go_step | go_upon)
          go_ret2
          exact ⟨by
            have h := lng_dead (f3 := f3) (m := m) Hgn.out (s.size - m - j)
            rw [show j + 1 + (s.size - m - j) = s.size - m + 1 from by omega, Hr.out, Hlg.out] at h
            subst h
            rfl, Hb.out.trans ((Hw.out.mono Hb.out.size).trans (hnq.mono (Nat.le_trans Hb.out.size Hw.out.size)))⟩
        | some p =>
          have hp := HSl p rfl
          clear HSl
          dsimp only [optI]
          repeat' (first | go_values | go_skip | go_guarded | go_step | go_upon)
          go_roundw
          case rel => exact ⟨j + 1, p, _, _, by go_num, by omega, rfl, hp, rfl, rfl, Hlg, Hgn, Lib.hid (Hw.out.trans (hnq.mono Hw.out.size))⟩
          case measure => simp [intOf]; omega
theorem lng_at {f1 f2 f3 : Nat → Int} {n m : Nat} {t : List UInt8} {j : Nat} : lng f1 f2 f3 n m t (j + 1) = if numF f1 f2 f3 n (t.take j) < 0 then lng f1 f2 f3 n m t j else (numF f1 f2 f3 n (t.take j), ((m + j : Nat) : Int)) := rfl
end
end Go.Proofs.Ytndekogkfbhabaa
