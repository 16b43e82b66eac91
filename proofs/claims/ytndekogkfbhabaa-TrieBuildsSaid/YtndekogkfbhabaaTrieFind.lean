/- Walk: a word's number in a trie (trie.Find). Conditions: the text is of at most 10^6 bytes; the rows are of ints. -/
import Derived.Test.YtndekogkfbhabaaTrieStep
namespace Go.Proofs.Ytndekogkfbhabaa
open Go.RowKit
/-- where one is behind a text; nowhere -/
def goF (f1 f2 : Nat → Int) (n : Nat) (l : List UInt8) : Option Nat := l.foldl (fun o b => o.bind fun st => stepS f1 f2 n st b.toNat) (some 0)
theorem goF_nil (f1 f2 : Nat → Int) (n : Nat) : goF f1 f2 n [] = some 0 := rfl
theorem goF_snoc (f1 f2 : Nat → Int) (n : Nat) (l : List UInt8) (b : UInt8) : goF f1 f2 n (l ++ [b]) = (goF f1 f2 n l).bind fun st => stepS f1 f2 n st b.toNat := by simp [goF, List.foldl_append]
theorem fold_none (f1 f2 : Nat → Int) (n : Nat) (m : List UInt8) : m.foldl (fun o b => o.bind fun st => stepS f1 f2 n st b.toNat) none = none := by
  induction m with
  | nil => rfl
  | cons b m ih => rw [List.foldl_cons]; exact ih
theorem goF_none {f1 f2 : Nat → Int} {n : Nat} {l : List UInt8} (m : List UInt8) (h : goF f1 f2 n l = none) : goF f1 f2 n (l ++ m) = none := by
  unfold goF at h ⊢
  rw [List.foldl_append, h, fold_none]
theorem goF_take {f1 f2 : Nat → Int} {n : Nat} {l : List UInt8} {k m : Nat} (h : goF f1 f2 n (l.take k) = none) (hm : k ≤ m) : goF f1 f2 n (l.take m) = none := by
  have e : l.take m = l.take k ++ (l.take m).drop k := by
    conv => lhs; rw [← List.take_append_drop k (l.take m)]
    rw [List.take_take, Nat.min_eq_left hm]
  rw [e]
  exact goF_none _ h
/-- a text's number -/
def numF (f1 f2 f3 : Nat → Int) (n : Nat) (l : List UInt8) : Int :=
  match goF f1 f2 n l with
  | none => -1
  | some st => if f3 st < 0 then -1 else f3 st
theorem numF_none {f1 f2 f3 : Nat → Int} {n : Nat} {l : List UInt8} (h : goF f1 f2 n l = none) : numF f1 f2 f3 n l = -1 := by unfold numF; rw [h]
theorem numF_some {f1 f2 f3 : Nat → Int} {n st : Nat} {l : List UInt8} (h : goF f1 f2 n l = some st) : numF f1 f2 f3 n l = if f3 st < 0 then -1 else f3 st := by unfold numF; rw [h]
theorem take_next (s : ByteArray) (k : Nat) (hk : k < s.size) : s.data.toList.take (k + 1) = s.data.toList.take k ++ [s[k]] := by
  rw [List.take_succ_eq_append_getElem (by simpa using hk)]
  rfl
/-- a trie's three rows lie in a block -/
def BoxAt (w : World) (g : Nat) (v1 v2 v3 : Value) : Prop := g < w.heap.size ∧ w.cell? ⟨g, 0, none⟩ = some v1 ∧ w.cell? ⟨g, 1, none⟩ = some v2 ∧ w.cell? ⟨g, 2, none⟩ = some v3
theorem BoxAt.keep {w w' : World} {g : Nat} {v1 v2 v3 : Value} (h : BoxAt w g v1 v2 v3) (hb : Below w.heap.size w w') : BoxAt w' g v1 v2 v3 :=
  ⟨Nat.lt_of_lt_of_le h.1 hb.size, by rw [hb.cell (show g < w.heap.size from h.1)]; exact h.2.1, by rw [hb.cell (show g < w.heap.size from h.1)]; exact h.2.2.1, by rw [hb.cell (show g < w.heap.size from h.1)]; exact h.2.2.2⟩
theorem BoxAt.alloc (w : World) (v1 v2 v3 : Value) (t : TypeId) : BoxAt (w.alloc (.cells #[v1, v2, v3] t)) w.heap.size v1 v2 v3 := by
  have h := Go.heap_alloc_new w (.cells #[v1, v2, v3] t)
  exact ⟨by simp, by rw [cell_of_row _ _ _ _ _ _ h]; rfl, by rw [cell_of_row _ _ _ _ _ _ h]; rfl, by rw [cell_of_row _ _ _ _ _ _ h]; rfl⟩
section
variable {b1 o1 c1 b2 o2 c2 b3 o3 c3 n : Nat}
set_option maxRecDepth 100000 in
set_option maxHeartbeats 1000000 in
theorem trie_Find (f1 f2 f3 : Nat → Int) (hn0 : 1 ≤ n) (hn : n ≤ 400000) (s : ByteArray) (hs : s.size ≤ 1000000) (w : World) (h1 : Row3 w b1 o1 n f1) (h2 : Row3 w b2 o2 n f2) (h3 : Row3 w b3 o3 n f3) :
    Calls Try.prog 9 #[(.agg #[.slice (some ⟨b1, o1, none⟩) n c1, .slice (some ⟨b2, o2, none⟩) n c2, .slice (some ⟨b3, o3, none⟩) n c3]), .string s] w fun e w' => e = .returned (.int .i64 (numF f1 f2 f3 n s.data.toList)) ∧ Below w.heap.size w w' := by
  have hmb : mayBe n n n = true := mayBe_eq.2 ⟨hn0, hn, rfl, rfl⟩
  have hri := trie_Right (some ⟨b1, o1, none⟩) n c1 (some ⟨b2, o2, none⟩) n c2 (some ⟨b3, o3, none⟩) n c3
  rw [hmb] at hri
  obtain ⟨r, hr⟩ : ∃ r, numF f1 f2 f3 n s.data.toList = r := ⟨_, rfl⟩
  rw [hr]
  have Hr := Lib.hid hr; clear hr hmb
  have H1 := Lib.hid h1; clear h1
  have H2 := Lib.hid h2; clear h2
  have H3 := Lib.hid h3; clear h3
  go_enter Try.func9, Try.ntmps9
  repeat' (first | go_values | go_skip | go_guarded | go_step | go_upon)
  refine Calls.mono (hri _) ?_
  rintro _ w1 ⟨rfl, hb1⟩
  dsimp only
  clear hri
  have Hbox := Lib.hid ((BoxAt.alloc w (.slice (some ⟨b1, o1, none⟩) n c1) (.slice (some ⟨b2, o2, none⟩) n c2) (.slice (some ⟨b3, o3, none⟩) n c3) 27).keep hb1)
  have Hb : Hid (Below w.heap.size w w1) := Lib.hid (((Below.refl _ _).alloc (Nat.le_refl _) _).trans (hb1.mono (by simp)))
  have G1 := Lib.hid (H1.out.keep Hb.out)
  have G2 := Lib.hid (H2.out.keep Hb.out)
  have G3 := Lib.hid (H3.out.keep Hb.out)
  clear hb1 H1 H2 H3
  repeat' (first | go_values | go_skip | go_guarded | go_step | go_upon)
  go_loopw [5, 12] (fun s5 s12 w' => ∃ k st : Nat, s12 = .int .i64 k ∧ k ≤ s.size ∧ s5 = .int .i64 st ∧ st < n ∧ Hid (goF f1 f2 n (s.data.toList.take k) = some st) ∧ Hid (Below w1.heap.size w1 w')) (fun _ s12 _ => s.size - (intOf s12).toNat)
  case atStart => exact ⟨0, 0, rfl, Nat.zero_le _, rfl, hn0, Lib.hid rfl, Lib.hid (Below.refl _ _)⟩
  case round =>
    obtain ⟨k, st, rfl, hk, rfl, hst, Hg, Hw⟩ := hrel
    have HB := Lib.hid (Hbox.out.keep Hw.out)
    have R1 := Lib.hid (G1.out.keep Hw.out)
    have R2 := Lib.hid (G2.out.keep Hw.out)
    have R3 := Lib.hid (G3.out.keep Hw.out)
    by_cases hlt : k < s.size
    · have hlt' : (k : Int) < s.size := by omega
      obtain ⟨b, hb⟩ : ∃ b, s[k].toNat = b := ⟨_, rfl⟩
      have hbl : b < 256 := by rw [← hb]; exact s[k].toNat_lt
      have hgn := goF_snoc f1 f2 n (s.data.toList.take k) s[k]
      rw [← take_next s k hlt, Hg.out, hb] at hgn
      have hba : at8 s.data.toList k = b := by rw [← ba_at s k hlt]; exact hb
      have Hgn : Hid (goF f1 f2 n (s.data.toList.take (k + 1)) = stepS f1 f2 n st b) := Lib.hid hgn
      clear hgn hb
      have q0 : ∀ nq : WB wr, nq.1.cell? ⟨w.heap.size, 0, none⟩ = some (.slice (some ⟨b1, o1, none⟩) n c1) := fun nq => (HB.out.keep nq.2).2.1
      have q1 : ∀ nq : WB wr, nq.1.cell? ⟨w.heap.size, 1, none⟩ = some (.slice (some ⟨b2, o2, none⟩) n c2) := fun nq => (HB.out.keep nq.2).2.2.1
      have q2 : ∀ nq : WB wr, nq.1.cell? ⟨w.heap.size, 2, none⟩ = some (.slice (some ⟨b3, o3, none⟩) n c3) := fun nq => (HB.out.keep nq.2).2.2.2
      have Hst := Lib.hid (fun nq : WB wr => trie_step (b1 := b1) (o1 := o1) (c1 := c1) (b2 := b2) (o2 := o2) (c2 := c2) (b3 := b3) (o3 := o3) (c3 := c3) f1 f2 hn st hst b hbl nq.1 (R1.out.keep nq.2) (R2.out.keep nq.2))
      repeat' (first | go_values | go_skip | go_guarded | go_step | go_upon)
      refine wp_region_wb (by kernel_rfl) (by kernel_rfl) wr (Below.refl _ _) ?_
      repeat (go_big_quiet_step ((go_at_call 18; exact calls_wb (Hst.out _))))
      refine wpQuiet_nil ?_
      rintro _ ⟨nq, rfl⟩
      have hnq := nq.2
      have hsl : ∀ p, stepS f1 f2 n st b = some p → p < n := fun p hp => stepS_lt hp
      generalize stepS f1 f2 n st b = o at Hgn hsl
      cases o with
      | none =>
        clear q0 q1 q2
        dsimp only [optI]
        repeat' (first | go_values | go_skip | go_guarded | go_step | go_upon)
        go_ret
        exact ⟨ret_i (by rw [← Hr.out, numF_none]; have h := goF_take Hgn.out hlt; rwa [List.take_of_length_le (by simp)] at h), Hb.out.trans ((Hw.out.mono Hb.out.size).trans (hnq.mono (Nat.le_trans Hb.out.size Hw.out.size)))⟩
      | some p =>
        have hp := hsl p rfl
        clear q0 q1 q2 hsl
        dsimp only [optI]
        repeat' (first | go_values | go_skip | go_guarded | go_step | go_upon)
        go_roundw
        case rel => exact ⟨k + 1, p, by go_num, hlt, rfl, hp, Hgn, Lib.hid (Hw.out.trans (hnq.mono Hw.out.size))⟩
        case measure => simp [intOf]; omega
    · obtain rfl : k = s.size := by omega
      have hg := Hg.out
      rw [List.take_of_length_le (by simp)] at hg
      have hw2 := HB.out.2.2.2
      have hc3 := R3.out.2 st hst
      have hnum := numF_some (f3 := f3) hg
      rw [Hr.out] at hnum
      generalize f3 st = x at hc3 hnum
      have Hnum := Lib.hid hnum; clear hnum hg
      repeat' (first | go_values | go_skip | go_guarded | go_step | go_upon)
      go_ret
      exact ⟨ret_i (by rw [Hnum.out]; split <;> split <;> omega), Hb.out.trans (Hw.out.mono Hb.out.size)⟩
set_option maxRecDepth 100000 in
set_option maxHeartbeats 400000 in
theorem trie_Find_not (a1 : Option Addr) (n1 c1 : Nat) (a2 : Option Addr) (n2 c2 : Nat) (a3 : Option Addr) (n3 c3 : Nat) (hm : mayBe n1 n2 n3 = false) (s : ByteArray) (w : World) :
    Calls Try.prog 9 #[.agg #[.slice a1 n1 c1, .slice a2 n2 c2, .slice a3 n3 c3], .string s] w fun e w' => e = .returned (.int .i64 (-1)) ∧ Below w.heap.size w w' := by
  have hri := trie_Right a1 n1 c1 a2 n2 c2 a3 n3 c3
  rw [hm] at hri
  clear hm
  go_enter Try.func9, Try.ntmps9
  repeat' (first | go_values | go_skip | go_guarded | go_step | go_upon)
  refine Calls.mono (hri _) ?_
  rintro _ w1 ⟨rfl, hb1⟩
  dsimp only
  clear hri
  have Hb : Hid (Below w.heap.size w w1) := Lib.hid (((Below.refl _ _).alloc (Nat.le_refl _) _).trans (hb1.mono (by simp)))
  clear hb1
  repeat' (first | go_values | go_skip | go_guarded | go_step | go_upon)
  go_ret
  exact ⟨rfl, Hb.out⟩
end
end Go.Proofs.Ytndekogkfbhabaa
