/- Walk: the statement IsaGets. No conditions beyond the statement's own. -/
import Derived.Test.YtpelngkhipcneaaIsaRefGet
namespace Go.Proofs.Ytpelngkhipcneaa
open Go.RowKit
theorem Row5.cells {w : World} {b off : Nat} {l : List (Nat → Int)} (h : ∀ (i : Nat) (x : Nat → Int) (j : Nat), l[i]? = some x → j < 5 → w.cell? ⟨b, off + (i * 5 + j), none⟩ = (icL x)[j]?) (k : Nat) (hk : k < l.length) :
    w.cell? ⟨b, off + k * 5, none⟩ = some (.int .i64 (l.getD k (fun _ => 0) 0)) ∧ w.cell? ⟨b, off + k * 5 + 1, none⟩ = some (.int .i64 (l.getD k (fun _ => 0) 1)) ∧ w.cell? ⟨b, off + k * 5 + 2, none⟩ = some (.int .i64 (l.getD k (fun _ => 0) 2)) ∧
      w.cell? ⟨b, off + k * 5 + 3, none⟩ = some (.int .i64 (l.getD k (fun _ => 0) 3)) ∧ w.cell? ⟨b, off + k * 5 + 4, none⟩ = some (.int .i64 (l.getD k (fun _ => 0) 4)) := by
  have hx : l[k]? = some (l.getD k (fun _ => 0)) := by rw [List.getD_eq_getElem?_getD, List.getElem?_eq_getElem hk]; rfl
  refine ⟨h k _ 0 hx (by decide), h k _ 1 hx (by decide), h k _ 2 hx (by decide), h k _ 3 hx (by decide), h k _ 4 hx (by decide)⟩
set_option maxRecDepth 100000 in
set_option maxHeartbeats 400000 in
theorem rg_Like (v1 v2 : Value) (l : List (Nat → Int)) (w : World) (h1 : RowOf icL 5 w v1 l) (h2 : RowOf icL 5 w v2 l) :
    Calls Try.prog 9 #[v1, v2] w fun e w' => e = .returned (.bool true) ∧ Below w.heap.size w w' := by
  obtain ⟨a1, cap1, rfl, hcap1, hmx1, hcell1⟩ := h1.open icL_len
  obtain ⟨a2, cap2, rfl, hcap2, hmx2, hcell2⟩ := h2.open icL_len
  obtain ⟨n, hn⟩ : ∃ n, l.length = n := ⟨_, rfl⟩
  rw [hn] at hcap1 hcell1 hcap2 hcell2 ⊢
  have Hn := Lib.hid hn; clear hn h1 h2
  unfold maxLen at hmx1 hmx2
  go_enter Try.func9, Try.ntmps9
  repeat' (first | go_values | go_skip | go_guarded | go_step | go_upon)
  go_loopw [5, 13] (fun _ s13 w' => ∃ k : Nat, s13 = .int .i64 k ∧ k ≤ n ∧ Hid (Below w.heap.size w w')) (fun _ s13 _ => n - (intOf s13).toNat)
  case atStart => exact ⟨0, rfl, Nat.zero_le _, Lib.hid (Below.refl _ _)⟩
  case round =>
    obtain ⟨k, rfl, hk, Hb⟩ := hrel
    by_cases hlt : k < n
    · rcases hcell1 with h0 | ⟨b1, o1, rfl, hb1, hcell1⟩
      · omega
      rcases hcell2 with h0 | ⟨b2, o2, rfl, hb2, hcell2⟩
      · omega
      obtain ⟨c0, c1, c2, c3, c4⟩ := Row5.cells hcell1 k (by rw [Hn.out]; exact hlt)
      obtain ⟨d0, d1, d2, d3, d4⟩ := Row5.cells hcell2 k (by rw [Hn.out]; exact hlt)
      clear hcell1 hcell2
      rw [← Hb.out.cell (show b1 < w.heap.size from hb1)] at c0 c1 c2 c3 c4
      rw [← Hb.out.cell (show b2 < w.heap.size from hb2)] at d0 d1 d2 d3 d4
      generalize l.getD k (fun _ => 0) = x at c0 c1 c2 c3 c4 d0 d1 d2 d3 d4
      have hl1 : b1 < wr.heap.size := Nat.lt_of_lt_of_le hb1 Hb.out.size
      have hl2 : b2 < wr.heap.size := Nat.lt_of_lt_of_le hb2 Hb.out.size
      have q00 : ∀ nq : WB wr, nq.1.cell? ⟨b1, o1 + k * 5, none⟩ = some (.int .i64 (x 0)) := fun nq => by rw [nq.cell hl1]; exact c0
      have q01 : ∀ nq : WB wr, nq.1.cell? ⟨b1, o1 + k * 5 + 1, none⟩ = some (.int .i64 (x 1)) := fun nq => by rw [nq.cell hl1]; exact c1
      have q02 : ∀ nq : WB wr, nq.1.cell? ⟨b1, o1 + k * 5 + 2, none⟩ = some (.int .i64 (x 2)) := fun nq => by rw [nq.cell hl1]; exact c2
      have q03 : ∀ nq : WB wr, nq.1.cell? ⟨b1, o1 + k * 5 + 3, none⟩ = some (.int .i64 (x 3)) := fun nq => by rw [nq.cell hl1]; exact c3
      have q04 : ∀ nq : WB wr, nq.1.cell? ⟨b1, o1 + k * 5 + 4, none⟩ = some (.int .i64 (x 4)) := fun nq => by rw [nq.cell hl1]; exact c4
      have q10 : ∀ nq : WB wr, nq.1.cell? ⟨b2, o2 + k * 5, none⟩ = some (.int .i64 (x 0)) := fun nq => by rw [nq.cell hl2]; exact d0
      have q11 : ∀ nq : WB wr, nq.1.cell? ⟨b2, o2 + k * 5 + 1, none⟩ = some (.int .i64 (x 1)) := fun nq => by rw [nq.cell hl2]; exact d1
      have q12 : ∀ nq : WB wr, nq.1.cell? ⟨b2, o2 + k * 5 + 2, none⟩ = some (.int .i64 (x 2)) := fun nq => by rw [nq.cell hl2]; exact d2
      have q13 : ∀ nq : WB wr, nq.1.cell? ⟨b2, o2 + k * 5 + 3, none⟩ = some (.int .i64 (x 3)) := fun nq => by rw [nq.cell hl2]; exact d3
      have q14 : ∀ nq : WB wr, nq.1.cell? ⟨b2, o2 + k * 5 + 4, none⟩ = some (.int .i64 (x 4)) := fun nq => by rw [nq.cell hl2]; exact d4
      clear c0 c1 c2 c3 c4 d0 d1 d2 d3 d4
      repeat' (first | go_values | go_skip | go_guarded | go_step | go_upon)
      refine wp_region_wb (by kernel_rfl) (by kernel_rfl) wr (Below.refl _ _) ?_
      repeat (go_big_quiet_step ((fail)))
      refine wpQuiet_nil ?_
      rintro _ ⟨nq, rfl⟩
      have hnq := nq.2
      clear q00 q01 q02 q03 q04 q10 q11 q12 q13 q14
      repeat' (first | go_values | go_skip | go_guarded | go_step | go_upon)
      go_roundw
      case rel => exact ⟨k + 1, by go_num, hlt, Lib.hid (Hb.out.trans (hnq.mono Hb.out.size))⟩
      case measure => simp [intOf]; omega
    · obtain rfl : k = n := by omega
      repeat' (first | go_values | go_skip | go_guarded | go_step | go_upon)
      go_ret
      exact ⟨rfl, Hb.out⟩
theorem ba_listI (s : ByteArray) : ∃ l : List UInt8, s = ⟨l.toArray⟩ := ⟨s.data.toList, by apply ByteArray.ext; apply Array.ext'; simp⟩
set_option maxRecDepth 100000 in
set_option maxHeartbeats 400000 in
theorem walk_IsaGets (t : List UInt8) (hs : t.length ≤ 1000000000000000) (w : World) :
    Calls Try.prog 4 #[.string ⟨t.toArray⟩] w fun e w' => e = .returned (.bool true) ∧ Below w.heap.size w w' := by
  have hsz := arrI_size t
  have Hg := Lib.hid (fun w => isa_Get t hs w)
  have Hr := Lib.hid (fun w => rg_Get t hs w)
  generalize getI t = r at Hg Hr
  obtain ⟨e, l⟩ := r
  dsimp only at Hg Hr
  by_cases h2 : 20000 < t.length
  · go_enter Try.func4, Try.ntmps4
    repeat' (first | go_values | go_skip | go_guarded | go_step | go_upon)
    go_ret
    exact ⟨rfl, Below.refl _ _⟩
  clear hs
  go_enter Try.func4, Try.ntmps4
  repeat' (first | go_values | go_skip | go_guarded | go_step | go_upon)
  refine Calls.mono (Hg.out _) ?_
  rintro _ w1 ⟨v1, rfl, hr1, hb1⟩
  dsimp only
  have H1 := Lib.hid hr1
  have Hb1 := Lib.hid hb1
  clear hr1 hb1
  repeat' (first | go_values | go_skip | go_guarded | go_step | go_upon)
  refine Calls.mono (Hr.out _) ?_
  rintro _ w2 ⟨v2, rfl, hr2, hb2⟩
  dsimp only
  have H1 := Lib.hid (H1.out.keep hb2)
  have H2 := Lib.hid hr2
  have Hb2 := Lib.hid (Hb1.out.trans (hb2.mono Hb1.out.size))
  clear hr2 hb2
  repeat' (first | go_values | go_skip | go_guarded | go_step | go_upon)
  refine Calls.mono (rg_Like v1 v2 l w2 H1.out H2.out) ?_
  rintro _ w3 ⟨rfl, hb3⟩
  dsimp only
  repeat' (first | go_values | go_skip | go_guarded | go_step | go_upon)
  go_ret
  exact ⟨rfl, Hb2.out.trans (hb3.mono Hb2.out.size)⟩
theorem law_IsaGets (s : ByteArray) (hs : s.size ≤ 140737488351232) (w : World) :
    Calls Try.prog 4 #[.string s] w fun e w' => e = .returned (.bool true) ∧ Below w.heap.size w w' := by
  obtain ⟨t, rfl⟩ := ba_listI s
  rw [arrI_size] at hs
  exact walk_IsaGets t (by omega) w
end Go.Proofs.Ytpelngkhipcneaa
