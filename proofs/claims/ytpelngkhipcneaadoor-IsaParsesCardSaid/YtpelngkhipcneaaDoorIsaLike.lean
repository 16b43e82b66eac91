/- Walk: two lists of instructions, compared by the reference. Conditions: they lie in memory, and are alike. -/
import Derived.Test.YtpelngkhipcneaaDoorIsaGet
namespace Go.Proofs.YtpelngkhipcneaaDoor
open Go.RowKit
theorem Row5.cells {w : World} {b off : Nat} {l : List (Nat → Int)} (h : ∀ (i : Nat) (x : Nat → Int) (j : Nat), l[i]? = some x → j < 5 → w.cell? ⟨b, off + (i * 5 + j), none⟩ = (icL x)[j]?) (k : Nat) (hk : k < l.length) :
    w.cell? ⟨b, off + k * 5, none⟩ = some (.int .i64 (l.getD k (fun _ => 0) 0)) ∧ w.cell? ⟨b, off + k * 5 + 1, none⟩ = some (.int .i64 (l.getD k (fun _ => 0) 1)) ∧ w.cell? ⟨b, off + k * 5 + 2, none⟩ = some (.int .i64 (l.getD k (fun _ => 0) 2)) ∧
      w.cell? ⟨b, off + k * 5 + 3, none⟩ = some (.int .i64 (l.getD k (fun _ => 0) 3)) ∧ w.cell? ⟨b, off + k * 5 + 4, none⟩ = some (.int .i64 (l.getD k (fun _ => 0) 4)) := by
  have hx : l[k]? = some (l.getD k (fun _ => 0)) := by rw [List.getD_eq_getElem?_getD, List.getElem?_eq_getElem hk]; rfl
  refine ⟨h k _ 0 hx (by decide), h k _ 1 hx (by decide), h k _ 2 hx (by decide), h k _ 3 hx (by decide), h k _ 4 hx (by decide)⟩
set_option maxRecDepth 100000 in
set_option maxHeartbeats 400000 in
theorem rg_Like (v1 v2 : Value) (l : List (Nat → Int)) (w : World) (h1 : RowOf icL 5 w v1 l) (h2 : RowOf icL 5 w v2 l) :
    Calls Tryd.prog 13 #[v1, v2] w fun e w' => e = .returned (.bool true) ∧ Below w.heap.size w w' := by
  obtain ⟨a1, cap1, rfl, hcap1, hmx1, hcell1⟩ := h1.open icL_len
  obtain ⟨a2, cap2, rfl, hcap2, hmx2, hcell2⟩ := h2.open icL_len
  obtain ⟨n, hn⟩ : ∃ n, l.length = n := ⟨_, rfl⟩
  rw [hn] at hcap1 hcell1 hcap2 hcell2 ⊢
  have Hn := Lib.hid hn; clear hn h1 h2
  unfold maxLen at hmx1 hmx2
  go_enter Tryd.func13, Tryd.ntmps13
  repeat' (first | go_values | go_skip | go_guarded | go_step | go_upon)
  go_loopw [5, 13] (fun _ s13 w' => ∃ k : Nat, s13 = .int .i64 k ∧ k ≤ n ∧ Hid (Below w.heap.size w w')) (fun _ s13 _ => n - (intOf s13).toNat)
  case atStart => exact ⟨0, rfl, Nat.zero_le _, Lib.hid (Below.refl _ _)⟩
  case round =>
    obtain ⟨k, rfl, hk, Hb⟩ := hrel
    by_cases hlt : k < n
    · rcases hcell1 with h0 | ⟨b1, o1, rfl, hb1, hcell1⟩
      · omega
      rcases hcell2 with h0 | ⟨b2, o2, rfl, hb2, hcell2⟩
      · omega
      obtain ⟨c0, c1, c2, c3, c4⟩ := Row5.cells hcell1 k (by rw [Hn.out]; exact hlt)
      obtain ⟨d0, d1, d2, d3, d4⟩ := Row5.cells hcell2 k (by rw [Hn.out]; exact hlt)
      clear hcell1 hcell2
      rw [← Hb.out.cell (show b1 < w.heap.size from hb1)] at c0 c1 c2 c3 c4
      rw [← Hb.out.cell (show b2 < w.heap.size from hb2)] at d0 d1 d2 d3 d4
      generalize l.getD k (fun _ => 0) = x at c0 c1 c2 c3 c4 d0 d1 d2 d3 d4
      have hl1 : b1 < wr.heap.size := Nat.lt_of_lt_of_le hb1 Hb.out.size
      have hl2 : b2 < wr.heap.size := Nat.lt_of_lt_of_le hb2 Hb.out.size
      have q00 : ∀ nq : WB wr, nq.1.cell? ⟨b1, o1 + k * 5, none⟩ = some (.int .i64 (x 0)) := fun nq => by rw [nq.cell hl1]; exact c0
      have q01 : ∀ nq : WB wr, nq.1.cell? ⟨b1, o1 + k * 5 + 1, none⟩ = some (.int .i64 (x 1)) := fun nq => by rw [nq.cell hl1]; exact c1
      have q02 : ∀ nq : WB wr, nq.1.cell? ⟨b1, o1 + k * 5 + 2, none⟩ = some (.int .i64 (x 2)) := fun nq => by rw [nq.cell hl1]; exact c2
      have q03 : ∀ nq : WB wr, nq.1.cell? ⟨b1, o1 + k * 5 + 3, none⟩ = some (.int .i64 (x 3)) := fun nq => by rw [nq.cell hl1]; exact c3
      have q04 : ∀ nq : WB wr, nq.1.cell? ⟨b1, o1 + k * 5 + 4, none⟩ = some (.int .i64 (x 4)) := fun nq => by rw [nq.cell hl1]; exact c4
      have q10 : ∀ nq : WB wr, nq.1.cell? ⟨b2, o2 + k * 5, none⟩ = some (.int .i64 (x 0)) := fun nq => by rw [nq.cell hl2]; exact d0
      have q11 : ∀ nq : WB wr, nq.1.cell? ⟨b2, o2 + k * 5 + 1, none⟩ = some (.int .i64 (x 1)) := fun nq => by rw [nq.cell hl2]; exact d1
      have q12 : ∀ nq : WB wr, nq.1.cell? ⟨b2, o2 + k * 5 + 2, none⟩ = some (.int .i64 (x 2)) := fun nq => by rw [nq.cell hl2]; exact d2
      have q13 : ∀ nq : WB wr, nq.1.cell? ⟨b2, o2 + k * 5 + 3, none⟩ = some (.int .i64 (x 3)) := fun nq => by rw [nq.cell hl2]; exact d3
      have q14 : ∀ nq : WB wr, nq.1.cell? ⟨b2, o2 + k * 5 + 4, none⟩ = some (.int .i64 (x 4)) := fun nq => by rw [nq.cell hl2]; exact d4
      clear c0 c1 c2 c3 c4 d0 d1 d2 d3 d4
      repeat' (first | go_values | go_skip | go_guarded | go_step | go_upon)
      refine wp_region_wb (by kernel_rfl) (by kernel_rfl) wr (Below.refl _ _) ?_
      repeat (go_big_quiet_step ((fail)))
      refine wpQuiet_nil ?_
      rintro _ ⟨nq, rfl⟩
      have hnq := nq.2
      clear q00 q01 q02 q03 q04 q10 q11 q12 q13 q14
      repeat' (first | go_values | go_skip | go_guarded | go_step | go_upon)
      go_roundw
      case rel => exact ⟨k + 1, by go_num, hlt, Lib.hid (Hb.out.trans (hnq.mono Hb.out.size))⟩
      case measure => simp [intOf]; omega
    · obtain rfl : k = n := by omega
      repeat' (first | go_values | go_skip | go_guarded | go_step | go_upon)
      go_ret
      exact ⟨rfl, Hb.out⟩
theorem ba_listI (s : ByteArray) : ∃ l : List UInt8, s = ⟨l.toArray⟩ := ⟨s.data.toList, by apply ByteArray.ext; apply Array.ext'; simp⟩
theorem row_take {w : World} {a : Option Addr} {n cap : Nat} {l : List (Nat → Int)} (h : RowOf icL 5 w (.slice a n cap) l) (k : Nat) (hk : k ≤ l.length) : RowOf icL 5 w (.slice a k cap) (l.take k) := by
  obtain ⟨a', cap', hv, h1, h2, h3, h4⟩ := h
  simp only [Value.slice.injEq] at hv
  obtain ⟨rfl, rfl, rfl⟩ := hv
  have hl : (l.take k).length = k := by rw [List.length_take]; omega
  have e : (l.take k).flatMap icL = (l.flatMap icL).take (k * 5) := by
    have h5 : l.flatMap icL = (l.take k).flatMap icL ++ (l.drop k).flatMap icL := by rw [← List.flatMap_append, List.take_append_drop]
    have h6 : ∀ ys : List (Nat → Int), (ys.flatMap icL).length = ys.length * 5 := fun ys => by
      induction ys with
      | nil => rfl
      | cons y ys ih => rw [List.flatMap_cons, List.length_append, ih, icL_len, List.length_cons]; omega
    rw [h5, List.take_left' (by rw [h6, hl])]
  unfold RowOf
  rw [hl, e]
  refine ⟨a, cap, rfl, by omega, h2, by rw [List.length_take, h3]; omega, ?_⟩
  rcases h4 with h4 | ⟨b, off, rfl, hb, hc⟩
  · exact .inl (by omega)
  · refine .inr ⟨b, off, rfl, hb, fun i hi => ?_⟩
    rw [hc i (by have := Nat.mul_le_mul_right 5 hk; omega), List.getElem?_take_of_lt hi]
/-- any five numbers are an instruction -/
theorem ins_of {cs : List Value} (h : FlatOk [.int .i64, .int .i64, .int .i64, .int .i64, .int .i64] cs) : ∃ y : Nat → Int, cs = icL y ∧ True := by
  obtain ⟨hl, hc⟩ := h
  match cs, hl with
  | [c0, c1, c2, c3, c4], _ =>
    obtain ⟨a0, rfl, _⟩ := hc 0 _ _ rfl rfl
    obtain ⟨a1, rfl, _⟩ := hc 1 _ _ rfl rfl
    obtain ⟨a2, rfl, _⟩ := hc 2 _ _ rfl rfl
    obtain ⟨a3, rfl, _⟩ := hc 3 _ _ rfl rfl
    obtain ⟨a4, rfl, _⟩ := hc 4 _ _ rfl rfl
    exact ⟨fun j => [a0, a1, a2, a3, a4].getD j 0, rfl, trivial⟩
theorem inss_of {n : Nat} {xs : List Value} (hn : xs.length = n * 5) (h : ∀ i, i < n → FlatOk [.int .i64, .int .i64, .int .i64, .int .i64, .int .i64] ((xs.drop (i * 5)).take 5)) : ∃ l : List (Nat → Int), l.length = n ∧ xs = l.flatMap icL := by
  obtain ⟨l, h1, h2, _⟩ := chunks (f := icL) (G := fun _ => True) n xs hn fun i hi => ins_of (h i hi)
  exact ⟨l, h1, h2⟩
end Go.Proofs.YtpelngkhipcneaaDoor
