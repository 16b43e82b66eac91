/- Walks: the statements PackGets and PackInner. No conditions beyond the statements' own. -/
import Derived.Test.YtpalafbapehodaaPackRefGet
namespace Go.Proofs.Ytpalafbapehodaa
open Go.RowKit
set_option maxRecDepth 100000 in
set_option maxHeartbeats 400000 in
theorem ref_Like (v1 v2 : Value) (l : List Sec) (w : World) (h1 : RowOf secC 2 w v1 l) (h2 : RowOf secC 2 w v2 l) :
    Calls Try.prog 14 #[v1, v2] w fun e w' => e = .returned (.bool true) ∧ Below w.heap.size w w' := by
  obtain ⟨a1, cap1, rfl, hcap1, hmx1, hcell1⟩ := h1.open secC_len
  obtain ⟨a2, cap2, rfl, hcap2, hmx2, hcell2⟩ := h2.open secC_len
  obtain ⟨n, hn⟩ : ∃ n, l.length = n := ⟨_, rfl⟩
  rw [hn] at hcap1 hcell1 hcap2 hcell2 ⊢
  have Hn := Lib.hid hn; clear hn h1 h2
  unfold maxLen at hmx1 hmx2
  go_enter Try.func14, Try.ntmps14
  repeat' (first | go_values | go_skip | go_guarded | go_step | go_upon)
  go_loopw [5, 13] (fun _ s13 w' => ∃ k : Nat, s13 = .int .i64 k ∧ k ≤ n ∧ Hid (Below w.heap.size w w')) (fun _ s13 _ => n - (intOf s13).toNat)
  case atStart => exact ⟨0, rfl, Nat.zero_le _, Lib.hid (Below.refl _ _)⟩
  case round =>
    obtain ⟨k, rfl, hk, Hb⟩ := hrel
    by_cases hlt : k < n
    · rcases hcell1 with h0 | ⟨b1, o1, rfl, hb1, hcell1⟩
      · omega
      rcases hcell2 with h0 | ⟨b2, o2, rfl, hb2, hcell2⟩
      · omega
      obtain ⟨c0, c1⟩ := Row2.cells hcell1 k (by rw [Hn.out]; exact hlt)
      obtain ⟨d0, d1⟩ := Row2.cells hcell2 k (by rw [Hn.out]; exact hlt)
      clear hcell1 hcell2
      rw [← Hb.out.cell (show b1 < w.heap.size from hb1)] at c0 c1
      rw [← Hb.out.cell (show b2 < w.heap.size from hb2)] at d0 d1
      generalize l.getD k (0, []) = x at c0 c1 d0 d1
      obtain ⟨kind, body⟩ := x
      dsimp only at c0 c1 d0 d1
      have hl1 : b1 < wr.heap.size := Nat.lt_of_lt_of_le hb1 Hb.out.size
      have hl2 : b2 < wr.heap.size := Nat.lt_of_lt_of_le hb2 Hb.out.size
      have q0 : ∀ nq : WB wr, nq.1.cell? ⟨b1, o1 + k * 2, none⟩ = some (.int .u64 kind) := fun nq => by rw [nq.cell hl1]; exact c0
      have q1 : ∀ nq : WB wr, nq.1.cell? ⟨b1, o1 + k * 2 + 1, none⟩ = some (.string ⟨body.toArray⟩) := fun nq => by rw [nq.cell hl1]; exact c1
      have q2 : ∀ nq : WB wr, nq.1.cell? ⟨b2, o2 + k * 2, none⟩ = some (.int .u64 kind) := fun nq => by rw [nq.cell hl2]; exact d0
      have q3 : ∀ nq : WB wr, nq.1.cell? ⟨b2, o2 + k * 2 + 1, none⟩ = some (.string ⟨body.toArray⟩) := fun nq => by rw [nq.cell hl2]; exact d1
      clear c0 c1 d0 d1
      repeat' (first | go_values | go_skip | go_guarded | go_step | go_upon)
      refine wp_region_wb (by kernel_rfl) (by kernel_rfl) wr (Below.refl _ _) ?_
      repeat (go_big_quiet_step ((fail)))
      refine wpQuiet_nil ?_
      rintro _ ⟨nq, rfl⟩
      have hnq := nq.2
      clear q0 q1 q2 q3
      repeat' (first | go_values | go_skip | go_guarded | go_step | go_upon)
      go_roundw
      case rel => exact ⟨k + 1, by go_num, hlt, Lib.hid (Hb.out.trans (hnq.mono Hb.out.size))⟩
      case measure => simp [intOf]; omega
    · obtain rfl : k = n := by omega
      repeat' (first | go_values | go_skip | go_guarded | go_step | go_upon)
      go_ret
      exact ⟨rfl, Hb.out⟩
theorem ba_list (s : ByteArray) : ∃ l : List UInt8, s = ⟨l.toArray⟩ := ⟨s.data.toList, by apply ByteArray.ext; apply Array.ext'; simp⟩
set_option maxRecDepth 100000 in
set_option maxHeartbeats 400000 in
theorem walk_PackGets (t : List UInt8) (hs : t.length ≤ 1000000000000000) (w : World) :
    Calls Try.prog 4 #[.string ⟨t.toArray⟩] w fun e w' => e = .returned (.bool true) ∧ Below w.heap.size w w' := by
  have hsz := arr_size t
  by_cases h2 : 20000 < t.length
  · go_enter Try.func4, Try.ntmps4
    repeat' (first | go_values | go_skip | go_guarded | go_step | go_upon)
    go_ret
    exact ⟨rfl, Below.refl _ _⟩
  have Hg := Lib.hid (fun w => pack_Get t hs w)
  have Hr := Lib.hid (fun w => rq_Get t hs w)
  generalize getP t = r at Hg Hr
  obtain ⟨r1, r2⟩ := r
  dsimp only at Hg Hr
  go_enter Try.func4, Try.ntmps4
  repeat' (first | go_values | go_skip | go_guarded | go_step | go_upon)
  refine Calls.mono (Hg.out _) ?_
  rintro _ w1 ⟨v1, rfl, hr1, hb1⟩
  dsimp only
  have H1 := Lib.hid hr1
  have Hb1 := Lib.hid hb1
  clear hr1 hb1
  repeat' (first | go_values | go_skip | go_guarded | go_step | go_upon)
  refine Calls.mono (Hr.out _) ?_
  rintro _ w2 ⟨v2, rfl, hr2, hb2⟩
  dsimp only
  have H1 := Lib.hid (H1.out.keep hb2)
  have H2 := Lib.hid hr2
  have Hb2 := Lib.hid (Hb1.out.trans (hb2.mono Hb1.out.size))
  clear hr2 hb2
  repeat' (first | go_values | go_skip | go_guarded | go_step | go_upon)
  refine Calls.mono (ref_Like v1 v2 r1 w2 H1.out H2.out) ?_
  rintro _ w3 ⟨rfl, hb3⟩
  dsimp only
  repeat' (first | go_values | go_skip | go_guarded | go_step | go_upon)
  go_ret
  exact ⟨rfl, Hb2.out.trans (hb3.mono Hb2.out.size)⟩
theorem law_PackGets (s : ByteArray) (hs : s.size ≤ 140737488351232) (w : World) :
    Calls Try.prog 4 #[.string s] w fun e w' => e = .returned (.bool true) ∧ Below w.heap.size w w' := by
  obtain ⟨t, rfl⟩ := ba_list s
  rw [arr_size] at hs
  exact walk_PackGets t (by omega) w
/-- bytes with a beginning and a sum that fit -/
def sealB (t : List UInt8) : List UInt8 := (begB ++ t) ++ put4 (sumOn 0 (begB ++ t))
set_option maxRecDepth 100000 in
set_option maxHeartbeats 400000 in
theorem law_sealed (t : List UInt8) (hs : t.length ≤ 140737488351232) (w : World) :
    Calls Try.prog 15 #[.string ⟨t.toArray⟩] w fun e w' => e = .returned (.string ⟨(sealB t).toArray⟩) ∧ Below w.heap.size w w' := by
  have hsz := arr_size t
  have hb0 : (⟨#[70, 83, 65, 87, 1]⟩ : ByteArray) ++ ⟨t.toArray⟩ = ⟨(begB ++ t).toArray⟩ := beg_append ⟨t.toArray⟩
  have hfin : sealB t = (begB ++ t) ++ put4 (sumOn 0 (begB ++ t)) := rfl
  have hl : (begB ++ t).length = t.length + 5 := by simp [begB]
  have Hsum := Lib.hid (fun w => ref_Of ⟨(begB ++ t).toArray⟩ (by rw [arr_size, hl]; omega) w)
  rw [show (⟨(begB ++ t).toArray⟩ : ByteArray).data.toList = begB ++ t from rfl] at Hsum
  have Hfin := Lib.hid hfin; clear hfin
  have hxl : (begB ++ t).length ≤ 140737488351300 := by omega
  generalize begB ++ t = x at hb0 Hsum Hfin hl hxl
  have Hlt := Lib.hid (sumOn_lt 0 x)
  have hxs := arr_size x
  have Hl := Lib.hid hl; clear hl
  have Hx4 : Hid (put4 (sumOn 0 x) = [u8 (sumOn 0 x), u8 (sumOn 0 x / 256), u8 (sumOn 0 x / 65536), u8 (sumOn 0 x / 16777216)]) := Lib.hid rfl
  generalize sumOn 0 x = n at Hsum Hfin Hlt Hx4
  have hn := Hlt.out
  have h1 : IntKind.u32.wrap ((n : Int) / 256) = (n : Int) / 256 := wu32 (by omega) (by unfold U32; omega)
  have h2 : IntKind.u32.wrap ((n : Int) / 65536) = (n : Int) / 65536 := wu32 (by omega) (by unfold U32; omega)
  have h3 : IntKind.u32.wrap ((n : Int) / 16777216) = (n : Int) / 16777216 := wu32 (by omega) (by unfold U32; omega)
  go_enter Try.func15, Try.ntmps15
  repeat' (first | go_values | go_skip | go_guarded | go_step | go_upon)
  refine Calls.mono (Hsum.out _) ?_
  rintro _ _ ⟨rfl, rfl⟩
  dsimp only
  repeat' (first | (with_reducible refine wp_conv_lit4 Try.underlying42 Try.underlying5 Try.underlying9 rfl _ rfl rfl ?_) | go_values | go_skip | go_guarded | go_step | go_upon)
  go_ret
  refine ⟨?_, (Below.refl _ _).alloc (Nat.le_refl _) _⟩
  rw [Hfin.out, show put4 n = [u8 (n % 256), u8 (n / 256 % 256), u8 (n / 65536 % 256), u8 (n / 16777216)] from by
    rw [Hx4.out]; rw [u8_congr (show n % 256 % 256 = n % 256 by omega), u8_congr (show n / 256 % 256 % 256 = n / 256 % 256 by omega), u8_congr (show n / 65536 % 256 % 256 = n / 65536 % 256 by omega)]]
  exact congrArg (fun b : ByteArray => Ending.returned (.string b)) (arr_append x _)
set_option maxRecDepth 100000 in
set_option maxHeartbeats 400000 in
theorem law_PackInner (s : ByteArray) (hs : s.size ≤ 140737488351232) (w : World) :
    Calls Try.prog 5 #[.string s] w fun e w' => e = .returned (.bool true) ∧ Below w.heap.size w w' := by
  obtain ⟨t, rfl⟩ := ba_list s
  rw [arr_size] at hs
  have hl : (sealB t).length ≤ 1000000000000000 := by simp [sealB, begB, put4]; omega
  go_enter Try.func5, Try.ntmps5
  repeat' (first | go_values | go_skip | go_guarded | go_step | go_upon)
  refine Calls.mono (law_sealed t hs _) ?_
  rintro _ w1 ⟨rfl, hb1⟩
  dsimp only
  generalize sealB t = x at hl
  repeat' (first | go_values | go_skip | go_guarded | go_step | go_upon)
  refine Calls.mono (walk_PackGets x hl _) ?_
  rintro _ w2 ⟨rfl, hb2⟩
  dsimp only
  repeat' (first | go_values | go_skip | go_guarded | go_step | go_upon)
  go_ret
  exact ⟨rfl, hb1.trans (hb2.mono hb1.size)⟩
end Go.Proofs.Ytpalafbapehodaa
