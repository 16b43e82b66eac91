/- Walk: the statement PackPuts. No conditions beyond the statement's own. -/
import Derived.Test.YtpalafbapehodaaPackPut
namespace Go.Proofs.Ytpalafbapehodaa
open Go.RowKit
set_option maxRecDepth 100000 in
set_option maxHeartbeats 1000000 in
theorem walk_PackPuts (v : Value) (l : List Sec) (w : World) (h : RowOf secC 2 w v l) (hl : SecsOk l) :
    Calls Try.prog 3 #[v] w fun e w' => e = .returned (.bool true) ∧ Below w.heap.size w w' := by
  have hws := wsum_i64 l l.length
  have Hsz := Lib.hid (fun w h => law_size v l w h hl)
  have Hp := Lib.hid (fun w h => pack_Put v l w h hl)
  have Hq := Lib.hid (fun w h => rp_Put v l w h hl)
  obtain ⟨y, hy⟩ : ∃ y, wsum l l.length = y := ⟨_, rfl⟩
  rw [hy] at Hsz hws
  clear hy
  obtain ⟨r, hr⟩ : ∃ r, putP l = r := ⟨_, rfl⟩
  rw [hr] at Hp Hq
  clear hr
  obtain ⟨r1, r2⟩ := r
  dsimp only at Hp Hq
  have H := Lib.hid h; clear h
  have Hws := Lib.hid hws; clear hws
  by_cases h1 : 20000 < y
  · by_cases h2 : y ≤ 8388608
    · go_enter Try.func3, Try.ntmps3
      repeat' (first | go_values | go_skip | go_guarded | go_step | go_upon)
      refine Calls.mono (Hsz.out _ H.out) ?_
      rintro _ w1 ⟨rfl, hb1⟩
      dsimp only
      have H1 := Lib.hid (H.out.keep hb1)
      repeat' (first | go_values | go_skip | go_guarded | go_step | go_upon)
      refine Calls.mono (Hsz.out _ H1.out) ?_
      rintro _ w2 ⟨rfl, hb2⟩
      dsimp only
      repeat' (first | go_values | go_skip | go_guarded | go_step | go_upon)
      go_ret
      exact ⟨rfl, hb1.trans (hb2.mono hb1.size)⟩
    · go_enter Try.func3, Try.ntmps3
      repeat' (first | go_values | go_skip | go_guarded | go_step | go_upon)
      refine Calls.mono (Hsz.out _ H.out) ?_
      rintro _ w1 ⟨rfl, hb1⟩
      dsimp only
      have H1 := Lib.hid (H.out.keep hb1)
      repeat' (first | go_values | go_skip | go_guarded | go_step | go_upon)
      refine Calls.mono (Hsz.out _ H1.out) ?_
      rintro _ w2 ⟨rfl, hb2⟩
      dsimp only
      have HH := Lib.hid (H1.out.keep hb2)
      have HB := Lib.hid (hb1.trans (hb2.mono hb1.size))
      repeat' (first | go_values | go_skip | go_guarded | go_step | go_upon)
      refine Calls.mono (Hp.out _ HH.out) ?_
      rintro _ w3 ⟨rfl, hb3⟩
      dsimp only
      have H3 := Lib.hid (HH.out.keep hb3)
      have Hb3 := Lib.hid (HB.out.trans (hb3.mono HB.out.size))
      repeat' (first | go_values | go_skip | go_guarded | go_step | go_upon)
      refine Calls.mono (Hq.out _ H3.out) ?_
      rintro _ w4 ⟨rfl, hb4⟩
      dsimp only
      repeat' (first | go_values | go_skip | go_guarded | go_step | go_upon)
      go_ret
      exact ⟨rfl, Hb3.out.trans (hb4.mono Hb3.out.size)⟩
  · go_enter Try.func3, Try.ntmps3
    repeat' (first | go_values | go_skip | go_guarded | go_step | go_upon)
    refine Calls.mono (Hsz.out _ H.out) ?_
    rintro _ w1 ⟨rfl, hb1⟩
    dsimp only
    have HH := Lib.hid (H.out.keep hb1)
    have HB := Lib.hid hb1
    repeat' (first | go_values | go_skip | go_guarded | go_step | go_upon)
    refine Calls.mono (Hp.out _ HH.out) ?_
    rintro _ w3 ⟨rfl, hb3⟩
    dsimp only
    have H3 := Lib.hid (HH.out.keep hb3)
    have Hb3 := Lib.hid (HB.out.trans (hb3.mono HB.out.size))
    repeat' (first | go_values | go_skip | go_guarded | go_step | go_upon)
    refine Calls.mono (Hq.out _ H3.out) ?_
    rintro _ w4 ⟨rfl, hb4⟩
    dsimp only
    repeat' (first | go_values | go_skip | go_guarded | go_step | go_upon)
    go_ret
    exact ⟨rfl, Hb3.out.trans (hb4.mono Hb3.out.size)⟩
theorem secs_of {n : Nat} {xs : List Value} (hn : xs.length = n * 2) (h : ∀ i, i < n → FlatOk [.int .u64, .str] ((xs.drop (i * 2)).take 2)) : ∃ l : List Sec, l.length = n ∧ xs = l.flatMap secC ∧ SecsOk l := by
  refine chunks n xs hn fun i hi => ?_
  obtain ⟨h1, h2⟩ := h i hi
  generalize (xs.drop (i * 2)).take 2 = c at h1 h2
  match c, h1 with
  | [c0, c1], _ =>
    obtain ⟨z, rfl, hz⟩ := h2 0 _ _ rfl rfl
    obtain ⟨s, rfl, hs⟩ := h2 1 _ _ rfl rfl
    obtain ⟨k, rfl, hk⟩ := nat_u64 hz
    exact ⟨(k, s.data.toList), rfl, hk, by simpa using hs⟩
theorem law_PackPuts (w : World) (v : Value) (n : Nat) (xs : List Value) (h : RdC w.heap.size 2 w v n xs) (_ : n * 24 ≤ 140737488351232) (hf : ∀ i, i < n → FlatOk [.int .u64, .str] ((xs.drop (i * 2)).take 2)) :
    Calls Try.prog 3 #[v] w fun e w' => e = .returned (.bool true) ∧ Below w.heap.size w w' := by
  have hx : xs.length = n * 2 := by obtain ⟨_, _, _, _, _, h, _⟩ := h; exact h
  obtain ⟨l, rfl, rfl, hl⟩ := secs_of hx hf
  exact walk_PackPuts v l w h hl
end Go.Proofs.Ytpalafbapehodaa
