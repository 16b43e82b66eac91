/- Walk: the statement PackTorn. No conditions beyond the statement's own. -/
import Derived.Test.YtpalafbapehodaaPackBack
namespace Go.Proofs.Ytpalafbapehodaa
open Go.RowKit
set_option maxRecDepth 100000 in
set_option maxHeartbeats 1000000 in
theorem walk_PackTorn (v : Value) (l : List Sec) (w : World) (h : RowOf secC 2 w v l) (hl : SecsOk l) (a : Int) (ha : I64 a) (p : Nat) (hp : U32 p) :
    Calls Try.prog 8 #[v, .int .i64 a, .int .u32 p] w fun e w' => e = .returned (.bool true) ∧ Below w.heap.size w w' := by
  have hws := wsum_i64 l l.length
  have Hsz := Lib.hid (fun w h => law_size v l w h hl)
  have Hp := Lib.hid (fun w h => pack_Put v l w h hl)
  have hsm : l.length ≤ 64 → wsum l l.length = (sizeS l : Nat) := fun h => by have := wsum_small hl h l.length (Nat.le_refl _); rwa [List.take_length] at this
  generalize wsum l l.length = y at Hsz hws hsm
  have H := Lib.hid h; clear h
  have Hws := Lib.hid hws; clear hws
  by_cases h1 : 20000 < y
  · go_enter Try.func8, Try.ntmps8
    repeat' (first | go_values | go_skip | go_guarded | go_step | go_upon)
    refine Calls.mono (law04_alive _) ?_
    rintro _ w0 ⟨rfl, hb0⟩
    dsimp only
    have H0 := Lib.hid (H.out.keep hb0)
    repeat' (first | go_values | go_skip | go_guarded | go_step | go_upon)
    refine Calls.mono (Hsz.out _ H0.out) ?_
    rintro _ w1 ⟨rfl, hb1⟩
    dsimp only
    repeat' (first | go_values | go_skip | go_guarded | go_step | go_upon)
    go_ret
    exact ⟨rfl, hb0.trans (hb1.mono hb0.size)⟩
  by_cases hbad : (putP l).2 = 0
  · obtain ⟨hl1, hl2, hl3, hl4, hl5⟩ := putP_len hl hbad
    have hy := hsm hl3
    rw [hbad] at Hp
    obtain ⟨x, hx⟩ : ∃ x, packB l = x := ⟨_, rfl⟩
    rw [hx] at hl5
    obtain ⟨s, hs⟩ : ∃ s, (putP l).1 = s := ⟨_, rfl⟩
    rw [hs] at Hp hl1 hl2 hl5
    have hsl : s.length ≤ 30000 := by omega
    clear hsm hy hl1 hl3 hl4 hx hs hbad
    have Hs := Lib.hid hl5; clear hl5
    have hsz := arr_size s
    have hpos : (0 : Int) < 8 * s.length := by omega
    obtain ⟨k, hk⟩ : ∃ k : Nat, k = (place a % (8 * s.length)).toNat := ⟨_, rfl⟩
    unfold I64 at ha
    have hpl : 0 ≤ place a ∧ place a ≤ 9223372036854775807 := by unfold place; split <;> omega
    have hk1 : place a % (8 * s.length) = (k : Int) := by rw [hk]; exact (Int.toNat_of_nonneg (Int.emod_nonneg _ (Int.ne_of_gt hpos))).symm
    have hk2 : k < 8 * s.length := by have := Int.emod_lt_of_pos (place a) hpos; rw [hk1] at this; omega
    have Ht := Lib.hid (fun w => ref_Turned ⟨s.toArray⟩ (by rw [hsz]; omega) k (by rw [hsz]; exact hk2) p hp w)
    rw [show (⟨s.toArray⟩ : ByteArray).data.toList = s from rfl] at Ht
    have h8 : ((8 * (s.length : Int)) == 0) = false := beq_false_of_ne (by omega)
    have he0 : (s == []) = false := by cases s with
      | nil => simp at hl2
      | cons b s => rfl
    have Htn : Hid (∀ t, IsTurned s t k 32 → s = t ∨ (getP t).2 = 41 ∨ (getP t).2 = 40) := Lib.hid fun t h => by
      rw [Hs.out] at h hk2 hl2 ⊢
      exact pack_torn h (by omega) (by omega)
    have hneg : a < 0 → IntKind.i64.wrap (-(a + 1)) = -(a + 1) := fun h => wi64 (by unfold I64; omega)
    have Hk := Lib.hid hk1; clear hk hk1 hpl
    have Hk2 := Lib.hid hk2; clear hk2
    by_cases hn : a < 0
    · have hw := hneg hn
      have hm : (-(a + 1)).tmod (8 * (s.length : Int)) = (k : Int) := by rw [Int.tmod_eq_emod_of_nonneg (show 0 ≤ -(a + 1) by omega), ← Hk.out]; unfold place; rw [if_pos hn]
      clear hneg
      go_enter Try.func8, Try.ntmps8
      repeat' (first | go_values | go_skip | go_guarded | go_step | go_upon)
      refine Calls.mono (law04_alive _) ?_
      rintro _ w0 ⟨rfl, hb0⟩
      dsimp only
      have H0 := Lib.hid (H.out.keep hb0)
      repeat' (first | go_values | go_skip | go_guarded | go_step | go_upon)
      refine Calls.mono (Hsz.out _ H0.out) ?_
      rintro _ w1 ⟨rfl, hb1⟩
      dsimp only
      have H1 := Lib.hid (H0.out.keep hb1)
      have Hb1 := Lib.hid (hb0.trans (hb1.mono hb0.size))
      repeat' (first | go_values | go_skip | go_guarded | go_step | go_upon)
      refine Calls.mono (Hp.out _ H1.out) ?_
      rintro _ w2 ⟨rfl, hb2⟩
      dsimp only
      have Hb2 := Lib.hid (Hb1.out.trans (hb2.mono Hb1.out.size))
      clear hb0 hb1 hb2 H0 H1 Hb1
      repeat' (first | go_values | go_skip | go_guarded | go_step | go_upon)
      refine Calls.mono (Ht.out _) ?_
      rintro _ w3 ⟨⟨t, rfl, htt⟩, hb3⟩
      dsimp only
      have Hb3 := Lib.hid (Hb2.out.trans (hb3.mono Hb2.out.size))
      have htl : t.length = s.length := htt.1
      have hcase := Htn.out t htt
      have Hg := Lib.hid (fun w => pack_Get t (by rw [htl]; omega) w)
      clear htt htl hb3
      have hc2 : (t == s) = true ∨ ((t == s) = false ∧ ((getP t).2 = 41 ∨ (getP t).2 = 40)) := by
        by_cases hst : t = s
        · left; simpa using hst
        · right
          refine ⟨by simpa using hst, ?_⟩
          rcases hcase with h | h
          · exact absurd h.symm hst
          · exact h
      clear hcase
      generalize (getP t).2 = er at Hg hc2
      repeat' (first | go_values | go_skip | go_guarded | go_step | go_upon)
      refine Calls.mono (Hg.out _) ?_
      rintro _ w4 ⟨v4, rfl, _, hb4⟩
      dsimp only
      rcases hc2 with hc2 | ⟨hc2, rfl | rfl⟩
      all_goals
        repeat' (first | go_values | go_skip | go_guarded | go_step | go_upon)
        go_ret
        exact ⟨rfl, Hb3.out.trans (hb4.mono Hb3.out.size)⟩
    · have hm : a.tmod (8 * (s.length : Int)) = (k : Int) := by rw [Int.tmod_eq_emod_of_nonneg (show 0 ≤ a by omega), ← Hk.out]; unfold place; rw [if_neg hn]
      clear hneg
      go_enter Try.func8, Try.ntmps8
      repeat' (first | go_values | go_skip | go_guarded | go_step | go_upon)
      refine Calls.mono (law04_alive _) ?_
      rintro _ w0 ⟨rfl, hb0⟩
      dsimp only
      have H0 := Lib.hid (H.out.keep hb0)
      repeat' (first | go_values | go_skip | go_guarded | go_step | go_upon)
      refine Calls.mono (Hsz.out _ H0.out) ?_
      rintro _ w1 ⟨rfl, hb1⟩
      dsimp only
      have H1 := Lib.hid (H0.out.keep hb1)
      have Hb1 := Lib.hid (hb0.trans (hb1.mono hb0.size))
      repeat' (first | go_values | go_skip | go_guarded | go_step | go_upon)
      refine Calls.mono (Hp.out _ H1.out) ?_
      rintro _ w2 ⟨rfl, hb2⟩
      dsimp only
      have Hb2 := Lib.hid (Hb1.out.trans (hb2.mono Hb1.out.size))
      clear hb0 hb1 hb2 H0 H1 Hb1
      repeat' (first | go_values | go_skip | go_guarded | go_step | go_upon)
      refine Calls.mono (Ht.out _) ?_
      rintro _ w3 ⟨⟨t, rfl, htt⟩, hb3⟩
      dsimp only
      have Hb3 := Lib.hid (Hb2.out.trans (hb3.mono Hb2.out.size))
      have htl : t.length = s.length := htt.1
      have hcase := Htn.out t htt
      have Hg := Lib.hid (fun w => pack_Get t (by rw [htl]; omega) w)
      clear htt htl hb3
      have hc2 : (t == s) = true ∨ ((t == s) = false ∧ ((getP t).2 = 41 ∨ (getP t).2 = 40)) := by
        by_cases hst : t = s
        · left; simpa using hst
        · right
          refine ⟨by simpa using hst, ?_⟩
          rcases hcase with h | h
          · exact absurd h.symm hst
          · exact h
      clear hcase
      generalize (getP t).2 = er at Hg hc2
      repeat' (first | go_values | go_skip | go_guarded | go_step | go_upon)
      refine Calls.mono (Hg.out _) ?_
      rintro _ w4 ⟨v4, rfl, _, hb4⟩
      dsimp only
      rcases hc2 with hc2 | ⟨hc2, rfl | rfl⟩
      all_goals
        repeat' (first | go_values | go_skip | go_guarded | go_step | go_upon)
        go_ret
        exact ⟨rfl, Hb3.out.trans (hb4.mono Hb3.out.size)⟩
  · have he := putP_bad hbad
    rw [he] at Hp
    generalize (putP l).2 = er at Hp hbad
    have hbb : (er != 0) = true := by simpa using hbad
    clear he hbad hsm
    go_enter Try.func8, Try.ntmps8
    repeat' (first | go_values | go_skip | go_guarded | go_step | go_upon)
    refine Calls.mono (law04_alive _) ?_
    rintro _ w0 ⟨rfl, hb0⟩
    dsimp only
    have H0 := Lib.hid (H.out.keep hb0)
    repeat' (first | go_values | go_skip | go_guarded | go_step | go_upon)
    refine Calls.mono (Hsz.out _ H0.out) ?_
    rintro _ w1 ⟨rfl, hb1⟩
    dsimp only
    have H1 := Lib.hid (H0.out.keep hb1)
    have Hb1 := Lib.hid (hb0.trans (hb1.mono hb0.size))
    repeat' (first | go_values | go_skip | go_guarded | go_step | go_upon)
    refine Calls.mono (Hp.out _ H1.out) ?_
    rintro _ w2 ⟨rfl, hb2⟩
    dsimp only
    repeat' (first | go_values | go_skip | go_guarded | go_step | go_upon)
    go_ret
    exact ⟨rfl, Hb1.out.trans (hb2.mono Hb1.out.size)⟩
theorem law_PackTorn (w : World) (v : Value) (n : Nat) (xs : List Value) (h : RdC w.heap.size 2 w v n xs) (_ : n * 24 ≤ 140737488351232) (hf : ∀ i, i < n → FlatOk [.int .u64, .str] ((xs.drop (i * 2)).take 2)) (a : Int) (ha : I64 a) (p : Nat) (hp : U32 p) :
    Calls Try.prog 8 #[v, .int .i64 a, .int .u32 p] w fun e w' => e = .returned (.bool true) ∧ Below w.heap.size w w' := by
  have hx : xs.length = n * 2 := by obtain ⟨_, _, _, _, _, h, _⟩ := h; exact h
  obtain ⟨l, rfl, rfl, hl⟩ := secs_of hx hf
  exact walk_PackTorn v l w h hl a ha p hp
end Go.Proofs.Ytpalafbapehodaa
