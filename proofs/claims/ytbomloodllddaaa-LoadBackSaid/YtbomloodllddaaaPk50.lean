/- Walk: the statement LoadTorn. Condition: the program lies in memory. -/
import Derived.Test.YtbomloodllddaaaPk49
import Derived.Test.YtbomloodllddaaaPk35
import Derived.Test.YtbomloodllddaaaPk44
namespace Go.Proofs.Ytbomloodllddaaa
open Go.RowKit
theorem law25_alive (w : World) : Calls Try.prog 19 #[] w fun e w' => e = .returned (.bool true) ∧ Below w.heap.size w w' := by
  have h := utf_Count ⟨#[97]⟩ (by decide) w
  rw [count_a] at h
  go_enter Try.func19, Try.ntmps19
  repeat' (first | go_values | go_skip | go_guarded | go_step | go_upon)
  refine Calls.mono (h) ?_
  rintro _ w1 ⟨rfl, hb1⟩
  dsimp only
  repeat' (first | go_values | go_skip | go_guarded | go_step | go_upon)
  go_ret
  exact ⟨rfl, hb1⟩
theorem enc_bad {p : Prg} (h : (encI p).2 ≠ 0) : (encI p).1 = [] := by
  unfold encI at h ⊢
  split
  · rfl
  · rename_i h1
    rw [if_neg h1] at h
    exact putP_bad h
theorem hash_u64 {w : World} {vs vk vv : Value} {h : HashP} (H : HashAt w vs vk vv h) : AllU64 h.seeds ∧ AllU64 h.keys ∧ AllU64 h.vals :=
  ⟨getD_u64 fun k => u64_small (by have := H.sb k; omega), getD_u64 H.kb, getD_u64 H.vb⟩
theorem enc_zero {p : Prg} (h : (encI p).2 = 0) : writI p = 0 ∧ encI p = putP (secsI p) ∧ (putP (secsI p)).2 = 0 := by
  unfold encI at h ⊢
  by_cases h1 : writI p ≠ 0
  · rw [if_pos h1] at h; exact absurd h h1
  · rw [if_neg h1] at h
    exact ⟨by simpa using h1, if_neg h1, h⟩
theorem enc_ok {p : Prg} (h : (encI p).2 = 0) (hk : AllU64 p.hash.seeds ∧ AllU64 p.hash.keys ∧ AllU64 p.hash.vals) :
    ∃ x, (encI p).1 = x ++ put4 (sumOn 0 x) ∧ 10 ≤ (encI p).1.length ∧ (encI p).1.length ≤ 8500000 := by
  obtain ⟨h1, h2, h3⟩ := enc_zero h
  obtain ⟨a1, a2, a3, a4, a5⟩ := putP_len (secs_ok (writ_wrt h1) hk) h3
  rw [h2]
  exact ⟨_, a5, a2, by omega⟩
theorem dec_err {t : List UInt8} (h : (getP t).2 ≠ 0) : decI t = (prg0, (getP t).2) := if_pos h
theorem load_err {t : List UInt8} (h : (getP t).2 ≠ 0) : loadI t = (prg0, (getP t).2) := by
  unfold loadI
  rw [dec_err h]
  exact if_pos h
set_option maxRecDepth 100000 in
set_option maxHeartbeats 2000000 in
theorem law_LoadTorn (w : World) (p : Prg) (v : PV) (H : PrgAt w v p) (a : Int) (ha : I64 a) (n : Nat) (hn : U32 n) : Calls Try.prog 8 #[pgV p v, .int .i64 a, .int .u32 n] w fun e w' => e = .returned (.bool true) ∧ Below w.heap.size w w' := by
  have HH := Lib.hid H
  have HP : Hid (PBox (w.alloc (.cells (pgC p v) 30)) w.heap.size p v) := Lib.hid (PBox.new _ _ _)
  have Hb0 : Hid (Below w.heap.size w (w.alloc (.cells (pgC p v) 30))) := Lib.hid ((Below.refl _ _).alloc (Nat.le_refl _) _)
  have HA := Lib.hid fun w H => law_few25 p v w H
  have HB := Lib.hid fun w H => load_Encode p v w H
  have Hbad : Hid ((encI p).2 ≠ 0 → (encI p).1 = []) := Lib.hid enc_bad
  have Hok : Hid ((encI p).2 = 0 → ∃ x, (encI p).1 = x ++ put4 (sumOn 0 x) ∧ 10 ≤ (encI p).1.length ∧ (encI p).1.length ≤ 8500000) := Lib.hid fun h => enc_ok h (hash_u64 H.hash)
  generalize encI p = G at HB Hbad Hok
  obtain ⟨s, e0⟩ := G
  dsimp only at HB Hbad Hok
  clear H
  by_cases h0 : e0 = 0
  rotate_left
  · have hs := Hbad.out h0
    subst hs
    have e1 : (e0 != 0) = true := by rw [bne_iff_ne]; exact h0
    clear h0 Hbad Hok
    go_enter Try.func8, Try.ntmps8
    repeat' (first | go_values | go_skip | go_guarded | go_step | go_upon)
    refine Calls.mono (law25_alive _) ?_
    rintro _ w0 ⟨rfl, hb0⟩
    dsimp only
    have P0 := Lib.hid (HP.out.keep hb0)
    have B0 := Lib.hid (Hb0.out.trans (hb0.mono Hb0.out.size))
    clear hb0 HP Hb0
    repeat' (first | (with_reducible refine load_pg P0.out _ rfl rfl ?_) | go_values | go_skip | go_guarded | go_step | go_upon)
    refine Calls.mono (HA.out _ (HH.out.keep B0.out)) ?_
    rintro _ w1 ⟨c, rfl, hb1⟩
    dsimp only
    have P1 := Lib.hid (P0.out.keep hb1)
    have B1 := Lib.hid (B0.out.trans (hb1.mono B0.out.size))
    clear hb1 P0 B0 HA
    cases c
    · repeat' (first | go_values | go_skip | go_guarded | go_step | go_upon)
      go_ret
      exact ⟨rfl, B1.out⟩
    repeat' (first | (with_reducible refine load_pg P1.out _ rfl rfl ?_) | go_values | go_skip | go_guarded | go_step | go_upon)
    refine Calls.mono (HB.out _ (HH.out.keep B1.out)) ?_
    rintro _ w2 ⟨rfl, hb2⟩
    dsimp only
    have B2 := Lib.hid (B1.out.trans (hb2.mono B1.out.size))
    clear hb2 P1 B1 HB
    repeat' (first | go_values | go_skip | go_guarded | go_step | go_upon)
    go_ret
    exact ⟨rfl, B2.out⟩
  subst h0
  obtain ⟨x, hx, hl2, hl1⟩ := Hok.out rfl
  have Hs := Lib.hid hx
  clear Hbad Hok hx
  have hsz := arr_size s
  have hpos : (0 : Int) < 8 * s.length := by omega
  obtain ⟨k, hk⟩ : ∃ k : Nat, k = (place a % (8 * s.length)).toNat := ⟨_, rfl⟩
  unfold I64 at ha
  have hpl : 0 ≤ place a ∧ place a ≤ 9223372036854775807 := by unfold place; split <;> omega
  have hk1 : place a % (8 * s.length) = (k : Int) := by rw [hk]; exact (Int.toNat_of_nonneg (Int.emod_nonneg _ (Int.ne_of_gt hpos))).symm
  have hk2 : k < 8 * s.length := by have := Int.emod_lt_of_pos (place a) hpos; rw [hk1] at this; omega
  have Ht := Lib.hid (fun w => ref_Turned ⟨s.toArray⟩ (by rw [hsz]; omega) k (by rw [hsz]; exact hk2) n hn w)
  rw [show (⟨s.toArray⟩ : ByteArray).data.toList = s from rfl] at Ht
  have h8 : ((8 * (s.length : Int)) == 0) = false := beq_false_of_ne (by omega)
  have he0 : (s == []) = false := by cases s with
    | nil => simp at hl2
    | cons b s => rfl
  have Htn : Hid (∀ t, IsTurned s t k 32 → s = t ∨ (getP t).2 = 41 ∨ (getP t).2 = 40) := Lib.hid fun t h => by
    rw [Hs.out] at h hk2 hl2 ⊢
    exact pack_torn h (by omega) (by omega)
  have hneg : a < 0 → IntKind.i64.wrap (-(a + 1)) = -(a + 1) := fun h => wi64 (by unfold I64; omega)
  have Hk := Lib.hid hk1; clear hk hk1 hpl
  have Hk2 := Lib.hid hk2; clear hk2
  have hmod : (a < 0 ∧ IntKind.i64.wrap (-(a + 1)) = -(a + 1) ∧ (-(a + 1)).tmod (8 * (s.length : Int)) = (k : Int)) ∨ (¬ a < 0 ∧ a.tmod (8 * (s.length : Int)) = (k : Int)) := by
    by_cases hn : a < 0
    · exact .inl ⟨hn, hneg hn, by rw [Int.tmod_eq_emod_of_nonneg (show 0 ≤ -(a + 1) by omega), ← Hk.out]; unfold place; rw [if_pos hn]⟩
    · exact .inr ⟨hn, by rw [Int.tmod_eq_emod_of_nonneg (show 0 ≤ a by omega), ← Hk.out]; unfold place; rw [if_neg hn]⟩
  clear hneg
  rcases hmod with ⟨hn, hw, hm⟩ | ⟨hn, hm⟩
  all_goals
    go_enter Try.func8, Try.ntmps8
    repeat' (first | go_values | go_skip | go_guarded | go_step | go_upon)
    refine Calls.mono (law25_alive _) ?_
    rintro _ w0 ⟨rfl, hb0⟩
    dsimp only
    have P0 := Lib.hid (HP.out.keep hb0)
    have B0 := Lib.hid (Hb0.out.trans (hb0.mono Hb0.out.size))
    clear hb0 HP Hb0
    repeat' (first | (with_reducible refine load_pg P0.out _ rfl rfl ?_) | go_values | go_skip | go_guarded | go_step | go_upon)
    refine Calls.mono (HA.out _ (HH.out.keep B0.out)) ?_
    rintro _ w1 ⟨c, rfl, hb1⟩
    dsimp only
    have P1 := Lib.hid (P0.out.keep hb1)
    have B1 := Lib.hid (B0.out.trans (hb1.mono B0.out.size))
    clear hb1 P0 B0 HA
    cases c
    · repeat' (first | go_values | go_skip | go_guarded | go_step | go_upon)
      go_ret
      exact ⟨rfl, B1.out⟩
    repeat' (first | (with_reducible refine load_pg P1.out _ rfl rfl ?_) | go_values | go_skip | go_guarded | go_step | go_upon)
    refine Calls.mono (HB.out _ (HH.out.keep B1.out)) ?_
    rintro _ w2 ⟨rfl, hb2⟩
    dsimp only
    have B2 := Lib.hid (B1.out.trans (hb2.mono B1.out.size))
    clear hb2 P1 B1 HB
    repeat' (first | go_values | go_skip | go_guarded | go_step | go_upon)
    refine Calls.mono (Ht.out _) ?_
    rintro _ w3 ⟨⟨t, rfl, htt⟩, hb3⟩
    dsimp only
    have B3 := Lib.hid (B2.out.trans (hb3.mono B2.out.size))
    have htl : t.length = s.length := htt.1
    have hcase := Htn.out t htt
    have Hg := Lib.hid (fun w => load_Decode t (by rw [htl]; omega) w)
    have Hl := Lib.hid (fun w => load_Load t (by rw [htl]; omega) w)
    clear htt htl hb3 B2
    have hc2 : (t == s) = true ∨ ((t == s) = false ∧ ∃ er, (er != 0) = true ∧ Hid (decI t = (prg0, er)) ∧ Hid (loadI t = (prg0, er))) := by
      by_cases hst : t = s
      · left; simpa using hst
      · right
        refine ⟨by simpa using hst, (getP t).2, ?_, ?_, ?_⟩
        · rcases hcase with h | h | h
          · exact absurd h.symm hst
          · rw [h]; rfl
          · rw [h]; rfl
        · exact Lib.hid (dec_err (by rcases hcase with h | h | h; exact absurd h.symm hst; rw [h]; decide; rw [h]; decide))
        · exact Lib.hid (load_err (by rcases hcase with h | h | h; exact absurd h.symm hst; rw [h]; decide; rw [h]; decide))
    clear hcase
    have hq : ∃ D L, Hid (D = decI t) ∧ Hid (L = loadI t) := ⟨_, _, Lib.hid rfl, Lib.hid rfl⟩
    obtain ⟨D, L, hD, hL⟩ := hq
    rw [← hD.out] at Hg
    rw [← hL.out] at Hl
    rw [← hD.out, ← hL.out] at hc2
    clear hD hL
    obtain ⟨D1, D2⟩ := D
    obtain ⟨L1, L2⟩ := L
    dsimp only at Hg Hl
    repeat' (first | go_values | go_skip | go_guarded | go_step | go_upon)
    refine Calls.mono (Hg.out _) ?_
    rintro _ w4 ⟨v4, rfl, ho4, hb4⟩
    dsimp only
    have hone4 := pgA_one ho4.at'
    have B4 := Lib.hid (B3.out.trans (hb4.mono B3.out.size))
    clear ho4 hb4 B3 Hg
    repeat' (go_not_at_region 14; first | (with_reducible refine store_new_pg _ _ rfl rfl rfl rfl rfl hone4 ?_) | go_values | go_skip | go_guarded | go_step | go_upon)
    refine gen_wd (fun W => Below w.heap.size w W) (B4.out.trans ((Below.refl _ _).alloc B4.out.size _)) ?_
    clear B4 hone4
    intro w5 hb5
    have B5 := Lib.hid hb5
    clear hb5
    repeat' (first | go_values | go_skip | go_guarded | go_step | go_upon)
    refine Calls.mono (Hl.out _) ?_
    rintro _ w6 ⟨v6, rfl, ho6, hb6⟩
    dsimp only
    have hone6 := pgA_one ho6.at'
    have B6 := Lib.hid (B5.out.trans (hb6.mono B5.out.size))
    clear ho6 hb6 B5 Hl
    repeat' (go_not_at_region 15; first | (with_reducible refine store_new_pg _ _ rfl rfl rfl rfl rfl hone6 ?_) | go_values | go_skip | go_guarded | go_step | go_upon)
    refine gen_wd (fun W => Below w.heap.size w W) (B6.out.trans ((Below.refl _ _).alloc B6.out.size _)) ?_
    clear B6 hone6
    intro w7 hb7
    have B7 := Lib.hid hb7
    clear hb7
    rcases hc2 with hc2 | ⟨hc2, er, he, h1, h2⟩
    · repeat' (first | go_values | go_skip | go_guarded | go_step | go_upon)
      go_ret
      exact ⟨rfl, B7.out⟩
    · have e1 := h1.out
      have e2 := h2.out
      simp only [Prod.mk.injEq] at e1 e2
      obtain ⟨_, rfl⟩ := e1
      obtain ⟨_, rfl⟩ := e2
      clear h1 h2
      repeat' (first | go_values | go_skip | go_guarded | go_step | go_upon)
      go_ret
      exact ⟨rfl, B7.out⟩
end Go.Proofs.Ytbomloodllddaaa
