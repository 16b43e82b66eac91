/- Walk: a text of which bits within 32 are turned has another sum (SumBursts). Conditions: the text is of at most 2^47 bytes; the numbers are ints and of 32 bits. -/
import Derived.Test.YtpglhnbpdjnmhaaSumTurned
namespace Go.Proofs.Ytpglhnbpdjnmhaa
open Go.RowKit
theorem IsTurned.alike {s t : List UInt8} {k : Nat} (h : IsTurned s t k 32) (hk : k ≤ 8 * s.length) (c : Nat) (he : sumOn c s = sumOn c t) : s = t := by
  obtain ⟨h1, q, h2, h3⟩ := h
  exact burst h1.symm h2 h3 hk he
theorem ba_list (s : ByteArray) : ∃ l : List UInt8, s = ⟨l.toArray⟩ := ⟨s.data.toList, by apply ByteArray.ext; apply Array.ext'; simp⟩
/-- a bit's place: any int, made one that is not less than 0 -/
def place (a : Int) : Int := if a < 0 then -(a + 1) else a
set_option maxRecDepth 100000 in
set_option maxHeartbeats 400000 in
theorem law_SumBursts (s : ByteArray) (hs : s.size ≤ 140737488351232) (a : Int) (ha : I64 a) (p : Nat) (hp : U32 p) (w : World) :
    Calls Try.prog 4 #[.string s, .int .i64 a, .int .u32 p] w fun e w' => e = .returned (.bool true) ∧ Below w.heap.size w w' := by
  have hle := short_le s
  have h1 := law_short s hs w
  generalize short s = u at hle h1
  clear hs
  obtain ⟨l, rfl⟩ := ba_list u
  have hsz : (⟨l.toArray⟩ : ByteArray).size = l.length := rfl
  rw [hsz] at hle
  have ho := sum_Of ⟨l.toArray⟩ (by rw [hsz]; omega)
  have htol : (⟨l.toArray⟩ : ByteArray).data.toList = l := rfl
  rw [htol] at ho
  by_cases h0 : l.length = 0
  · obtain rfl : l = [] := List.eq_nil_of_length_eq_zero h0
    have e0 : sumOn 0 [] = 0 := by decide
    rw [e0] at ho
    clear htol hsz h0
    go_enter Try.func4, Try.ntmps4
    repeat' (first | go_values | go_skip | go_guarded | go_step | go_upon)
    refine Calls.mono (h1) ?_
    rintro _ _ ⟨rfl, rfl⟩
    dsimp only
    clear h1
    repeat' (first | go_values | go_skip | go_guarded | go_step | go_upon)
    refine Calls.mono (ho _) ?_
    rintro _ w1 ⟨rfl, hb1⟩
    dsimp only
    repeat' (first | go_values | go_skip | go_guarded | go_step | go_upon)
    go_ret
    exact ⟨rfl, hb1⟩
  have hpos : (0 : Int) < 8 * l.length := by omega
  obtain ⟨k, hk⟩ : ∃ k : Nat, k = (place a % (8 * l.length)).toNat := ⟨_, rfl⟩
  unfold I64 at ha
  have hpl : 0 ≤ place a ∧ place a ≤ 9223372036854775807 := by unfold place; split <;> omega
  have hk1 : place a % (8 * l.length) = (k : Int) := by rw [hk]; exact (Int.toNat_of_nonneg (Int.emod_nonneg _ (Int.ne_of_gt hpos))).symm
  have hk2 : k < 8 * l.length := by have := Int.emod_lt_of_pos (place a) hpos; rw [hk1] at this; omega
  have ht := ref_Turned ⟨l.toArray⟩ (by rw [hsz]; omega) k (by rw [hsz]; exact hk2) p hp
  rw [htol] at ht
  have h0' : ((l.length : Int) == 0) = false := beq_false_of_ne (by omega)
  have h8 : ((8 * (l.length : Int)) == 0) = false := beq_false_of_ne (by omega)
  have hneg : a < 0 → IntKind.i64.wrap (-(a + 1)) = -(a + 1) := fun h => wi64 (by unfold I64; omega)
  clear htol hsz
  by_cases hn : a < 0
  · have hw := hneg hn
    have hm : (-(a + 1)).tmod (8 * (l.length : Int)) = (k : Int) := by rw [Int.tmod_eq_emod_of_nonneg (show 0 ≤ -(a + 1) by omega), ← hk1]; unfold place; rw [if_pos hn]
    clear hneg hk hk1 hpl 
    go_enter Try.func4, Try.ntmps4
    repeat' (first | go_values | go_skip | go_guarded | go_step | go_upon)
    refine Calls.mono (h1) ?_
    rintro _ _ ⟨rfl, rfl⟩
    dsimp only
    clear h1
    repeat' (first | go_values | go_skip | go_guarded | go_step | go_upon)
    refine Calls.mono (ht _) ?_
    rintro _ w2 ⟨⟨t, rfl, htt⟩, hb2⟩
    dsimp only
    clear ht
    have htl : t.length = l.length := htt.1
    have ho2 := sum_Of ⟨t.toArray⟩ (by show t.length ≤ _; omega)
    have hal := IsTurned.alike htt (by omega) 0
    have htoa : (⟨t.toArray⟩ : ByteArray).data.toList = t := rfl
    rw [htoa] at ho2
    have hsame : l = t → sumOn 0 l = sumOn 0 t := fun h => by rw [h]
    generalize sumOn 0 l = x at ho hal hsame
    generalize sumOn 0 t = y at ho2 hal hsame
    clear htt htl
    repeat' (first | go_values | go_skip | go_guarded | go_step | go_upon)
    refine Calls.mono (ho _) ?_
    rintro _ w3 ⟨rfl, hb3⟩
    dsimp only
    repeat' (first | go_values | go_skip | go_guarded | go_step | go_upon)
    refine Calls.mono (ho2 _) ?_
    rintro _ w4 ⟨rfl, hb4⟩
    dsimp only
    by_cases hxy : x = y
    · have hut := hal hxy
      have e1 : (l == t) = true := by rw [hut]; simp
      have e2 : ((x : Int) == (y : Int)) = true := by rw [hxy]; simp
      clear hal hut hxy hsame ho ho2
      repeat' (first | go_values | go_skip | go_guarded | go_step | go_upon)
      go_ret
      exact ⟨rfl, (hb2.trans (hb3.mono hb2.size)).trans (hb4.mono (hb2.trans (hb3.mono hb2.size)).size)⟩
    · have hut : ¬ l = t := fun h => by
        exact hxy (hsame h)
      have e1 : (l == t) = false := by simpa using hut
      have e2 : ((x : Int) == (y : Int)) = false := by simp; omega
      clear hal hut hxy hsame ho ho2
      repeat' (first | go_values | go_skip | go_guarded | go_step | go_upon)
      go_ret
      exact ⟨rfl, (hb2.trans (hb3.mono hb2.size)).trans (hb4.mono (hb2.trans (hb3.mono hb2.size)).size)⟩
  · have hm : a.tmod (8 * (l.length : Int)) = (k : Int) := by rw [Int.tmod_eq_emod_of_nonneg (show 0 ≤ a by omega), ← hk1]; unfold place; rw [if_neg hn]
    clear hneg hk hk1 hpl 
    go_enter Try.func4, Try.ntmps4
    repeat' (first | go_values | go_skip | go_guarded | go_step | go_upon)
    refine Calls.mono (h1) ?_
    rintro _ _ ⟨rfl, rfl⟩
    dsimp only
    clear h1
    repeat' (first | go_values | go_skip | go_guarded | go_step | go_upon)
    refine Calls.mono (ht _) ?_
    rintro _ w2 ⟨⟨t, rfl, htt⟩, hb2⟩
    dsimp only
    clear ht
    have htl : t.length = l.length := htt.1
    have ho2 := sum_Of ⟨t.toArray⟩ (by show t.length ≤ _; omega)
    have hal := IsTurned.alike htt (by omega) 0
    have htoa : (⟨t.toArray⟩ : ByteArray).data.toList = t := rfl
    rw [htoa] at ho2
    have hsame : l = t → sumOn 0 l = sumOn 0 t := fun h => by rw [h]
    generalize sumOn 0 l = x at ho hal hsame
    generalize sumOn 0 t = y at ho2 hal hsame
    clear htt htl
    repeat' (first | go_values | go_skip | go_guarded | go_step | go_upon)
    refine Calls.mono (ho _) ?_
    rintro _ w3 ⟨rfl, hb3⟩
    dsimp only
    repeat' (first | go_values | go_skip | go_guarded | go_step | go_upon)
    refine Calls.mono (ho2 _) ?_
    rintro _ w4 ⟨rfl, hb4⟩
    dsimp only
    by_cases hxy : x = y
    · have hut := hal hxy
      have e1 : (l == t) = true := by rw [hut]; simp
      have e2 : ((x : Int) == (y : Int)) = true := by rw [hxy]; simp
      clear hal hut hxy hsame ho ho2
      repeat' (first | go_values | go_skip | go_guarded | go_step | go_upon)
      go_ret
      exact ⟨rfl, (hb2.trans (hb3.mono hb2.size)).trans (hb4.mono (hb2.trans (hb3.mono hb2.size)).size)⟩
    · have hut : ¬ l = t := fun h => by
        exact hxy (hsame h)
      have e1 : (l == t) = false := by simpa using hut
      have e2 : ((x : Int) == (y : Int)) = false := by simp; omega
      clear hal hut hxy hsame ho ho2
      repeat' (first | go_values | go_skip | go_guarded | go_step | go_upon)
      go_ret
      exact ⟨rfl, (hb2.trans (hb3.mono hb2.size)).trans (hb4.mono (hb2.trans (hb3.mono hb2.size)).size)⟩
end Go.Proofs.Ytpglhnbpdjnmhaa
