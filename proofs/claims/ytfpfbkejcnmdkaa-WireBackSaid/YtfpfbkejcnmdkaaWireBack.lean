/- Walk: what is written, with any bytes ahead of it and behind it, is read again, up to its end. Conditions: the texts are of at most 2^47 bytes. -/
import Derived.Test.YtfpfbkejcnmdkaaWireBackSpec
import Derived.Test.YtfpfbkejcnmdkaaWireRefList
import Derived.Test.YtfpfbkejcnmdkaaWireLists
namespace Go.Proofs.Ytfpfbkejcnmdkaa
open Go.RowKit
theorem ba_app (a b : List UInt8) : (⟨a.toArray⟩ : ByteArray) ++ ⟨b.toArray⟩ = ⟨(a ++ b).toArray⟩ := by
  apply ByteArray.ext
  apply Array.ext'
  simp
theorem ba_of (s : ByteArray) : ∃ l : List UInt8, s = ⟨l.toArray⟩ := ⟨s.data.toList, by simp⟩
theorem ba_sz (l : List UInt8) : (⟨l.toArray⟩ : ByteArray).size = l.length := by simp [ByteArray.size]
theorem vputs_len (l : List Nat) (h : AllU64 l) (hl : U64 l.length) : (vputs l).length ≤ 10 + 10 * l.length := by
  have h1 := vput_len10 hl
  have h2 := flat_len l h
  unfold vputs
  rw [List.length_append]
  omega

set_option maxRecDepth 100000 in
set_option maxHeartbeats 2000000 in
theorem law_WireBack (w : World) (s0 : ByteArray) (z0 : s0.size ≤ 140737488351232) (s1 : ByteArray) (z1 : s1.size ≤ 140737488351232) (s2 : ByteArray) (z2 : s2.size ≤ 140737488351232) (n : Nat) (hn : U64 n) (k : Nat) (hk : U32 k)
    (a0 : Option Addr) (len cap : Nat) (zs : List Int) (hrow : IsRow .u64 w a0 len cap zs) (_hcap : cap * 8 ≤ 140737488351232) :
    Calls Try.prog 9 #[.string s0, .string s1, .string s2, .int .u64 n, .int .u32 k, .slice a0 len cap] w fun e w' => e = .returned (.bool true) ∧ Below w.heap.size w w' := by
  obtain ⟨l, hl, hlu, rfl⟩ := row_nats hrow
  have hrd := RdI.of_row hrow
  rw [hl] at hrd
  clear hrow hl
  obtain ⟨A, rfl⟩ := ba_of s0
  obtain ⟨B, rfl⟩ := ba_of s1
  obtain ⟨t, rfl⟩ := ba_of s2
  rw [ba_sz] at z0 z1 z2
  by_cases hbig : 20000 < l.length
  · go_enter Try.func9, Try.ntmps9
    repeat' (first | go_values | go_skip | go_guarded | go_step | go_upon)
    go_ret
    exact ⟨rfl, Below.refl _ _⟩
  have htu : U64 t.length := u64_small (by omega)
  have hlu' : U64 l.length := u64_small (by omega)
  have hl1 := vput_len10 hn
  have hl2 := vput_len10 htu
  have hl3 : (put4 k).length = 4 := rfl
  have hl4 := vputs_len l hlu hlu'
  have c1 := wire_Get ⟨(A ++ vput n ++ B).toArray⟩ (by rw [ba_sz]; simp; omega) A.length (i64_small (by omega))
  have c2 := wire_GetText ⟨(A ++ (vput t.length ++ t) ++ B).toArray⟩ (by rw [ba_sz]; simp; omega) A.length (i64_small (by omega)) t.length (i64_small (by omega))
  have c3 := wire_GetFour ⟨(A ++ put4 k ++ B).toArray⟩ (by rw [ba_sz]; simp; omega) A.length (i64_small (by omega))
  have c4 := wire_GetAll ⟨(A ++ vputs l ++ B).toArray⟩ (by rw [ba_sz]; simp; omega) A.length (i64_small (by omega)) l.length (i64_small (by omega)) (.inr (by omega))
  dsimp only at c1 c2 c3 c4
  rw [vget_back A B n hn] at c1
  rw [gett_back A t B htu] at c2
  rw [get4_back A B k hk] at c3
  rw [geta_back A B l hlu hlu'] at c4
  simp only [List.append_assoc, List.length_append, Int.natCast_add] at c1 c2 c3 c4
  have C1 := Lib.hid c1; clear c1
  have C2 := Lib.hid c2; clear c2
  have C3 := Lib.hid c3; clear c3
  have C4 := Lib.hid c4; clear c4
  have hap := ba_app
  have hl20 : l.length ≤ 20000 := by omega
  go_enter Try.func9, Try.ntmps9
  repeat' (first | go_values | go_skip | go_guarded | go_step | go_upon)
  refine Calls.mono (wire_Put n _ hn) ?_
  rintro _ w1 ⟨rfl, hb1⟩
  dsimp only
  repeat' (first | go_values | go_skip | go_guarded | go_step | go_upon)
  refine Calls.mono (C1.out _) ?_
  rintro _ _ ⟨rfl, rfl⟩
  dsimp only
  repeat' (first | go_values | go_skip | go_guarded | go_step | go_upon)
  refine Calls.mono (wire_PutText_l t (by omega) _) ?_
  rintro _ w2 ⟨rfl, hb2⟩
  dsimp only
  repeat' (first | go_values | go_skip | go_guarded | go_step | go_upon)
  refine Calls.mono (C2.out _) ?_
  rintro _ _ ⟨rfl, rfl⟩
  dsimp only
  repeat' (first | go_values | go_skip | go_guarded | go_step | go_upon)
  refine Calls.mono (wire_PutFour k _) ?_
  rintro _ w3 ⟨rfl, hb3⟩
  dsimp only
  repeat' (first | go_values | go_skip | go_guarded | go_step | go_upon)
  refine Calls.mono (C3.out _) ?_
  rintro _ _ ⟨rfl, rfl⟩
  dsimp only
  repeat' (first | go_values | go_skip | go_guarded | go_step | go_upon)
  have hb13 := (hb1.trans (hb2.mono hb1.size)).trans (hb3.mono (Nat.le_trans hb1.size hb2.size))
  refine Calls.mono (wire_PutAll _ l hlu (by omega) _ ((hrd.below hb13 (Nat.le_refl _)).mono hb13.size)) ?_
  rintro _ w4 ⟨rfl, hb4⟩
  dsimp only
  have hb14 := hb13.trans (hb4.mono hb13.size)
  repeat' (first | go_values | go_skip | go_guarded | go_step | go_upon)
  refine Calls.mono (C4.out _) ?_
  rintro _ w5 ⟨v5, rfl, hown5, hb5⟩
  dsimp only
  have hb15 := hb14.trans (hb5.mono hb14.size)
  repeat' (first | go_values | go_skip | go_guarded | go_step | go_upon)
  refine Calls.mono (ref_Like v5 _ (nats l) (OwnI.max hown5) _ _ _ (OwnI.rd hown5) (hrd.below hb15 (Nat.le_refl _))) ?_
  rintro _ w6 ⟨rfl, hb6⟩
  dsimp only
  repeat' (first | go_values | go_skip | go_guarded | go_step | go_upon)
  go_ret
  exact ⟨rfl, hb15.trans (hb6.mono hb15.size)⟩
end Go.Proofs.Ytfpfbkejcnmdkaa
