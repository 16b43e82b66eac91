/- Walk: any list of numbers is written, and read from any bytes, or refused. Conditions: the text and the list are of at most 2^20 bytes and numbers. -/
import Derived.Test.YtfpfbkejcnmdkaaWireRefList
import Derived.Test.YtfpfbkejcnmdkaaWirePutAll
namespace Go.Proofs.Ytfpfbkejcnmdkaa
open Go.RowKit
theorem row_nats {w : World} {a : Option Addr} {len cap : Nat} {zs : List Int} (h : IsRow .u64 w a len cap zs) : ∃ l : List Nat, zs.take len = nats l ∧ AllU64 l ∧ l.length = len := by
  rcases h with ⟨rfl, rfl, rfl, rfl⟩ | ⟨x, rfl, hl, hm, hz, hc, hw⟩
  · exact ⟨[], rfl, fun n hn => by simp at hn, rfl⟩
  · refine ⟨(zs.take len).map Int.toNat, ?_, fun n hn => ?_, by simp; omega⟩
    · unfold nats
      rw [List.map_map]
      have : ∀ z ∈ zs.take len, ((fun n : Nat => (n : Int)) ∘ Int.toNat) z = z := fun z hz => by
        obtain ⟨n, hn, _⟩ := nat_u64 (hw z (List.mem_of_mem_take hz))
        simp [hn]
      rw [List.map_congr_left this]
      simp
    · obtain ⟨z, hz, rfl⟩ := List.mem_map.1 hn
      obtain ⟨m, hm, hu⟩ := nat_u64 (hw z (List.mem_of_mem_take hz))
      rw [hm, Int.toNat_natCast]
      exact hu
set_option maxRecDepth 100000 in
set_option maxHeartbeats 1000000 in
theorem law_WireLists (w : World) (a0 : Option Addr) (len cap : Nat) (zs : List Int) (hrow : IsRow .u64 w a0 len cap zs) (hcap : cap ≤ 1048576) (s : ByteArray) (hs : s.size ≤ 1048576) (a : Int) (ha : I64 a) (m : Int) (hm : I64 m) :
    Calls Try.prog 7 #[.slice a0 len cap, .string s, .int .i64 a, .int .i64 m] w fun e w' => e = .returned (.bool true) ∧ Below w.heap.size w w' := by
  obtain ⟨l, hl, hlu, hlen⟩ := row_nats hrow
  have hrd := RdI.of_row hrow
  rw [hl] at hrd
  have hc1 := wire_GetAll s (by omega) a ha m hm (.inl (by omega))
  have hc2 := ref_GetAll s (by omega) a ha m hm (.inl (by omega))
  obtain ⟨r, hr⟩ : ∃ r, r = geta s.data.toList a m := ⟨_, rfl⟩
  rw [← hr] at hc1 hc2
  clear hr
  have Hc1 := Lib.hid hc1; clear hc1
  have Hc2 := Lib.hid hc2; clear hc2
  have hlc : len ≤ cap := by rcases hrow with ⟨rfl, rfl, rfl, rfl⟩ | ⟨x, rfl, hl, _⟩ <;> omega
  clear hrow hl
  have Hlen := Lib.hid hlen
  by_cases h2 : 20000 < len
  · go_enter Try.func7, Try.ntmps7
    repeat' (first | go_values | go_skip | go_guarded | go_step | go_upon)
    refine Calls.mono (Hc1.out _) ?_
    rintro _ w1 ⟨v1, rfl, hown1, hb1⟩
    dsimp only
    repeat' (first | go_values | go_skip | go_guarded | go_step | go_upon)
    refine Calls.mono (Hc2.out _) ?_
    rintro _ w2 ⟨v2, rfl, hown2, hb2⟩
    dsimp only
    repeat' (first | go_values | go_skip | go_guarded | go_step | go_upon)
    refine Calls.mono (ref_Like v1 v2 (nats r.1) (OwnI.max hown1) _ _ _ ((OwnI.rd hown1).below hb2 (Nat.le_refl _)) (OwnI.rd hown2)) ?_
    rintro _ w3 ⟨rfl, hb3⟩
    dsimp only
    repeat' (first | go_values | go_skip | go_guarded | go_step | go_upon)
    go_ret
    exact ⟨rfl, (hb1.trans (hb2.mono hb1.size)).trans (hb3.mono (Nat.le_trans hb1.size hb2.size))⟩
  · go_enter Try.func7, Try.ntmps7
    repeat' (first | go_values | go_skip | go_guarded | go_step | go_upon)
    refine Calls.mono (Hc1.out _) ?_
    rintro _ w1 ⟨v1, rfl, hown1, hb1⟩
    dsimp only
    repeat' (first | go_values | go_skip | go_guarded | go_step | go_upon)
    refine Calls.mono (Hc2.out _) ?_
    rintro _ w2 ⟨v2, rfl, hown2, hb2⟩
    dsimp only
    have hb12 := hb1.trans (hb2.mono hb1.size)
    repeat' (first | go_values | go_skip | go_guarded | go_step | go_upon)
    refine Calls.mono (wire_PutAll _ l hlu (by omega) _ ((hrd.below hb12 (Nat.le_refl _)).mono hb12.size)) ?_
    rintro _ w3 ⟨rfl, hb3⟩
    dsimp only
    have hb13 := hb12.trans (hb3.mono hb12.size)
    repeat' (first | go_values | go_skip | go_guarded | go_step | go_upon)
    refine Calls.mono (ref_PutAll _ l hlu (by omega) _ ((hrd.below hb13 (Nat.le_refl _)).mono hb13.size)) ?_
    rintro _ w4 ⟨rfl, hb4⟩
    dsimp only
    have hb14 := hb13.trans (hb4.mono hb13.size)
    have hb24 := hb3.trans (hb4.mono hb3.size)
    repeat' (first | go_values | go_skip | go_guarded | go_step | go_upon)
    refine Calls.mono (ref_Like v1 v2 (nats r.1) (OwnI.max hown1) _ _ _ (((OwnI.rd hown1).below hb2 (Nat.le_refl _)).below hb24 hb2.size) ((OwnI.rd hown2).below hb24 (Nat.le_refl _))) ?_
    rintro _ w5 ⟨rfl, hb5⟩
    dsimp only
    repeat' (first | go_values | go_skip | go_guarded | go_step | go_upon)
    go_ret
    exact ⟨rfl, hb14.trans (hb5.mono hb14.size)⟩
end Go.Proofs.Ytfpfbkejcnmdkaa
