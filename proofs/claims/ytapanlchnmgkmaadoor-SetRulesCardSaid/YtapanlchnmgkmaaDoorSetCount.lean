/- Walk: how many bytes a set has (set.Count). No conditions. -/
import Derived.Test.YtapanlchnmgkmaaDoorSetOnes
namespace Go.Proofs.YtapanlchnmgkmaaDoor
open Go.RowKit Bits
theorem idx_word (cs : Array Value) (k : Nat) (i : Int) (hi : i = k) (hk : k < 4) (v : Value) (hv : cs[k]? = some v) (w : World) : (Instr.index 23 (.agg cs) (.int .i64 i)).run Tryd.prog w = .ok v w := by
  subst hi
  have hn : (0 : Int) ≤ k ∧ (k : Int) < (4 : Nat) := by omega
  simp [Instr.index, run_underlying Tryd.underlying23, asIntOf, hn, go_sem, Tryd.sizeOf22, part, Tryd.isAgg22, hv]
  intro h4; omega
theorem cnt_word (p : Nat → Bool) (k : Nat) : cnt (W p k).testBit 64 = cnt (fun j => p (64 * k + j)) 64 := cnt_congr fun j hj => by rw [W_bit]; simp [hj]
theorem cnt_le (f : Nat → Bool) (n : Nat) : cnt f n ≤ n := by unfold cnt; have := List.countP_le_length (p := f) (l := List.range n); rw [List.length_range] at this; exact this
set_option maxRecDepth 100000 in
set_option maxHeartbeats 1000000 in
theorem set_Count (p : Nat → Bool) (w : World) :
    Calls Tryd.prog 11 #[vS p] w fun e w' => e = .returned (.int .i64 (cnt p 256 : Nat)) ∧ Below w.heap.size w w' := by
  have HO := Lib.hid fun k w => bits_OnesCount64 (W p k) (W_u64 p k) w
  have HC : Hid (∀ k, cnt p (64 * (k + 1)) = cnt p (64 * k) + cnt (W p k).testBit 64) := Lib.hid fun k => by rw [cnt_word, show 64 * (k + 1) = 64 * k + 64 by omega, cnt_add]
  go_enter Tryd.func11, Tryd.ntmps11
  repeat' (first | go_values | go_skip | go_guarded | go_step | go_upon)
  go_loop [3, 8] (fun s3 s8 => ∃ k : Nat, s8 = .int .i64 k ∧ k ≤ 4 ∧ s3 = .int .i64 (cnt p (64 * k) : Nat)) (fun _ s8 => (4 - intOf s8).toNat)
  case atStart => exact ⟨0, rfl, by omega, rfl⟩
  case round =>
    obtain ⟨k, rfl, hk, rfl⟩ := hrel
    have hle := cnt_le p (64 * k)
    have hle2 := cnt_le (W p k).testBit 64
    have hc := Lib.hid (HC.out k)
    have hle' : ((cnt (W p k).testBit 64 : Nat) : Int) ≤ 64 := by omega
    obtain ⟨n, hn⟩ : ∃ n, n = cnt p (64 * k) := ⟨_, rfl⟩
    rw [← hn] at hle hc ⊢
    have Hn := Lib.hid hn
    clear hn
    by_cases h4 : k = 4
    · subst h4
      repeat' (first | go_values | go_skip | go_guarded | go_step | go_upon)
      go_ret
      exact ⟨by rw [Hn.out]; rfl, (Below.refl _ _).alloc (Nat.le_refl _) _⟩
    · have ho := Lib.hid (HO.out k)
      have hk' : k < 4 := by omega
      obtain ⟨m, hm⟩ : ∃ m, m = cnt (W p k).testBit 64 := ⟨_, rfl⟩
      rw [← hm] at hle2 hc ho
      clear hm hle'
      have j0 := fun w => idx_word (sc p) 0 0 rfl (by decide) (.int .u64 (W p 0 : Nat)) rfl w
      have j1 := fun w => idx_word (sc p) 1 1 rfl (by decide) (.int .u64 (W p 1 : Nat)) rfl w
      have j2 := fun w => idx_word (sc p) 2 2 rfl (by decide) (.int .u64 (W p 2 : Nat)) rfl w
      have j3 := fun w => idx_word (sc p) 3 3 rfl (by decide) (.int .u64 (W p 3 : Nat)) rfl w
      simp only [sc] at j0 j1 j2 j3
      obtain ⟨k1, hk1, hk4⟩ : ∃ k1, k1 = k + 1 ∧ k1 ≤ 4 := ⟨k + 1, rfl, by omega⟩
      have Hk1 := Lib.hid hk1
      clear hk1
      rcases (by omega : k = 0 ∨ k = 1 ∨ k = 2 ∨ k = 3) with rfl | rfl | rfl | rfl
      all_goals
        repeat' (first | go_values | go_skip | go_guarded | go_step | go_upon)
        refine Calls.mono (ho.out _) ?_
        rintro _ w1 ⟨rfl, rfl⟩
        dsimp only
        repeat' (first | go_values | go_skip | go_guarded | go_step | go_upon)
        go_round
        case rel => exact ⟨k1, by rw [Hk1.out]; rfl, hk4, by rw [Hk1.out, hc.out]; simp⟩
        case measure => simp [intOf]
end Go.Proofs.YtapanlchnmgkmaaDoor
