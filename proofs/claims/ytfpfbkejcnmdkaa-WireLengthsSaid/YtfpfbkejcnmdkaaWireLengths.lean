/- Walk: greater numbers are written no shorter, each with a byte for every seven bits. Condition: both are of 64 bits. -/
import Derived.Test.YtfpfbkejcnmdkaaWirePut
namespace Go.Proofs.Ytfpfbkejcnmdkaa
open Go.RowKit
theorem vput_mono (k : Nat) : ∀ a b : Nat, b < k → a ≤ b → (vput a).length ≤ (vput b).length := by
  induction k with
  | zero => intro a b h; omega
  | succ k ih =>
    intro a b hb h
    by_cases h1 : a < 128
    · rw [vput_lt h1]; exact vput_pos b
    · rw [vput_ge (by omega), vput_ge (n := b) (by omega)]
      have := ih (a / 128) (b / 128) (by omega) (by omega)
      simp; omega
/-- what the law's loop still adds -/
def more (k : Nat) : Nat := if k = 0 then 0 else (vput k).length
theorem more_zero : more 0 = 0 := rfl
theorem more_div (k : Nat) (h : 0 < k) : more k = more (k / 128) + 1 := by
  unfold more
  rw [if_neg (by omega)]
  split
  · rw [vput_lt (by omega)]; simp
  · rw [vput_ge (by omega)]; simp
theorem len_more (k : Nat) : (vput k).length = 1 + more (k / 128) := by
  by_cases h : k = 0
  · subst h; rw [vput_lt (by decide)]; rfl
  · have := more_div k (by omega)
    unfold more at this ⊢
    rw [if_neg h] at this
    omega

set_option maxRecDepth 100000 in
set_option maxHeartbeats 400000 in
theorem law_WireLengths (a : Nat) (ha : U64 a) (b : Nat) (hb : U64 b) (w : World) :
    Calls Try.prog 3 #[.int .u64 a, .int .u64 b] w fun e w' => e = .returned (.bool true) ∧ Below w.heap.size w w' := by
  obtain ⟨x, hx⟩ : ∃ x : Nat, x = max a b := ⟨_, rfl⟩
  have hxu : U64 x := by unfold U64 at *; omega
  have hm1 := vput_mono (x + 1) (min a b) x (by omega) (by omega)
  have hm2 := vput_pos (min a b)
  have hm3 := vput_len10 hxu
  have hm4 := len_more x
  have hwx : IntKind.u64.wrap ((x : Int) / 128) = (x : Int) / 128 := wu64 (by omega) (hxu.le (by omega))
  have hmoreu : ∀ k : Nat, k ≤ x → IntKind.u64.wrap ((k : Int) / 128) = (k : Int) / 128 := fun k hk => wu64 (by omega) (hxu.le (by omega))
  have Hwx := Lib.hid hwx; clear hwx
  have Hmu := Lib.hid hmoreu; clear hmoreu
  have Hm := Lib.hid hm4; clear hm4
  have Hm1 := Lib.hid hm1; clear hm1
  have Hx := Lib.hid hx; clear hx
  rcases Nat.lt_trichotomy a b with h | h | h
  all_goals
    first
      | (have e1 : x = b := by rw [Hx.out]; omega
         have e2 : min a b = a := by omega
         subst e1)
      | (have e1 : x = a := by rw [Hx.out]; omega
         have e2 : min a b = b := by omega
         subst e1)
    rw [e2] at Hm1 hm2
    clear e2 Hx
    try subst a
    go_enter Try.func3, Try.ntmps3
    repeat' (first | go_values | go_skip | go_guarded | go_step | go_upon)
    refine Calls.mono (wire_Put _ _ (by assumption)) ?_
    rintro _ w1 ⟨rfl, hb1⟩
    dsimp only
    repeat' (first | go_values | go_skip | go_guarded | go_step | go_upon)
    refine Calls.mono (wire_Put _ _ (by assumption)) ?_
    rintro _ w2 ⟨rfl, hb2⟩
    dsimp only
    have hwx := Hwx.out
    repeat' (first | go_values | go_skip | go_guarded | go_step | go_upon)
    clear hwx
    go_loop [7, 8] (fun s7 s8 => ∃ n k : Nat, s7 = .int .i64 n ∧ s8 = .int .u64 k ∧ k ≤ x ∧ n + more k = (vput x).length) (fun _ s => (intOf s).toNat)
    case atStart => exact ⟨1, x / 128, rfl, by go_num, by omega, Hm.out.symm⟩
    case round =>
      obtain ⟨n, k, rfl, rfl, hk, hn⟩ := hrel
      have Hn := Lib.hid hn; clear hn
      have hn10 : n ≤ 10 := by have := Hn.out; omega
      by_cases h0 : 0 < k
      · have hmu := Hmu.out k hk
        repeat' (first | go_values | go_skip | go_guarded | go_step | go_upon)
        go_round
        case rel =>
          have := more_div k h0
          exact ⟨n + 1, k / 128, by go_num, by go_num, by omega, by rw [← Hn.out, this]; omega⟩
        case measure => simp [intOf]; omega
      · have hk0 : k = 0 := by omega
        subst hk0
        have hn : (vput x).length = n := by rw [← Hn.out, more_zero]; rfl
        rw [hn] at Hm1
        have h1 := Hm1.out
        repeat' (first | go_values | go_skip | go_guarded | go_step | go_upon)
        go_ret
        refine ⟨ret_b ?_, (hb1.trans (hb2.mono hb1.size))⟩
        simp; omega
end Go.Proofs.Ytfpfbkejcnmdkaa
