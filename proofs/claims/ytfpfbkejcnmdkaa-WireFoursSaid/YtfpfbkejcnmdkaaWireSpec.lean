/- Numbers as bytes, in plain Lean: no program in sight. -/
import Derived.Test.YtfpfbkejcnmdkaaBase
namespace Go.Proofs.Ytfpfbkejcnmdkaa

/-- how a number is written -/
def vput (n : Nat) : List UInt8 :=
  if n < 128 then [u8 n] else u8 (n % 128 + 128) :: vput (n / 128)
  termination_by n
  decreasing_by omega

theorem vput_lt {n : Nat} (h : n < 128) : vput n = [u8 n] := by rw [vput, if_pos h]
theorem vput_ge {n : Nat} (h : 128 ≤ n) : vput n = u8 (n % 128 + 128) :: vput (n / 128) := by rw [vput, if_neg (by omega)]

theorem vput_len (k : Nat) : ∀ n : Nat, n < 128 ^ (k + 1) → (vput n).length ≤ k + 1 := by
  induction k with
  | zero => intro n h; rw [vput_lt (by simpa using h)]; simp
  | succ k ih =>
    intro n h
    by_cases h1 : n < 128
    · rw [vput_lt h1]; simp
    · rw [vput_ge (by omega)]
      have := ih (n / 128) (by rw [Nat.div_lt_iff_lt_mul (by decide)]; rwa [Nat.pow_succ] at h)
      simp; omega
theorem vput_len10 {n : Nat} (h : U64 n) : (vput n).length ≤ 10 := vput_len 9 n (Nat.lt_trans h (by decide))
theorem vput_pos (n : Nat) : 1 ≤ (vput n).length := by rw [vput]; split <;> simp

theorem bit_or128 (m : Nat) : u8 (bits .or .u8 ((m : Int) % 256) 128).toNat = u8 (m % 128 + 128) := by
  have h := u8_or_nat (m % 256) 128 (by omega) (by decide)
  rw [show ((m % 256 : Nat) : Int) = (m : Int) % 256 from by omega] at h
  rw [show ((128 : Nat) : Int) = 128 from rfl] at h
  rw [h]
  have : (m % 256 ||| 128) = m % 128 + 128 := by
    have : ∀ x : Fin 256, (x.val ||| 128) = x.val % 128 + 128 := by decide +kernel
    have := this ⟨m % 256, by omega⟩
    simp at this
    omega
  rw [this]
  exact u8_congr (by omega)
end Go.Proofs.Ytfpfbkejcnmdkaa
