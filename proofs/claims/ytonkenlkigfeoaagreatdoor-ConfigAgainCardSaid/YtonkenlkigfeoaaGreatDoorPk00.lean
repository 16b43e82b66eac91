/- Ones of a word, counted as Go's math/bits does it (Bits.ones); the lowest one of a word (Bits.low_bit): in plain Lean. No program. -/
import Init
namespace Go.Proofs.YtonkenlkigfeoaaGreatDoor.Bits
/-- bytes to a number, the lowest first -/
def val : List Nat → Nat
 | [] => 0
 | b :: r => b + 256 * val r
/-- a byte after the first, the second, the third step -/
def s1 (b : Nat) : Nat := ((b / 2 ^ 1) &&& 85) + (b &&& 85)
def s2 (b : Nat) : Nat := ((b / 2 ^ 2) &&& 51) + (b &&& 51)
def s3 (b : Nat) : Nat := (b / 2 ^ 4 + b) % 16
def pc (b : Nat) : Nat := s3 (s2 (s1 b))
def bytes (x : Nat) : List Nat := [x % 256, x / 256 % 256, x / 65536 % 256, x / 16777216 % 256, x / 4294967296 % 256, x / 1099511627776 % 256, x / 281474976710656 % 256, x / 72057594037927936 % 256]
theorem bytes_lt (x : Nat) : ∀ b ∈ bytes x, b < 256 := by
 intro b hb; simp only [bytes, List.mem_cons, List.not_mem_nil, or_false] at hb; omega
/-- the first two steps -/
def f1 (x : Nat) : Nat := (x / 2 ^ 1 &&& 6148914691236517205) + (x &&& 6148914691236517205)
def f2 (x : Nat) : Nat := (x / 2 ^ 2 &&& 3689348814741910323) + (x &&& 3689348814741910323)
def f3 (x : Nat) : Nat := (x / 2 ^ 4 + x) &&& 1085102592571150095
/-- how many of the first n are so -/
def cnt (f : Nat → Bool) (n : Nat) : Nat := (List.range n).countP f
/-- what Go's steps make -/
def f4 (y : Nat) : Nat := y + y / 256
def f5 (y : Nat) : Nat := y + y / 65536
def f6 (y : Nat) : Nat := y + y / 4294967296
theorem odd_part : ∀ (n x : Nat), x ≤ n → x ≠ 0 → ∃ k m, x = 2 ^ k * m ∧ m % 2 = 1
 | 0, x, h, h0 => absurd (Nat.le_zero.1 h) h0
 | n + 1, x, h, h0 => by
   rcases Nat.mod_two_eq_zero_or_one x with h1 | h1
   · obtain ⟨k, m, hk, hm⟩ := odd_part n (x / 2) (by omega) (by omega); refine ⟨k + 1, m, ?_, hm⟩; rw [Nat.pow_succ, Nat.mul_assoc, Nat.mul_comm 2 m, ← Nat.mul_assoc, ← hk]; omega
   · exact ⟨0, x, by simp, h1⟩
/-- the lowest one of a number -/
theorem low_bit (x : Nat) (h : x < 2 ^ 64) (h0 : x ≠ 0) : ∃ k, k < 64 ∧ (∀ j, j < k → x.testBit j = false) ∧ x.testBit k = true ∧ x &&& (2 ^ 64 - x) = 2 ^ k ∧ ∀ j, (x &&& (x - 1)).testBit j = (x.testBit j && decide (j ≠ k)) := by
 obtain ⟨k, m, e, hm⟩ := odd_part x x (Nat.le_refl _) h0; have hx : ∀ j, x.testBit j = if j < k then false else m.testBit (j - k) := fun j => by
   have := Nat.testBit_two_pow_mul_add m (Nat.two_pow_pos k) j; rw [Nat.add_zero, ← e] at this; rw [this]; simp
 have hp := Nat.two_pow_pos k; have hm1 : m = (m - 1) + 1 := by omega
 have e1 : x - 1 = 2 ^ k * (m - 1) + (2 ^ k - 1) := by
   rw [e]; conv => lhs; rw [hm1]
   rw [Nat.mul_succ]; omega
 have hx1 : ∀ j, (x - 1).testBit j = if j < k then true else (m - 1).testBit (j - k) := fun j => by
   rw [e1, Nat.testBit_two_pow_mul_add (m - 1) (by omega) j]; split
   · rw [Nat.testBit_two_pow_sub_one]; simp [*]
   · rfl
 have hms : ∀ i, (m - 1).testBit (i + 1) = m.testBit (i + 1) := fun i => by
   rw [Nat.testBit_succ, Nat.testBit_succ, show (m - 1) / 2 = m / 2 by omega]
 have hm0 : m.testBit 0 = true := by rw [Nat.testBit_zero]; simp [hm]
 have hm10 : (m - 1).testBit 0 = false := by rw [Nat.testBit_zero]; simp; omega
 have hxk : x.testBit k = true := by rw [hx, if_neg (Nat.lt_irrefl _), Nat.sub_self, hm0]
 have hk : k < 64 := by
   rcases Nat.lt_or_ge k 64 with hk | hk
   · exact hk
   · rw [Nat.testBit_lt_two_pow (Nat.lt_of_lt_of_le h (Nat.pow_le_pow_right (by omega) hk))] at hxk
     cases hxk
 refine ⟨k, hk, fun j hj => by rw [hx, if_pos hj], hxk, ?_, fun j => ?_⟩
 · apply Nat.eq_of_testBit_eq; intro j; have hs := Nat.testBit_two_pow_sub_succ (x := x - 1) (n := 64) (by omega) j; rw [show x - 1 + 1 = x by omega] at hs; rw [Nat.testBit_and, hs, hx, hx1, Nat.testBit_two_pow]
   by_cases hj : j < k
   · simp [hj]; omega
   · rw [if_neg hj, if_neg hj]
     by_cases hjk : j = k
     · subst hjk; rw [Nat.sub_self, hm0, hm10]; simp [hk]
     · obtain ⟨i, hi⟩ : ∃ i, j - k = i + 1 := ⟨j - k - 1, by omega⟩; rw [hi, hms]; have : ¬ k = j := fun e => hjk e.symm
       simp [this]
       cases m.testBit (i + 1) <;> simp
 · rw [Nat.testBit_and, hx, hx1]
   by_cases hj : j < k
   · simp [hj]
   · rw [if_neg hj, if_neg hj]
     by_cases hjk : j = k
     · subst hjk; rw [Nat.sub_self, hm10]; simp
     · obtain ⟨i, hi⟩ : ∃ i, j - k = i + 1 := ⟨j - k - 1, by omega⟩; rw [hi, hms]
       simp [hjk]
end Go.Proofs.YtonkenlkigfeoaaGreatDoor.Bits
