/- Plain laws: a set of bytes as a predicate, its four words. No conditions; no program. -/
import Derived.Test.YtnbfifmnigeolaaDoorSlices
namespace Go.Proofs.YtnbfifmnigeolaaDoor
/-- n bits of p, from base on, as a number -/
def wN (p : Nat → Bool) : Nat → Nat → Nat
  | _, 0 => 0
  | base, n + 1 => (p base).toNat + 2 * wN p (base + 1) n
theorem wN_half (p : Nat → Bool) (base n : Nat) : wN p base (n + 1) / 2 = wN p (base + 1) n := by
  rw [wN]; cases p base <;> simp <;> omega
theorem wN_bit (p : Nat → Bool) : ∀ (n base j : Nat), (wN p base n).testBit j = (decide (j < n) && p (base + j))
  | 0, base, j => by simp [wN]
  | n + 1, base, 0 => by
    rw [Nat.testBit_zero, wN]
    cases p base <;> simp <;> omega
  | n + 1, base, j + 1 => by
    rw [Nat.testBit_succ, wN_half, wN_bit p n (base + 1) j, show base + 1 + j = base + (j + 1) from by omega]
    simp
theorem wN_lt (p : Nat → Bool) : ∀ (n base : Nat), wN p base n < 2 ^ n
  | 0, _ => by simp [wN]
  | n + 1, base => by
    have := wN_lt p n (base + 1)
    rw [wN, Nat.pow_succ]
    cases p base <;> simp <;> omega
theorem exW (p : Nat → Bool) (i : Nat) : ∃ x : Nat, x < 18446744073709551616 ∧ ∀ j, x.testBit j = (decide (j < 64) && p (64 * i + j)) := ⟨wN p (64 * i) 64, wN_lt p 64 _, fun j => wN_bit p 64 _ j⟩
/-- the i-th word of a set (closed: Lean must not work it out) -/
noncomputable def W (p : Nat → Bool) (i : Nat) : Nat := Classical.choose (exW p i)
theorem W_lt (p : Nat → Bool) (i : Nat) : W p i < 18446744073709551616 := (Classical.choose_spec (exW p i)).1
theorem W_u64 (p : Nat → Bool) (i : Nat) : U64 (W p i) := W_lt p i
theorem W_bit (p : Nat → Bool) (i j : Nat) : (W p i).testBit j = (decide (j < 64) && p (64 * i + j)) := (Classical.choose_spec (exW p i)).2 j
theorem W_ext {p : Nat → Bool} {x i : Nat} (hx : U64 x) (h : ∀ j, j < 64 → x.testBit j = p (64 * i + j)) : x = W p i := by
  apply Nat.eq_of_testBit_eq
  intro j
  rw [W_bit]
  by_cases hj : j < 64
  · rw [h j hj]; simp [hj]
  · have : x < 2 ^ j := Nat.lt_of_lt_of_le (show x < 2 ^ 64 from hx) (Nat.pow_le_pow_right (by omega) (by omega))
    rw [Nat.testBit_lt_two_pow this]; simp [hj]
theorem W_congr {p q : Nat → Bool} (h : ∀ b, b < 256 → p b = q b) {i : Nat} (hi : i < 4) : W p i = W q i :=
  W_ext (W_u64 p i) fun j hj => by rw [W_bit, h _ (by omega)]; simp [hj]
theorem W_inj {p q : Nat → Bool} (h : ∀ i, i < 4 → W p i = W q i) (b : Nat) (hb : b < 256) : p b = q b := by
  have := congrArg (fun x => x.testBit (b % 64)) (h (b / 64) (by omega))
  simp only [W_bit] at this
  have h64 : 64 * (b / 64) + b % 64 = b := by omega
  rw [h64] at this
  simpa [Nat.mod_lt] using this
theorem W_or (p q : Nat → Bool) (i : Nat) : W p i ||| W q i = W (fun b => p b || q b) i :=
  W_ext (Nat.or_lt_two_pow (n := 64) (W_lt p i) (W_lt q i)) fun j hj => by rw [Nat.testBit_or, W_bit, W_bit]; simp [hj]
theorem W_and (p q : Nat → Bool) (i : Nat) : W p i &&& W q i = W (fun b => p b && q b) i :=
  W_ext (Nat.and_lt_two_pow (n := 64) _ (W_lt q i)) fun j hj => by rw [Nat.testBit_and, W_bit, W_bit]; simp [hj]
theorem W_not (p : Nat → Bool) (i : Nat) : 18446744073709551615 - W p i = W (fun b => !p b) i :=
  W_ext (by have := W_lt p i; unfold U64; omega) fun j hj => by
    rw [show 18446744073709551615 - W p i = 2 ^ 64 - (W p i + 1) from by omega, Nat.testBit_two_pow_sub_succ (W_lt p i), W_bit]; simp [hj]
theorem W_set (p : Nat → Bool) (b : Nat) : W p (b / 64) ||| 2 ^ (b % 64) = W (fun c => p c || c == b) (b / 64) :=
  W_ext (Nat.or_lt_two_pow (n := 64) (W_lt p _) (Nat.pow_lt_pow_right (by omega) (Nat.mod_lt _ (by omega)))) fun j hj => by
    rw [Nat.testBit_or, W_bit, Nat.testBit_two_pow]
    have : (64 * (b / 64) + j == b) = decide (b % 64 = j) := by rw [Bool.eq_iff_iff]; simp; omega
    rw [this]; simp [hj]
theorem W_keep (p : Nat → Bool) (b i : Nat) (h : i ≠ b / 64) : W (fun c => p c || c == b) i = W p i :=
  W_ext (W_u64 _ _) fun j hj => by
    rw [W_bit]
    have : (64 * i + j == b) = false := by simp; omega
    simp only [this]; simp [hj]
/-- four words, as a predicate -/
def ofW (a0 a1 a2 a3 : Nat) (b : Nat) : Bool := (match b / 64 with | 0 => a0 | 1 => a1 | 2 => a2 | _ => a3).testBit (b % 64)
theorem W_ofW0 {a0 : Nat} (a1 a2 a3 : Nat) (h : U64 a0) : a0 = W (ofW a0 a1 a2 a3) 0 := W_ext h fun j hj => by
  unfold ofW; rw [show (64 * 0 + j) / 64 = 0 from by omega, show (64 * 0 + j) % 64 = j from by omega]; rfl
theorem W_ofW1 (a0 : Nat) {a1 : Nat} (a2 a3 : Nat) (h : U64 a1) : a1 = W (ofW a0 a1 a2 a3) 1 := W_ext h fun j hj => by
  unfold ofW; rw [show (64 * 1 + j) / 64 = 1 from by omega, show (64 * 1 + j) % 64 = j from by omega]; rfl
theorem W_ofW2 (a0 a1 : Nat) {a2 : Nat} (a3 : Nat) (h : U64 a2) : a2 = W (ofW a0 a1 a2 a3) 2 := W_ext h fun j hj => by
  unfold ofW; rw [show (64 * 2 + j) / 64 = 2 from by omega, show (64 * 2 + j) % 64 = j from by omega]; rfl
theorem W_ofW3 (a0 a1 a2 : Nat) {a3 : Nat} (h : U64 a3) : a3 = W (ofW a0 a1 a2 a3) 3 := W_ext h fun j hj => by
  unfold ofW; rw [show (64 * 3 + j) / 64 = 3 from by omega, show (64 * 3 + j) % 64 = j from by omega]; rfl
theorem W_none (i : Nat) : W (fun _ => false) i = 0 := (W_ext (x := 0) (by unfold U64; omega) fun j hj => by simp).symm
/-- a set's bytes, of those below n, rising -/
def bytesTo (p : Nat → Bool) (n : Nat) : List Nat := (List.range n).filter p
theorem bytesTo_succ (p : Nat → Bool) (n : Nat) : bytesTo p (n + 1) = bytesTo p n ++ if p n then [n] else [] := by
  unfold bytesTo; rw [List.range_succ, List.filter_append]
  cases h : p n <;> simp [h]
theorem bytesTo_lt {p : Nat → Bool} {n b : Nat} (h : b ∈ bytesTo p n) : b < n := by
  unfold bytesTo at h; simp at h; exact h.1
theorem bytesTo_mem {p : Nat → Bool} {n b : Nat} (h : b < n) : (b ∈ bytesTo p n) ↔ p b = true := by
  unfold bytesTo; simp [h]
theorem bytesTo_length (p : Nat → Bool) (n : Nat) : (bytesTo p n).length ≤ n := by
  unfold bytesTo; exact Nat.le_trans (List.length_filter_le _ _) (by simp)
/-- a set as a value -/
noncomputable abbrev vS (p : Nat → Bool) : Value := .agg #[.int .u64 (W p 0 : Nat), .int .u64 (W p 1 : Nat), .int .u64 (W p 2 : Nat), .int .u64 (W p 3 : Nat)]
theorem vS_congr {p q : Nat → Bool} (h : ∀ b, b < 256 → p b = q b) : vS p = vS q := by
  unfold vS; rw [W_congr h (show 0 < 4 by omega), W_congr h (show 1 < 4 by omega), W_congr h (show 2 < 4 by omega), W_congr h (show 3 < 4 by omega)]
/-- a bit of a word, as the program asks for it -/
theorem W_ask (p : Nat → Bool) (b q k : Nat) (hq : q = b / 64) (hk : k = b % 64) : W p q / 2 ^ k % 2 = (p b).toNat := by
  subst hq hk
  have h := W_bit p (b / 64) (b % 64)
  rw [show 64 * (b / 64) + b % 64 = b from by omega] at h
  rw [Nat.testBit_eq_decide_div_mod_eq] at h
  have hm : b % 64 < 64 := Nat.mod_lt _ (by omega)
  cases hp : p b <;> rw [hp] at h <;> simp [hm] at h ⊢ <;> omega
end Go.Proofs.YtnbfifmnigeolaaDoor
