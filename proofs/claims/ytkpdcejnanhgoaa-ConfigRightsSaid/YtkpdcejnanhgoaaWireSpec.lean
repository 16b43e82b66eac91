/- Numbers as bytes, in plain Lean: no program in sight. -/
import Derived.Test.YtkpdcejnanhgoaaBase
namespace Go.Proofs.Ytkpdcejnanhgoaa

/-- how a number is written -/
def vput (n : Nat) : List UInt8 :=
  if n < 128 then [u8 n] else u8 (n % 128 + 128) :: vput (n / 128)
  termination_by n
  decreasing_by omega

theorem vput_lt {n : Nat} (h : n < 128) : vput n = [u8 n] := by rw [vput, if_pos h]
theorem vput_ge {n : Nat} (h : 128 ≤ n) : vput n = u8 (n % 128 + 128) :: vput (n / 128) := by rw [vput, if_neg (by omega)]

theorem vput_len (k : Nat) : ∀ n : Nat, n < 128 ^ (k + 1) → (vput n).length ≤ k + 1 := by
  induction k with
  | zero => intro n h; rw [vput_lt (by simpa using h)]; simp
  | succ k ih =>
    intro n h
    by_cases h1 : n < 128
    · rw [vput_lt h1]; simp
    · rw [vput_ge (by omega)]
      have := ih (n / 128) (by rw [Nat.div_lt_iff_lt_mul (by decide)]; rwa [Nat.pow_succ] at h)
      simp; omega
theorem vput_len10 {n : Nat} (h : U64 n) : (vput n).length ≤ 10 := vput_len 9 n (Nat.lt_trans h (by decide))
theorem vput_pos (n : Nat) : 1 ≤ (vput n).length := by rw [vput]; split <;> simp

theorem bit_or128 (m : Nat) : u8 (bits .or .u8 ((m : Int) % 256) 128).toNat = u8 (m % 128 + 128) := by
  have h := u8_or_nat (m % 256) 128 (by omega) (by decide)
  rw [show ((m % 256 : Nat) : Int) = (m : Int) % 256 from by omega] at h
  rw [show ((128 : Nat) : Int) = 128 from rfl] at h
  rw [h]
  have : (m % 256 ||| 128) = m % 128 + 128 := by
    have : ∀ x : Fin 256, (x.val ||| 128) = x.val % 128 + 128 := by decide +kernel
    have := this ⟨m % 256, by omega⟩
    simp at this
    omega
  rw [this]
  exact u8_congr (by omega)

def p64 : Nat := 18446744073709551616
theorem u64_p64 {n : Nat} : U64 n ↔ n < p64 := Iff.rfl
/-- the digits of k bytes from a place on -/
def dsum (t : List UInt8) (a : Nat) : Nat → Nat
  | 0 => 0
  | k + 1 => dsum t a k + at8 t (a + k) % 128 * 2 ^ (7 * k)
theorem dsum_lt (t : List UInt8) (a : Nat) : ∀ k, dsum t a k < 2 ^ (7 * k)
  | 0 => by simp [dsum]
  | k + 1 => by
    have h := dsum_lt t a k
    have e : 2 ^ (7 * (k + 1)) = 128 * 2 ^ (7 * k) := by rw [show 7 * (k + 1) = 7 * k + 7 from by omega, Nat.pow_add]; simp [Nat.mul_comm]
    rw [dsum, e]
    have : at8 t (a + k) % 128 * 2 ^ (7 * k) ≤ 127 * 2 ^ (7 * k) := Nat.mul_le_mul_right _ (by omega)
    omega
theorem dsum_shift (t : List UInt8) (a : Nat) : ∀ k, dsum t a (k + 1) = at8 t a % 128 + 128 * dsum t (a + 1) k
  | 0 => by simp [dsum]
  | k + 1 => by
    rw [dsum, dsum_shift t a k, dsum]
    have e : 2 ^ (7 * (k + 1)) = 128 * 2 ^ (7 * k) := by rw [show 7 * (k + 1) = 7 * k + 7 from by omega, Nat.pow_add]; simp [Nat.mul_comm]
    rw [e, show a + 1 + k = a + (k + 1) from by omega, Nat.mul_add, Nat.mul_left_comm]
    omega
/-- the first k bytes from a place on are there, and go on -/
def Lead (t : List UInt8) (a k : Nat) : Prop := ∀ i, i < k → a + i < t.length ∧ 128 ≤ at8 t (a + i)
theorem Lead.zero (t : List UInt8) (a : Nat) : Lead t a 0 := fun i h => by omega
theorem Lead.succ {t : List UInt8} {a k : Nat} (h : Lead t a k) (h1 : a + k < t.length) (h2 : 128 ≤ at8 t (a + k)) : Lead t a (k + 1) := fun i hi => by
  by_cases e : i = k
  · subst e; exact ⟨h1, h2⟩
  · exact h i (by omega)
def lead (t : List UInt8) (a : Nat) : Nat → Nat
  | 0 => 0
  | k + 1 => if lead t a k = k ∧ a + k < t.length ∧ 128 ≤ at8 t (a + k) then k + 1 else lead t a k
theorem lead_all {t : List UInt8} {a k : Nat} (h : Lead t a k) : ∀ j, j ≤ k → lead t a j = j
  | 0, _ => rfl
  | j + 1, hj => by
    have := h j (by omega)
    rw [lead, if_pos ⟨lead_all h j (by omega), this⟩]
theorem lead_stop {t : List UInt8} {a k : Nat} (h : Lead t a k) (hs : ¬ (a + k < t.length ∧ 128 ≤ at8 t (a + k))) : ∀ j, lead t a (k + j) = k
  | 0 => lead_all h k (Nat.le_refl _)
  | j + 1 => by
    have ih := lead_stop h hs j
    rw [← Nat.add_assoc, lead, ih, if_neg]
    rintro ⟨h1, h2⟩
    obtain rfl : j = 0 := by omega
    exact hs h2

/-- what Get tells: the number, the place behind it, the error -/
def vget (t : List UInt8) (a : Int) : Nat × Int × Int :=
  if a < 0 ∨ (t.length : Int) < a then (0, 0, 1) else
  if lead t a.toNat 10 = 10 then (0, 0, 21) else
  if a.toNat + lead t a.toNat 10 = t.length then (0, 0, 20) else
  if vput (dsum t a.toNat (lead t a.toNat 10 + 1) % p64) = (t.drop a.toNat).take (lead t a.toNat 10 + 1) then (dsum t a.toNat (lead t a.toNat 10 + 1) % p64, (a.toNat : Int) + lead t a.toNat 10 + 1, 0) else (0, 0, 21)

theorem vget_arg {t : List UInt8} {a : Int} (h : a < 0 ∨ (t.length : Int) < a) : vget t a = (0, 0, 1) := if_pos h
theorem vget_short {t : List UInt8} {a k : Nat} (h : Lead t a k) (hk : k < 10) (he : a + k = t.length) : vget t a = (0, 0, 20) := by
  have hl : lead t a 10 = k := by have := lead_stop h (by omega) (10 - k); rwa [show k + (10 - k) = 10 from by omega] at this
  unfold vget
  rw [if_neg (by omega), Int.toNat_natCast, hl, if_neg (by omega), if_pos he]
theorem vget_ten {t : List UInt8} {a : Nat} (h : Lead t a 10) : vget t a = (0, 0, 21) := by
  have hl : lead t a 10 = 10 := lead_all h 10 (Nat.le_refl _)
  have := h 0 (by omega)
  unfold vget
  rw [if_neg (by omega), Int.toNat_natCast, if_pos hl]
theorem vget_at {t : List UInt8} {a k : Nat} (h : Lead t a k) (hk : k < 10) (he : a + k < t.length) (hc : at8 t (a + k) < 128) :
    vget t a = if vput (dsum t a (k + 1) % p64) = (t.drop a).take (k + 1) then (dsum t a (k + 1) % p64, (a : Int) + k + 1, 0) else (0, 0, 21) := by
  have hl : lead t a 10 = k := by have := lead_stop h (by omega) (10 - k); rwa [show k + (10 - k) = 10 from by omega] at this
  unfold vget
  rw [if_neg (by omega), Int.toNat_natCast, hl, if_neg (by omega), if_neg (by omega)]

theorem drop_at8 {t : List UInt8} {a : Nat} (h : a < t.length) : t.drop a = u8 (at8 t a) :: t.drop (a + 1) := by
  rw [List.drop_eq_getElem_cons h]
  congr 1
  unfold at8
  rw [List.getD_eq_getElem?_getD, List.getElem?_eq_getElem h]
  exact (u8_self _).symm
/-- digits that end as they must are written as they stand -/
theorem vput_dsum {t : List UInt8} : ∀ {k a : Nat}, Lead t a k → a + k < t.length → at8 t (a + k) < 128 → (at8 t (a + k) ≠ 0 ∨ k = 0) → vput (dsum t a (k + 1)) = (t.drop a).take (k + 1)
  | 0, a, _, he, hc, _ => by
    have e : dsum t a (0 + 1) = at8 t a := by simp only [dsum, Nat.mul_zero, Nat.add_zero] at *; omega
    rw [e, vput_lt (by simpa using hc), drop_at8 (by simpa using he)]
    simp
  | k + 1, a, h, he, hc, hz => by
    have h0 := h 0 (by omega)
    have hne : at8 t (a + (k + 1)) ≠ 0 := by omega
    have ih := vput_dsum (k := k) (a := a + 1) (fun i hi => by have := h (i + 1) (by omega); rwa [show a + (i + 1) = a + 1 + i from by omega] at this) (by omega)
      (by rwa [show a + 1 + k = a + (k + 1) from by omega]) (.inl (by rwa [show a + 1 + k = a + (k + 1) from by omega]))
    have hb := at8_lt t a
    have hpos : 1 ≤ dsum t (a + 1) (k + 1) := by
      rw [dsum, show a + 1 + k = a + (k + 1) from by omega]
      have : 1 ≤ at8 t (a + (k + 1)) % 128 * 2 ^ (7 * k) := Nat.mul_pos (by omega) (Nat.two_pow_pos _)
      omega
    rw [Nat.add_zero] at h0
    rw [dsum_shift, vput_ge (by omega), drop_at8 (by omega), List.take_succ_cons]
    congr 1
    · exact u8_congr (by omega)
    · rw [← ih]; congr 1; omega
/-- what is written, read off its bytes -/
theorem dsum_vput {t : List UInt8} : ∀ {k a n : Nat}, a + k < t.length → vput n = (t.drop a).take (k + 1) → dsum t a (k + 1) = n ∧ (k = 0 ∨ at8 t (a + k) ≠ 0)
  | 0, a, n, he, h => by
    rw [drop_at8 (by omega)] at h
    have hn : n < 128 := by
      have := congrArg List.length h
      by_cases hn : n < 128
      · exact hn
      · rw [vput_ge (by omega), List.length_cons, List.length_take] at this
        have := vput_pos (n / 128)
        omega
    rw [vput_lt hn] at h
    simp at h
    have h' := congrArg UInt8.toNat h
    rw [u8_toNat_lt (by omega), u8_toNat_lt (at8_lt _ _)] at h'
    refine ⟨?_, .inl rfl⟩
    simp only [dsum, Nat.mul_zero, Nat.add_zero]
    omega
  | k + 1, a, n, he, h => by
    rw [drop_at8 (by omega), List.take_succ_cons] at h
    have hn : ¬ n < 128 := by
      intro hn
      rw [vput_lt hn] at h
      have := congrArg List.length h
      simp at this
      omega
    rw [vput_ge (by omega)] at h
    simp only [List.cons.injEq] at h
    obtain ⟨h1, h2⟩ := h
    have h' := congrArg UInt8.toNat h1
    rw [u8_toNat_lt (by omega), u8_toNat_lt (at8_lt _ _)] at h'
    have ih := dsum_vput (k := k) (a := a + 1) (by omega) h2
    rw [show a + 1 + k = a + (k + 1) from by omega] at ih
    have hpos : 1 ≤ n / 128 := by omega
    refine ⟨?_, .inr ?_⟩
    · rw [dsum_shift, ih.1]; omega
    · rcases ih.2 with h3 | h3
      · subst h3
        intro h0
        have := ih.1
        rw [dsum, dsum, Nat.add_zero, show a + 1 = a + (0 + 1) from rfl, h0] at this
        simp at this
        omega
      · exact h3
theorem pow63 : (2 : Nat) ^ (7 * 9) = 9223372036854775808 := by decide
theorem dsum_u64 {t : List UInt8} {a k : Nat} (hk : k < 10) (h9 : k = 9 → at8 t (a + k) ≤ 1) : dsum t a (k + 1) < p64 := by
  by_cases e : k = 9
  · subst e
    have h := dsum_lt t a 9
    have := h9 rfl
    rw [dsum]
    rw [pow63] at *
    unfold p64
    have : at8 t (a + 9) % 128 ≤ 1 := by omega
    omega
  · have h := dsum_lt t a (k + 1)
    have : (2 : Nat) ^ (7 * (k + 1)) ≤ 2 ^ 63 := Nat.pow_le_pow_right (by omega) (by omega)
    have e : (2 : Nat) ^ 63 = 9223372036854775808 := by decide
    unfold p64
    omega
theorem vget_ok {t : List UInt8} {a k : Nat} (h : Lead t a k) (hk : k < 10) (he : a + k < t.length) (hc : at8 t (a + k) < 128) (hz : at8 t (a + k) ≠ 0 ∨ k = 0) (h9 : k = 9 → at8 t (a + k) ≤ 1) :
    vget t a = (dsum t a (k + 1), (a : Int) + k + 1, 0) := by
  rw [vget_at h hk he hc, Nat.mod_eq_of_lt (dsum_u64 hk h9), if_pos (vput_dsum h he hc hz)]
theorem vget_nought {t : List UInt8} {a k : Nat} (h : Lead t a k) (hk : k < 10) (he : a + k < t.length) (hc : at8 t (a + k) = 0) (h0 : 0 < k) :
    vget t a = (0, 0, 21) := by
  rw [vget_at h hk he (by omega), if_neg]
  intro hv
  have := (dsum_vput he hv).2
  omega
theorem vget_wide {t : List UInt8} {a : Nat} (h : Lead t a 9) (he : a + 9 < t.length) (hc : 1 < at8 t (a + 9)) : vget t a = (0, 0, 21) := by
  by_cases h1 : at8 t (a + 9) < 128
  · rw [vget_at h (by omega) he h1, if_neg]
    intro hv
    have h2 := (dsum_vput he hv).1
    have h3 : dsum t a (9 + 1) % p64 < p64 := Nat.mod_lt _ (by unfold p64; omega)
    rw [← h2] at h3
    rw [dsum, pow63] at h3
    unfold p64 at h3
    have : 2 ≤ at8 t (a + 9) % 128 := by omega
    omega
  · exact vget_ten (h.succ he (by omega))
end Go.Proofs.Ytkpdcejnanhgoaa
