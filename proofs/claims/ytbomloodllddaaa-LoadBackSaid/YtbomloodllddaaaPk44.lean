/- Walks: the statements PackBack, PackOnce, PackTorn. No conditions beyond the statements' own. -/
import Derived.Test.YtbomloodllddaaaPk42
import Derived.Test.YtbomloodllddaaaPk39
import Derived.Test.YtbomloodllddaaaPk37
namespace Go.Proofs.Ytbomloodllddaaa
open Go.RowKit
theorem putP_bad {l : List Sec} (h : (putP l).2 ≠ 0) : (putP l).1 = [] := by
  unfold putP at h ⊢
  split
  · rfl
  · rename_i h1
    rw [if_neg h1] at h
    split
    · rename_i h2; rw [if_pos h2] at h; simp at h
    · rfl
theorem getP_bad {t : List UInt8} (h : (getP t).2 ≠ 0) : (getP t).1 = [] := by
  unfold getP at h ⊢
  split
  · rfl
  rename_i h1; rw [if_neg h1] at h
  split
  · rfl
  rename_i h1; rw [if_neg h1] at h
  split
  · rfl
  rename_i h1; rw [if_neg h1] at h
  split
  · rfl
  rename_i h1; rw [if_neg h1] at h
  split
  · rfl
  rename_i h1; rw [if_neg h1] at h
  dsimp only at h ⊢
  split
  · rfl
  rename_i h1; rw [if_neg h1] at h
  split
  · rfl
  rename_i h1; rw [if_neg h1] at h
  split
  · rfl
  rename_i h1; rw [if_neg h1] at h
  simp at h
theorem putP_len {l : List Sec} (hl : SecsOk l) (h : (putP l).2 = 0) : (putP l).1.length ≤ 10000 + sizeS l ∧ 10 ≤ (putP l).1.length ∧ l.length ≤ 64 ∧ sizeS l ≤ 8388608 ∧ (putP l).1 = packB l ++ put4 (sumOn 0 (packB l)) := by
  unfold putP at h ⊢
  split at h
  · simp at h
  rename_i h1
  rw [if_neg h1]
  split at h
  · rename_i h2
    rw [if_pos h2]
    dsimp only
    have h3 := packTo_len hl (by omega) l.length (Nat.le_refl _)
    rw [packTo_all, List.take_length] at h3
    have h4 : 6 ≤ (packB l).length := by unfold packB; have := vput_pos l.length; simp [begB]; omega
    rw [List.length_append, show (put4 (sumOn 0 (packB l))).length = 4 from rfl]
    exact ⟨by omega, by omega, by omega, by omega, rfl⟩
  · simp at h
theorem num_put4 (n : Nat) (h : n < 4294967296) : num (put4 n) = n := by
  have e2 : n / 256 / 256 = n / 65536 := by omega
  have e3 : n / 65536 / 256 = n / 16777216 := by omega
  have e4 : n / 16777216 / 256 = 0 := by omega
  have h1 := xor_low8 (n / 16777216)
  have h2 := xor_low8 (n / 65536)
  have h3 := xor_low8 (n / 256)
  rw [e4] at h1; rw [e3] at h2; rw [e2] at h3
  unfold put4
  rw [num, num, num, num, num, u8_toNat, u8_toNat, u8_toNat, u8_toNat, h1, h2, h3, xor_low8]
/-- what the register is behind any text with its sum behind it -/
theorem reg_sealed (u : List UInt8) : reg (inv32 0) (u ++ put4 (sumOn 0 u)) = stps 32 4294967295 := by
  have hl := reg_lt (inv32_lt 0) u
  rw [reg_append, reg_num (put4 _), num_put4 _ (sumOn_lt 0 u), show 8 * (put4 (sumOn 0 u)).length = 32 from rfl]
  congr 1
  unfold sumOn
  rw [inv32_xor hl, Nat.xor_comm 4294967295, xor_same]
theorem sum_sealed (u : List UInt8) : sumOn 0 (u ++ put4 (sumOn 0 u)) = inv32 (stps 32 4294967295) := by
  conv => lhs; unfold sumOn
  exact congrArg inv32 (reg_sealed u)
theorem IsTurned.alike {s t : List UInt8} {k : Nat} (h : IsTurned s t k 32) (hk : k ≤ 8 * s.length) (c : Nat) (he : sumOn c s = sumOn c t) : s = t := by
  obtain ⟨h1, q, h2, h3⟩ := h
  exact burst h1.symm h2 h3 hk he
/-- a bit's place: any int, made one that is not less than 0 -/
def place (a : Int) : Int := if a < 0 then -(a + 1) else a
theorem pack_torn {x t : List UInt8} {k : Nat} (h : IsTurned (x ++ put4 (sumOn 0 x)) t k 32) (hk : k ≤ 8 * (x ++ put4 (sumOn 0 x)).length) (hl : 9 ≤ (x ++ put4 (sumOn 0 x)).length) : x ++ put4 (sumOn 0 x) = t ∨ (getP t).2 = 41 ∨ (getP t).2 = 40 := by
  have htl := h.1
  unfold getP
  rw [if_neg (by omega)]
  by_cases h5 : t.take 5 ≠ begB
  · rw [if_pos h5]; exact .inr (.inr rfl)
  rw [if_neg h5]
  by_cases h4 : t.drop (t.length - 4) ≠ put4 (sumOn 0 (t.take (t.length - 4)))
  · rw [if_pos h4]; exact .inr (.inl rfl)
  left
  have h4' : t.drop (t.length - 4) = put4 (sumOn 0 (t.take (t.length - 4))) := by simpa using h4
  refine h.alike hk 0 ?_
  have e : t = t.take (t.length - 4) ++ put4 (sumOn 0 (t.take (t.length - 4))) := by rw [← h4', List.take_append_drop]
  rw [sum_sealed, e, sum_sealed]
end Go.Proofs.Ytbomloodllddaaa
