/- Texts with their lengths, in plain Lean. -/
import Derived.Test.YtpelngkhipcneaaDoorWireSpec
namespace Go.Proofs.YtpelngkhipcneaaDoor
theorem vget_cases (t : List UInt8) (a : Int) : (∃ e : Int, vget t a = (0, 0, e) ∧ (e = 1 ∨ e = 20 ∨ e = 21)) ∨
    ∃ m k n : Nat, a = m ∧ k < 10 ∧ m + k < t.length ∧ vput n = (t.drop m).take (k + 1) ∧ n < p64 ∧ vget t a = (n, (m : Int) + k + 1, 0) := by
  unfold vget
  split
  · exact .inl ⟨1, rfl, .inl rfl⟩
  · rename_i h0
    split
    · exact .inl ⟨21, rfl, .inr (.inr rfl)⟩
    · rename_i h1
      split
      · exact .inl ⟨20, rfl, .inr (.inl rfl)⟩
      · rename_i h2
        split
        · rename_i h3
          refine .inr ⟨a.toNat, lead t a.toNat 10, _, by omega, ?_, ?_, h3, Nat.mod_lt _ (by unfold p64; omega), rfl⟩
          · have : ∀ j, lead t a.toNat j ≤ j := by
              intro j
              induction j with
              | zero => exact Nat.le_refl _
              | succ j ih => rw [lead]; split <;> omega
            have := this 10
            omega
          · have hl : ∀ j, a.toNat + lead t a.toNat j ≤ t.length := by
              intro j
              induction j with
              | zero => show a.toNat + 0 ≤ _; omega
              | succ j ih =>
                rw [lead]; split
                · omega
                · exact ih
            have := hl 10
            omega
        · exact .inl ⟨21, rfl, .inr (.inr rfl)⟩
/-- what GetText tells -/
def gett (t : List UInt8) (a most : Int) : List UInt8 × Int × Int :=
  if (vget t a).2.2 ≠ 0 then ([], 0, (vget t a).2.2) else
  if max most 0 < ((vget t a).1 : Int) then ([], 0, 2) else
  if (t.length : Int) - (vget t a).2.1 < (vget t a).1 then ([], 0, 20) else
  ((t.drop (vget t a).2.1.toNat).take (vget t a).1, (vget t a).2.1 + (vget t a).1, 0)
theorem gett_bad {t : List UInt8} {a most e : Int} (h : vget t a = (0, 0, e)) (he : e ≠ 0) : gett t a most = ([], 0, e) := by
  unfold gett; rw [h]; exact if_pos he
theorem gett_long {t : List UInt8} {a most to : Int} {n : Nat} (h : vget t a = (n, to, 0)) (hn : max most 0 < (n : Int)) : gett t a most = ([], 0, 2) := by
  unfold gett; rw [h, if_neg (by simp)]; exact if_pos hn
theorem gett_short {t : List UInt8} {a most to : Int} {n : Nat} (h : vget t a = (n, to, 0)) (hn : ¬ max most 0 < (n : Int)) (hs : (t.length : Int) - to < n) : gett t a most = ([], 0, 20) := by
  unfold gett; rw [h, if_neg (by simp), if_neg hn]; exact if_pos hs
theorem gett_ok {t : List UInt8} {a most : Int} {n to : Nat} (h : vget t a = (n, (to : Int), 0)) (hn : ¬ max most 0 < (n : Int)) (hs : ¬ (t.length : Int) - to < n) : gett t a most = ((t.drop to).take n, (to : Int) + n, 0) := by
  unfold gett; rw [h, if_neg (by simp), if_neg hn]; exact if_neg hs
end Go.Proofs.YtpelngkhipcneaaDoor
