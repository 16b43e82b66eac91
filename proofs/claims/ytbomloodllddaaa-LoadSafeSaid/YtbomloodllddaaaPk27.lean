/- Walks: the statements PackBack, PackOnce, PackTorn. No conditions beyond the statements' own. -/
import Derived.Test.YtbomloodllddaaaPk24
import Derived.Test.YtbomloodllddaaaPk06
import Derived.Test.YtbomloodllddaaaPk04
namespace Go.Proofs.Ytbomloodllddaaa
open Go.RowKit
theorem putP_bad {l : List Sec} (h : (putP l).2 ≠ 0) : (putP l).1 = [] := by
  unfold putP at h ⊢
  split
  · rfl
  · rename_i h1
    rw [if_neg h1] at h
    split
    · rename_i h2; rw [if_pos h2] at h; simp at h
    · rfl
theorem putP_len {l : List Sec} (hl : SecsOk l) (h : (putP l).2 = 0) : (putP l).1.length ≤ 10000 + sizeS l ∧ 10 ≤ (putP l).1.length ∧ l.length ≤ 64 ∧ sizeS l ≤ 8388608 ∧ (putP l).1 = packB l ++ put4 (sumOn 0 (packB l)) := by
  unfold putP at h ⊢
  split at h
  · simp at h
  rename_i h1
  rw [if_neg h1]
  split at h
  · rename_i h2
    rw [if_pos h2]
    dsimp only
    have h3 := packTo_len hl (by omega) l.length (Nat.le_refl _)
    rw [packTo_all, List.take_length] at h3
    have h4 : 6 ≤ (packB l).length := by unfold packB; have := vput_pos l.length; simp [begB]; omega
    rw [List.length_append, show (put4 (sumOn 0 (packB l))).length = 4 from rfl]
    exact ⟨by omega, by omega, by omega, by omega, rfl⟩
  · simp at h
/-- a bit's place: any int, made one that is not less than 0 -/
def place (a : Int) : Int := if a < 0 then -(a + 1) else a
end Go.Proofs.Ytbomloodllddaaa
