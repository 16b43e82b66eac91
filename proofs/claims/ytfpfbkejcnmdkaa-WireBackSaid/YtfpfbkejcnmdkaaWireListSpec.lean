/- Lists of numbers, in plain Lean. -/
import Derived.Test.YtfpfbkejcnmdkaaWireTextSpec
namespace Go.Proofs.Ytfpfbkejcnmdkaa
/-- n numbers from a place on, the place behind them, the error -/
def getn (t : List UInt8) : Nat → Int → List Nat × Int × Int
  | 0, a => ([], a, 0)
  | n + 1, a => if (vget t a).2.2 ≠ 0 then ([], 0, (vget t a).2.2) else
      if (getn t n (vget t a).2.1).2.2 ≠ 0 then ([], 0, (getn t n (vget t a).2.1).2.2) else ((vget t a).1 :: (getn t n (vget t a).2.1).1, (getn t n (vget t a).2.1).2.1, 0)
/-- what GetAll tells -/
def geta (t : List UInt8) (a most : Int) : List Nat × Int × Int :=
  if (vget t a).2.2 ≠ 0 then ([], 0, (vget t a).2.2) else
  if max most 0 < ((vget t a).1 : Int) then ([], 0, 2) else getn t (vget t a).1 (vget t a).2.1
/-- numbers ahead of what is read -/
def ahead (l : List Nat) (q : List Nat × Int × Int) : List Nat × Int × Int := if q.2.2 ≠ 0 then ([], 0, q.2.2) else (l ++ q.1, q.2.1, 0)
theorem ahead_nil (t : List UInt8) : ∀ n a, ahead [] (getn t n a) = getn t n a
  | 0, a => rfl
  | n + 1, a => by
    rw [getn]
    split
    · unfold ahead; rw [if_pos (by assumption)]
    · split
      · unfold ahead; rw [if_pos (by assumption)]
      · rfl
theorem ahead_zero (t : List UInt8) (l : List Nat) (a : Int) : ahead l (getn t 0 a) = (l, a, 0) := by simp [ahead, getn]
theorem ahead_bad {t : List UInt8} (l : List Nat) {n : Nat} {a e x : Int} {y : Nat} (h : vget t a = (y, x, e)) (he : e ≠ 0) : ahead l (getn t (n + 1) a) = ([], 0, e) := by
  rw [getn, h, if_pos he]
  unfold ahead; rw [if_pos he]
theorem ahead_step {t : List UInt8} (l : List Nat) {n x : Nat} {a to : Int} (h : vget t a = (x, to, 0)) : ahead l (getn t (n + 1) a) = ahead (l ++ [x]) (getn t n to) := by
  rw [getn, h, if_neg (by simp)]
  dsimp only
  by_cases hq : (getn t n to).2.2 ≠ 0
  · rw [if_pos hq]
    unfold ahead
    rw [if_pos hq, if_pos hq]
  · rw [if_neg hq]
    unfold ahead
    rw [if_neg hq, if_neg (by simp)]
    simp
theorem geta_bad {t : List UInt8} {a most e : Int} (h : vget t a = (0, 0, e)) (he : e ≠ 0) : geta t a most = ([], 0, e) := by
  unfold geta; rw [h]; exact if_pos he
theorem geta_long {t : List UInt8} {a most to : Int} {n : Nat} (h : vget t a = (n, to, 0)) (hn : max most 0 < (n : Int)) : geta t a most = ([], 0, 2) := by
  unfold geta; rw [h, if_neg (by simp)]; exact if_pos hn
theorem geta_go {t : List UInt8} {a most to : Int} {n : Nat} (h : vget t a = (n, to, 0)) (hn : ¬ max most 0 < (n : Int)) : geta t a most = getn t n to := by
  unfold geta; rw [h, if_neg (by simp)]; exact if_neg hn
def nats (l : List Nat) : List Int := l.map fun n : Nat => (n : Int)
theorem nats_append (a b : List Nat) : nats (a ++ b) = nats a ++ nats b := by simp [nats]
theorem nats_len (a : List Nat) : (nats a).length = a.length := by simp [nats]
end Go.Proofs.Ytfpfbkejcnmdkaa
