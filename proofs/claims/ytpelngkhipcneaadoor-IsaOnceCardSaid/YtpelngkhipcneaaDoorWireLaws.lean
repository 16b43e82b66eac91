/- What is written is read again, what is read is written again: numbers and texts, in plain Lean. -/
import Derived.Test.YtpelngkhipcneaaDoorWireTextSpec
namespace Go.Proofs.YtpelngkhipcneaaDoor
theorem vput_dig : ∀ (k n : Nat), n < k → (∀ i, i + 1 < (vput n).length → 128 ≤ at8 (vput n) i) ∧ at8 (vput n) ((vput n).length - 1) < 128
  | 0, n, h => by omega
  | k + 1, n, h => by
    by_cases h1 : n < 128
    · rw [vput_lt h1]
      refine ⟨fun i hi => by simp at hi, ?_⟩
      show (u8 n).toNat < 128
      rw [u8_toNat_lt (by omega)]; exact h1
    · rw [vput_ge (by omega)]
      obtain ⟨i1, i2⟩ := vput_dig k (n / 128) (by omega)
      have hp := vput_pos (n / 128)
      refine ⟨fun i hi => ?_, ?_⟩
      · cases i with
        | zero => show 128 ≤ (u8 (n % 128 + 128)).toNat; rw [u8_toNat_lt (by omega)]; omega
        | succ i => exact i1 i (by simpa using hi)
      · have e : (u8 (n % 128 + 128) :: vput (n / 128)).length - 1 = ((vput (n / 128)).length - 1) + 1 := by simp; omega
        rw [e]; exact i2
theorem at8_mid (A l B : List UInt8) (i : Nat) (h : i < l.length) : at8 (A ++ l ++ B) (A.length + i) = at8 l i := by
  unfold at8
  rw [List.append_assoc, List.getD_eq_getElem?_getD, List.getD_eq_getElem?_getD, List.getElem?_append_right (Nat.le_add_right _ _), Nat.add_sub_cancel_left, List.getElem?_append_left h]
theorem drop_mid (A l B : List UInt8) : ((A ++ l ++ B).drop A.length).take l.length = l := by
  rw [List.append_assoc, List.drop_left, List.take_left]
theorem vget_back (A B : List UInt8) (n : Nat) (hn : U64 n) : vget (A ++ vput n ++ B) A.length = (n, (A.length : Int) + (vput n).length, 0) := by
  obtain ⟨h1, h2⟩ := vput_dig (n + 1) n (by omega)
  have hp := vput_pos n
  have hl := vput_len10 hn
  obtain ⟨k, hk⟩ : ∃ k, (vput n).length = k + 1 := ⟨(vput n).length - 1, by omega⟩
  have hlen : A.length + k < (A ++ vput n ++ B).length := by simp; omega
  have htake : vput n = ((A ++ vput n ++ B).drop A.length).take (k + 1) := by rw [← hk, drop_mid]
  have hd := (dsum_vput (t := A ++ vput n ++ B) (a := A.length) (k := k) hlen htake).1
  have hlead : Lead (A ++ vput n ++ B) A.length k := fun i hi => ⟨by omega, by rw [at8_mid _ _ _ _ (by omega)]; exact h1 i (by omega)⟩
  rw [vget_at hlead (by omega) hlen (by rw [at8_mid _ _ _ _ (by omega)]; rwa [show (vput n).length - 1 = k from by omega] at h2), hd, Nat.mod_eq_of_lt (show n < p64 from hn), if_pos htake, hk]
  refine Prod.ext rfl (Prod.ext ?_ rfl)
  show (A.length : Int) + k + 1 = A.length + ((k + 1 : Nat) : Int)
  omega
theorem gett_back (A x B : List UInt8) (hx : U64 x.length) : gett (A ++ (vput x.length ++ x) ++ B) A.length x.length = (x, (A.length : Int) + (vput x.length ++ x).length, 0) := by
  have e : A ++ (vput x.length ++ x) ++ B = A ++ vput x.length ++ (x ++ B) := by simp
  have h := vget_back A (x ++ B) x.length hx
  rw [← e] at h
  have h' : vget (A ++ (vput x.length ++ x) ++ B) A.length = (x.length, ((A.length + (vput x.length).length : Nat) : Int), 0) := h
  rw [gett_ok h' (by omega) (by simp; omega)]
  refine Prod.ext ?_ (Prod.ext ?_ rfl)
  · show ((A ++ (vput x.length ++ x) ++ B).drop (A.length + (vput x.length).length)).take x.length = x
    rw [e, ← List.append_assoc, show A.length + (vput x.length).length = (A ++ vput x.length).length from by simp, drop_mid]
  · simp; omega
theorem take_drop_join (t : List UInt8) (a i j : Nat) : (t.drop a).take i ++ (t.drop (a + i)).take j = (t.drop a).take (i + j) := by
  rw [List.take_add, List.drop_drop]
/-- a text that is read, written again -/
theorem gett_once {t : List UInt8} {m k n : Nat} (hp : vput n = (t.drop m).take (k + 1)) (_hl : m + k < t.length) (hs : ¬ (t.length : Int) - ((m : Int) + k + 1) < n) :
    vput ((t.drop (m + k + 1)).take n).length ++ (t.drop (m + k + 1)).take n = (t.drop m).take (k + 1 + n) := by
  have e : ((t.drop (m + k + 1)).take n).length = n := by simp; omega
  rw [e, hp, show m + k + 1 = m + (k + 1) from by omega, take_drop_join]
end Go.Proofs.YtpelngkhipcneaaDoor
