/- What is written is read again, whatever stands ahead of it and behind it: in plain Lean. -/
import Derived.Test.YtfpfbkejcnmdkaaWireOnceSpec
import Derived.Test.YtfpfbkejcnmdkaaWireFours
namespace Go.Proofs.Ytfpfbkejcnmdkaa
theorem vput_dig : ∀ (k n : Nat), n < k → (∀ i, i + 1 < (vput n).length → 128 ≤ at8 (vput n) i) ∧ at8 (vput n) ((vput n).length - 1) < 128
  | 0, n, h => by omega
  | k + 1, n, h => by
    by_cases h1 : n < 128
    · rw [vput_lt h1]
      refine ⟨fun i hi => by simp at hi, ?_⟩
      show (u8 n).toNat < 128
      rw [u8_toNat_lt (by omega)]; exact h1
    · rw [vput_ge (by omega)]
      obtain ⟨i1, i2⟩ := vput_dig k (n / 128) (by omega)
      have hp := vput_pos (n / 128)
      refine ⟨fun i hi => ?_, ?_⟩
      · cases i with
        | zero => show 128 ≤ (u8 (n % 128 + 128)).toNat; rw [u8_toNat_lt (by omega)]; omega
        | succ i => exact i1 i (by simpa using hi)
      · have e : (u8 (n % 128 + 128) :: vput (n / 128)).length - 1 = ((vput (n / 128)).length - 1) + 1 := by simp; omega
        rw [e]; exact i2
theorem at8_mid (A l B : List UInt8) (i : Nat) (h : i < l.length) : at8 (A ++ l ++ B) (A.length + i) = at8 l i := by
  unfold at8
  rw [List.append_assoc, List.getD_eq_getElem?_getD, List.getD_eq_getElem?_getD, List.getElem?_append_right (Nat.le_add_right _ _), Nat.add_sub_cancel_left, List.getElem?_append_left h]
theorem drop_mid (A l B : List UInt8) : ((A ++ l ++ B).drop A.length).take l.length = l := by
  rw [List.append_assoc, List.drop_left, List.take_left]
theorem vget_back (A B : List UInt8) (n : Nat) (hn : U64 n) : vget (A ++ vput n ++ B) A.length = (n, (A.length : Int) + (vput n).length, 0) := by
  obtain ⟨h1, h2⟩ := vput_dig (n + 1) n (by omega)
  have hp := vput_pos n
  have hl := vput_len10 hn
  obtain ⟨k, hk⟩ : ∃ k, (vput n).length = k + 1 := ⟨(vput n).length - 1, by omega⟩
  have hlen : A.length + k < (A ++ vput n ++ B).length := by simp; omega
  have htake : vput n = ((A ++ vput n ++ B).drop A.length).take (k + 1) := by rw [← hk, drop_mid]
  have hd := (dsum_vput (t := A ++ vput n ++ B) (a := A.length) (k := k) hlen htake).1
  have hlead : Lead (A ++ vput n ++ B) A.length k := fun i hi => ⟨by omega, by rw [at8_mid _ _ _ _ (by omega)]; exact h1 i (by omega)⟩
  rw [vget_at hlead (by omega) hlen (by rw [at8_mid _ _ _ _ (by omega)]; rwa [show (vput n).length - 1 = k from by omega] at h2), hd, Nat.mod_eq_of_lt (show n < p64 from hn), if_pos htake, hk]
  refine Prod.ext rfl (Prod.ext ?_ rfl)
  show (A.length : Int) + k + 1 = A.length + ((k + 1 : Nat) : Int)
  omega
theorem gett_back (A x B : List UInt8) (hx : U64 x.length) : gett (A ++ (vput x.length ++ x) ++ B) A.length x.length = (x, (A.length : Int) + (vput x.length ++ x).length, 0) := by
  have e : A ++ (vput x.length ++ x) ++ B = A ++ vput x.length ++ (x ++ B) := by simp
  have h := vget_back A (x ++ B) x.length hx
  rw [← e] at h
  have h' : vget (A ++ (vput x.length ++ x) ++ B) A.length = (x.length, ((A.length + (vput x.length).length : Nat) : Int), 0) := h
  rw [gett_ok h' (by omega) (by simp; omega)]
  refine Prod.ext ?_ (Prod.ext ?_ rfl)
  · show ((A ++ (vput x.length ++ x) ++ B).drop (A.length + (vput x.length).length)).take x.length = x
    rw [e, ← List.append_assoc, show A.length + (vput x.length).length = (A ++ vput x.length).length from by simp, drop_mid]
  · simp; omega
theorem get4_back (A B : List UInt8) (n : Nat) (hn : U32 n) : get4 (A ++ put4 n ++ B) A.length = (n, (A.length : Int) + 4, 0) := by
  have hl : (put4 n).length = 4 := rfl
  unfold get4
  rw [if_neg (by simp; omega), if_neg (by simp [hl]; omega)]
  refine Prod.ext ?_ rfl
  show part4 _ ((A.length : Int)).toNat 4 = n
  rw [Int.toNat_natCast]
  have e0 := at8_mid A (put4 n) B 0 (by omega)
  have e1 := at8_mid A (put4 n) B 1 (by omega)
  have e2 := at8_mid A (put4 n) B 2 (by omega)
  have e3 := at8_mid A (put4 n) B 3 (by omega)
  simp only [part4, Nat.mul_zero]
  rw [e0, e1, e2, e3]
  have a0 : at8 (put4 n) 0 = n % 256 := u8_toNat _
  have a1 : at8 (put4 n) 1 = n / 256 % 256 := u8_toNat _
  have a2 : at8 (put4 n) 2 = n / 65536 % 256 := u8_toNat _
  have a3 : at8 (put4 n) 3 = n / 16777216 % 256 := u8_toNat _
  rw [a0, a1, a2, a3]
  unfold U32 at hn
  simp only [Nat.reduceMul, Nat.reducePow]
  omega
theorem getn_back : ∀ (l : List Nat), AllU64 l → ∀ (A B : List UInt8), getn (A ++ l.flatMap vput ++ B) l.length A.length = (l, (A.length : Int) + (l.flatMap vput).length, 0)
  | [], _, A, B => by simp [getn]
  | x :: l, h, A, B => by
    have e : A ++ (x :: l).flatMap vput ++ B = A ++ vput x ++ (l.flatMap vput ++ B) := by simp
    have h1 := vget_back A (l.flatMap vput ++ B) x (h x (by simp))
    rw [← e] at h1
    have ih := getn_back l (fun n hn => h n (by simp [hn])) (A ++ vput x) B
    have e2 : A ++ vput x ++ l.flatMap vput ++ B = A ++ (x :: l).flatMap vput ++ B := by simp
    rw [e2] at ih
    have e3 : (A.length : Int) + (vput x).length = ((A ++ vput x).length : Nat) := by simp
    rw [List.length_cons, getn, h1, if_neg (by simp)]
    dsimp only
    rw [e3, ih, if_neg (by simp)]
    simp; omega
theorem geta_back (A B : List UInt8) (l : List Nat) (hu : AllU64 l) (hl : U64 l.length) : geta (A ++ vputs l ++ B) A.length l.length = (l, (A.length : Int) + (vputs l).length, 0) := by
  have e : A ++ vputs l ++ B = A ++ vput l.length ++ (l.flatMap vput ++ B) := by simp [vputs]
  have h := vget_back A (l.flatMap vput ++ B) l.length hl
  rw [← e] at h
  rw [geta_go h (by omega)]
  have e2 : A ++ vputs l ++ B = (A ++ vput l.length) ++ l.flatMap vput ++ B := by simp [vputs]
  have e3 : (A.length : Int) + (vput l.length).length = ((A ++ vput l.length).length : Nat) := by simp
  rw [e3, e2, getn_back l hu]
  simp [vputs]; omega
end Go.Proofs.Ytfpfbkejcnmdkaa
