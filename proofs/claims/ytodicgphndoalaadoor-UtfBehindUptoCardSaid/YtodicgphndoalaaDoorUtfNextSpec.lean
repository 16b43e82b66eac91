/- What the reference takes at the beginning of bytes, in plain Lean: just the character that is written there. No program. -/
import Derived.Test.YtodicgphndoalaaDoorUtfSpec
namespace Go.Proofs.YtodicgphndoalaaDoor
def isI (x : Int) : Bool := decide (0 ≤ x) && isC x.toNat
def encI (x : Int) : List UInt8 := if isI x = true then enc x.toNat else []
theorem isI_iff {x : Int} : isI x = true ↔ 0 ≤ x ∧ x ≤ 1114111 ∧ ¬ (55296 ≤ x ∧ x ≤ 57343) := by
  unfold isI; rw [Bool.and_eq_true, isC_iff, decide_eq_true_iff]; omega
def offN (n : Nat) : Int := if n = 2 then 192 else if n = 3 then 224 else if n = 4 then 240 else 0
/-- the number that the first i + 1 of n bytes write -/
def mc (l : List UInt8) (n : Nat) : Nat → Option Int
  | 0 => some ((at8 l 0 : Int) - offN n)
  | i + 1 => match mc l n i with
    | none => none
    | some c => if 128 ≤ at8 l (i + 1) ∧ at8 l (i + 1) ≤ 191 then some (c * 64 + at8 l (i + 1) - 128) else none
def moreL (l : List UInt8) (n : Nat) : Int := if l.length < n then -1 else (mc l n (n - 1)).getD (-1)
theorem mc_none {l : List UInt8} {n i : Nat} (h : mc l n i = none) : ∀ j, mc l n (i + j) = none
  | 0 => h
  | j + 1 => by rw [← Nat.add_assoc, mc, mc_none h j]
theorem mc_zero (l : List UInt8) (n : Nat) : mc l n 0 = some ((at8 l 0 : Int) - offN n) := rfl
theorem mc_succ {l : List UInt8} {n i : Nat} {c : Int} (h : mc l n i = some c) (hb : 128 ≤ at8 l (i + 1) ∧ at8 l (i + 1) ≤ 191) : mc l n (i + 1) = some (c * 64 + at8 l (i + 1) - 128) := by
  simp only [mc, h]; rw [if_pos hb]
theorem mc_stop {l : List UInt8} {n i : Nat} (hb : ¬ (128 ≤ at8 l (i + 1) ∧ at8 l (i + 1) ≤ 191)) : mc l n (i + 1) = none := by
  simp only [mc]; cases mc l n i with
  | none => rfl
  | some c => simp only []; rw [if_neg hb]
theorem mc_bound {l : List UInt8} {n : Nat} : ∀ {i : Nat} {c : Int}, mc l n i = some c → i ≤ 3 → -256 * 64 ^ i ≤ c ∧ c < 256 * 64 ^ i
  | 0, c, h, _ => by
    simp only [mc, Option.some.injEq] at h
    have := at8_lt l 0
    unfold offN at h
    repeat' (split at h)
    all_goals omega
  | i + 1, c, h, hi => by
    simp only [mc] at h
    split at h
    · cases h
    · rename_i c' hc
      split at h
      · simp only [Option.some.injEq] at h
        have := mc_bound hc (by omega)
        rcases (by omega : i = 0 ∨ i = 1 ∨ i = 2) with rfl | rfl | rfl <;> omega
      · cases h
theorem more_enc {c : Nat} (h : isC c = true) (t : List UInt8) : moreL (enc c ++ t) (enc c).length = c := by
  rw [isC_iff] at h
  unfold moreL
  rw [if_neg (by simp), enc_len]
  unfold enc
  by_cases k1 : c < 128
  · simp only [if_pos k1, List.cons_append, List.nil_append, Nat.sub_self, mc, at8_0]
    rw [u8_toNat_lt (by omega)]; unfold offN; simp
  by_cases k2 : c < 2048
  · simp only [if_neg k1, if_pos k2, List.cons_append, List.nil_append]
    have e0 : at8 (u8 (192 + c / 64) :: u8 (128 + c % 64) :: t) 0 = 192 + c / 64 := by rw [at8_0, u8_toNat_lt (by omega)]
    have e1 : at8 (u8 (192 + c / 64) :: u8 (128 + c % 64) :: t) 1 = 128 + c % 64 := by rw [at8_1, u8_toNat_lt (by omega)]
    generalize u8 (192 + c / 64) :: u8 (128 + c % 64) :: t = l at e0 e1 ⊢
    have m0 := mc_zero l 2
    have m1 := mc_succ m0 (by rw [e1]; omega)
    rw [show 2 - 1 = 0 + 1 from rfl, m1, Option.getD_some, e0, e1, show offN 2 = 192 from rfl]; omega
  by_cases k3 : c < 65536
  · simp only [if_neg k1, if_neg k2, if_pos k3, List.cons_append, List.nil_append]
    have e0 : at8 (u8 (224 + c / 4096) :: u8 (128 + c / 64 % 64) :: u8 (128 + c % 64) :: t) 0 = 224 + c / 4096 := by rw [at8_0, u8_toNat_lt (by omega)]
    have e1 : at8 (u8 (224 + c / 4096) :: u8 (128 + c / 64 % 64) :: u8 (128 + c % 64) :: t) 1 = 128 + c / 64 % 64 := by rw [at8_1, u8_toNat_lt (by omega)]
    have e2 : at8 (u8 (224 + c / 4096) :: u8 (128 + c / 64 % 64) :: u8 (128 + c % 64) :: t) 2 = 128 + c % 64 := by rw [at8_2, u8_toNat_lt (by omega)]
    generalize u8 (224 + c / 4096) :: u8 (128 + c / 64 % 64) :: u8 (128 + c % 64) :: t = l at e0 e1 e2 ⊢
    have m0 := mc_zero l 3
    have m1 := mc_succ m0 (by rw [e1]; omega)
    have m2 := mc_succ m1 (by rw [e2]; omega)
    rw [show 3 - 1 = 0 + 1 + 1 from rfl, m2, Option.getD_some, e0, e1, e2, show offN 3 = 224 from rfl]; omega
  · simp only [if_neg k1, if_neg k2, if_neg k3, List.cons_append, List.nil_append]
    have e0 : at8 (u8 (240 + c / 262144) :: u8 (128 + c / 4096 % 64) :: u8 (128 + c / 64 % 64) :: u8 (128 + c % 64) :: t) 0 = 240 + c / 262144 := by rw [at8_0, u8_toNat_lt (by omega)]
    have e1 : at8 (u8 (240 + c / 262144) :: u8 (128 + c / 4096 % 64) :: u8 (128 + c / 64 % 64) :: u8 (128 + c % 64) :: t) 1 = 128 + c / 4096 % 64 := by rw [at8_1, u8_toNat_lt (by omega)]
    have e2 : at8 (u8 (240 + c / 262144) :: u8 (128 + c / 4096 % 64) :: u8 (128 + c / 64 % 64) :: u8 (128 + c % 64) :: t) 2 = 128 + c / 64 % 64 := by rw [at8_2, u8_toNat_lt (by omega)]
    have e3 : at8 (u8 (240 + c / 262144) :: u8 (128 + c / 4096 % 64) :: u8 (128 + c / 64 % 64) :: u8 (128 + c % 64) :: t) 3 = 128 + c % 64 := by rw [at8_3, u8_toNat_lt (by omega)]
    generalize u8 (240 + c / 262144) :: u8 (128 + c / 4096 % 64) :: u8 (128 + c / 64 % 64) :: u8 (128 + c % 64) :: t = l at e0 e1 e2 e3 ⊢
    have m0 := mc_zero l 4
    have m1 := mc_succ m0 (by rw [e1]; omega)
    have m2 := mc_succ m1 (by rw [e2]; omega)
    have m3 := mc_succ m2 (by rw [e3]; omega)
    rw [show 4 - 1 = 0 + 1 + 1 + 1 from rfl, m3, Option.getD_some, e0, e1, e2, e3, show offN 4 = 240 from rfl]; omega
def okAt (l : List UInt8) (n : Nat) : Bool := isI (moreL l n) && (encI (moreL l n) == l.take n)
theorem okAt_len {l : List UInt8} {n : Nat} (h : okAt l n = true) : n ≤ l.length ∧ isI (moreL l n) = true ∧ enc (moreL l n).toNat = l.take n := by
  unfold okAt at h
  rw [Bool.and_eq_true, beq_iff_eq] at h
  obtain ⟨h1, h2⟩ := h
  refine ⟨?_, h1, ?_⟩
  · rcases Nat.lt_or_ge l.length n with hl | hl
    · have := (isI_iff.1 h1).1
      unfold moreL at this
      rw [if_pos hl] at this; omega
    · exact hl
  · unfold encI at h2; rwa [if_pos h1] at h2
theorem okAt_dec {l : List UInt8} {n : Nat} (h : okAt l n = true) : dec l = ((moreL l n).toNat, n) ∧ l = enc (moreL l n).toNat ++ l.drop n := by
  obtain ⟨h1, h2, h3⟩ := okAt_len h
  have e : l = enc (moreL l n).toNat ++ l.drop n := by rw [h3, List.take_append_drop]
  have hc : isC (moreL l n).toNat = true := by unfold isI at h2; rw [Bool.and_eq_true] at h2; exact h2.2
  have hn : (enc (moreL l n).toNat).length = n := by rw [h3, List.length_take]; omega
  refine ⟨?_, e⟩
  have := dec_enc hc (l.drop n)
  rw [← e, hn] at this
  exact this
/-- the first of the next j lengths that fits -/
def resN (l : List UInt8) : Nat → Nat × Nat × Bool
  | 0 => (65533, 1, false)
  | j + 1 => if okAt l (4 - j) = true then ((moreL l (4 - j)).toNat, 4 - j, true) else resN l j
theorem resN_next {l : List UInt8} (h : l ≠ []) : resN l 4 = nextL l := by
  rcases dec_cases' h with e | ⟨c, t, h1, h2, e⟩
  · have hno : ∀ n, okAt l n = false := fun n => by
      cases hk : okAt l n with
      | false => rfl
      | true =>
        obtain ⟨hd, he⟩ := okAt_dec hk
        rw [e] at hd
        simp only [Prod.mk.injEq] at hd
        have hl := (okAt_len hk).2.2
        have := congrArg List.length hl
        rw [← hd.1, ← hd.2, List.length_take] at this
        have h3 : (enc 65533).length = 3 := rfl
        omega
    simp only [resN, hno]
    unfold nextL; rw [e]; simp
  · have hN : okAt l (enc c).length = true := by
      unfold okAt
      have hm := more_enc h1 t
      rw [← h2] at hm
      have hi : isI (c : Int) = true := by unfold isI; simp [h1]
      rw [hm, hi, h2]
      unfold encI; rw [if_pos hi]; simp
    have hm := more_enc h1 t
    rw [← h2] at hm
    have hno : ∀ n, n ≠ (enc c).length → okAt l n = false := fun n hn => by
      cases hk : okAt l n with
      | false => rfl
      | true =>
        have hd := (okAt_dec hk).1
        rw [e] at hd
        simp only [Prod.mk.injEq] at hd
        exact absurd hd.2.symm hn
    have hnx : nextL l = (c, (enc c).length, true) := by rw [h2]; exact next_enc h1 t
    rw [hnx]
    have hp := enc_pos c
    have hle := enc_le c
    generalize (enc c).length = N at hN hno hm hp hle
    rcases (by omega : N = 1 ∨ N = 2 ∨ N = 3 ∨ N = 4) with rfl | rfl | rfl | rfl
    · simp [resN, hN, hm]
    · simp [resN, hN, hm, hno 1 (by decide)]
    · simp [resN, hN, hm, hno 1 (by decide), hno 2 (by decide)]
    · simp [resN, hN, hm, hno 1 (by decide), hno 2 (by decide), hno 3 (by decide)]
end Go.Proofs.YtodicgphndoalaaDoor
