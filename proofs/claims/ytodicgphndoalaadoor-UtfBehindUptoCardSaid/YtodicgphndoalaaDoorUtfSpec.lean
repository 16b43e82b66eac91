/- Characters in bytes, in plain Lean: what is written for a number, what stands at the beginning of bytes. No program. -/
import Derived.Test.YtodicgphndoalaaDoorBase
import Derived.Lib.DecodeN
import Derived.Lib.RuneCount
namespace Go.Proofs.YtodicgphndoalaaDoor
/-- the first character of some bytes, and how many bytes it has -/
def dec (l : List UInt8) : Nat × Nat := Lib.decodeN l.length (at8 l 0) (at8 l 1) (at8 l 2) (at8 l 3)
def isC (c : Nat) : Bool := decide (c ≤ 1114111) && !(decide (55296 ≤ c) && decide (c ≤ 57343))
theorem isC_iff {c : Nat} : isC c = true ↔ c ≤ 1114111 ∧ ¬ (55296 ≤ c ∧ c ≤ 57343) := by
  unfold isC; simp; omega
/-- the bytes of a number -/
def enc (c : Nat) : List UInt8 :=
  if c < 128 then [u8 c] else if c < 2048 then [u8 (192 + c / 64), u8 (128 + c % 64)]
  else if c < 65536 then [u8 (224 + c / 4096), u8 (128 + c / 64 % 64), u8 (128 + c % 64)]
  else [u8 (240 + c / 262144), u8 (128 + c / 4096 % 64), u8 (128 + c / 64 % 64), u8 (128 + c % 64)]
theorem enc_len (c : Nat) : (enc c).length = if c < 128 then 1 else if c < 2048 then 2 else if c < 65536 then 3 else 4 := by
  unfold enc; repeat' split
  all_goals rfl
theorem at8_0 (b : UInt8) (l : List UInt8) : at8 (b :: l) 0 = b.toNat := rfl
theorem at8_1 (b0 b : UInt8) (l : List UInt8) : at8 (b0 :: b :: l) 1 = b.toNat := rfl
theorem at8_2 (b0 b1 b : UInt8) (l : List UInt8) : at8 (b0 :: b1 :: b :: l) 2 = b.toNat := rfl
theorem at8_3 (b0 b1 b2 b : UInt8) (l : List UInt8) : at8 (b0 :: b1 :: b2 :: b :: l) 3 = b.toNat := rfl
theorem dec_enc {c : Nat} (h : isC c = true) (t : List UInt8) : dec (enc c ++ t) = (c, (enc c).length) := by
  rw [isC_iff] at h
  obtain ⟨h1, h2⟩ := h
  rw [enc_len]
  unfold enc dec
  by_cases k1 : c < 128
  · simp only [if_pos k1, List.cons_append, List.nil_append, at8_0, List.length_cons]
    rw [u8_toNat_lt (by omega)]
    unfold Lib.decodeN; rw [if_pos k1]
  by_cases k2 : c < 2048
  · simp only [if_neg k1, if_pos k2, List.cons_append, List.nil_append, at8_0, at8_1, List.length_cons]
    rw [u8_toNat_lt (by omega), u8_toNat_lt (by omega)]
    unfold Lib.decodeN
    rw [if_neg (by omega), if_pos (by refine ⟨?_, ?_, ?_⟩ <;> omega), if_pos (by omega)]
    exact Prod.ext (by dsimp only; omega) rfl
  by_cases k3 : c < 65536
  · simp only [if_neg k1, if_neg k2, if_pos k3, List.cons_append, List.nil_append, at8_0, at8_1, at8_2, List.length_cons]
    rw [u8_toNat_lt (by omega), u8_toNat_lt (by omega), u8_toNat_lt (by omega)]
    unfold Lib.decodeN
    rw [if_neg (by omega), if_neg (by omega), if_pos (by refine ⟨?_, ⟨?_, ?_⟩, ?_, ?_⟩ <;> omega), if_pos (by omega)]
    exact Prod.ext (by dsimp only; omega) rfl
  · simp only [if_neg k1, if_neg k2, if_neg k3, List.cons_append, List.nil_append, at8_0, at8_1, at8_2, at8_3, List.length_cons]
    rw [u8_toNat_lt (by omega), u8_toNat_lt (by omega), u8_toNat_lt (by omega), u8_toNat_lt (by omega)]
    unfold Lib.decodeN
    rw [if_neg (by omega), if_neg (by omega), if_neg (by omega), if_pos (by refine ⟨?_, ⟨?_, ?_⟩, ⟨?_, ?_⟩, ?_, ?_⟩ <;> omega), if_pos (by omega)]
    exact Prod.ext (by dsimp only; omega) rfl
theorem u8_of (n : Nat) (b : UInt8) (h : n = b.toNat) : u8 n = b := by rw [h, u8_self]
/-- what stands at the beginning: nothing that is a character, or just its bytes -/
theorem dec_cases (b0 : UInt8) (r : List UInt8) : dec (b0 :: r) = (65533, 1) ∨ ∃ c t, isC c = true ∧ b0 :: r = enc c ++ t ∧ dec (b0 :: r) = (c, (enc c).length) := by
  have two : ∀ (c : Nat) (t : List UInt8), isC c = true → b0 :: r = enc c ++ t → dec (b0 :: r) = (65533, 1) ∨ ∃ c t, isC c = true ∧ b0 :: r = enc c ++ t ∧ dec (b0 :: r) = (c, (enc c).length) :=
    fun c t h e => .inr ⟨c, t, h, e, by rw [e]; exact dec_enc h t⟩
  have hb0 := b0.toNat_lt
  by_cases k1 : b0.toNat < 128
  · exact two b0.toNat r (isC_iff.2 (by omega)) (by unfold enc; rw [if_pos k1, u8_self]; rfl)
  match r with
  | [] =>
    left
    rw [show dec [b0] = Lib.decodeN 1 b0.toNat 0 0 0 from rfl]
    unfold Lib.decodeN
    rw [if_neg k1, if_neg (by omega), if_neg (by omega), if_neg (by omega)]
  | b1 :: r1 =>
    have hb1 := b1.toNat_lt
    by_cases k2 : b0.toNat / 32 = 6 ∧ b1.toNat / 64 = 2
    · by_cases k3 : b0.toNat % 32 * 64 + b1.toNat % 64 ≥ 128
      · refine two (b0.toNat % 32 * 64 + b1.toNat % 64) r1 (isC_iff.2 (by omega)) ?_
        unfold enc
        rw [if_neg (by omega), if_pos (by omega), u8_of _ b0 (by omega), u8_of _ b1 (by omega)]
        rfl
      · left
        rw [show dec (b0 :: b1 :: r1) = Lib.decodeN (r1.length + 2) b0.toNat b1.toNat (at8 r1 0) (at8 r1 1) from rfl]
        unfold Lib.decodeN
        rw [if_neg k1, if_pos (by refine ⟨?_, ?_, ?_⟩ <;> omega), if_neg k3]
    match r1 with
    | [] =>
      left
      rw [show dec [b0, b1] = Lib.decodeN 2 b0.toNat b1.toNat 0 0 from rfl]
      unfold Lib.decodeN
      rw [if_neg k1, if_neg (by omega), if_neg (by omega), if_neg (by omega)]
    | b2 :: r2 =>
      have hb2 := b2.toNat_lt
      by_cases k3 : b0.toNat / 16 = 14 ∧ b1.toNat / 64 = 2 ∧ b2.toNat / 64 = 2
      · obtain ⟨c, hc⟩ : ∃ c, b0.toNat % 16 * 4096 + b1.toNat % 64 * 64 + b2.toNat % 64 = c := ⟨_, rfl⟩
        by_cases k4 : c ≥ 2048 ∧ (c < 55296 ∨ (57344 ≤ c ∧ c ≤ 1114111))
        · refine two c r2 (isC_iff.2 (by omega)) ?_
          unfold enc
          rw [if_neg (by omega), if_neg (by omega), if_pos (by omega), u8_of _ b0 (by omega), u8_of _ b1 (by omega), u8_of _ b2 (by omega)]
          rfl
        · left
          rw [show dec (b0 :: b1 :: b2 :: r2) = Lib.decodeN (r2.length + 3) b0.toNat b1.toNat b2.toNat (at8 r2 0) from rfl]
          unfold Lib.decodeN
          rw [hc]
          rw [if_neg k1, if_neg (by omega), if_pos (by refine ⟨?_, ⟨?_, ?_⟩, ?_, ?_⟩ <;> omega), if_neg k4]
      match r2 with
      | [] =>
        left
        rw [show dec [b0, b1, b2] = Lib.decodeN 3 b0.toNat b1.toNat b2.toNat 0 from rfl]
        unfold Lib.decodeN
        rw [if_neg k1, if_neg (by omega), if_neg (by omega), if_neg (by omega)]
      | b3 :: r3 =>
        have hb3 := b3.toNat_lt
        by_cases k4 : b0.toNat / 8 = 30 ∧ b1.toNat / 64 = 2 ∧ b2.toNat / 64 = 2 ∧ b3.toNat / 64 = 2
        · obtain ⟨c, hc⟩ : ∃ c, b0.toNat % 8 * 262144 + b1.toNat % 64 * 4096 + b2.toNat % 64 * 64 + b3.toNat % 64 = c := ⟨_, rfl⟩
          by_cases k5 : c ≥ 65536 ∧ (c < 55296 ∨ (57344 ≤ c ∧ c ≤ 1114111))
          · refine two c r3 (isC_iff.2 (by omega)) ?_
            unfold enc
            rw [if_neg (by omega), if_neg (by omega), if_neg (by omega), u8_of _ b0 (by omega), u8_of _ b1 (by omega), u8_of _ b2 (by omega), u8_of _ b3 (by omega)]
            rfl
          · left
            rw [show dec (b0 :: b1 :: b2 :: b3 :: r3) = Lib.decodeN (r3.length + 4) b0.toNat b1.toNat b2.toNat b3.toNat from rfl]
            unfold Lib.decodeN
            rw [hc]
            rw [if_neg k1, if_neg (by omega), if_neg (by omega), if_pos (by refine ⟨?_, ⟨?_, ?_⟩, ⟨?_, ?_⟩, ?_, ?_⟩ <;> omega), if_neg k5]
        · left
          rw [show dec (b0 :: b1 :: b2 :: b3 :: r3) = Lib.decodeN (r3.length + 4) b0.toNat b1.toNat b2.toNat b3.toNat from rfl]
          unfold Lib.decodeN
          rw [if_neg k1, if_neg (by omega), if_neg (by omega), if_neg (by omega)]
theorem enc_pos (c : Nat) : 1 ≤ (enc c).length := by
  rw [enc_len]
  repeat' split
  all_goals omega
theorem enc_le (c : Nat) : (enc c).length ≤ 4 := by
  rw [enc_len]
  repeat' split
  all_goals omega
/-- the same of any bytes that are not none -/
theorem dec_cases' {l : List UInt8} (h : l ≠ []) : dec l = (65533, 1) ∨ ∃ c t, isC c = true ∧ l = enc c ++ t ∧ dec l = (c, (enc c).length) := by
  cases l with
  | nil => exact absurd rfl h
  | cons b r => exact dec_cases b r
/-- the model's own decoding, as that of the list behind a place -/
theorem decode_list (l : List UInt8) (i : Nat) : Utf8.decode ⟨l.toArray⟩ i = dec (l.drop i) := by
  rw [Lib.decode_at]
  have hg : ∀ k, ((⟨l.toArray⟩ : ByteArray).get! (i + k)).toNat = at8 (l.drop i) k := fun k => by
    unfold at8
    rw [List.getD_eq_getElem?_getD, List.getElem?_drop]
    show ((⟨l.toArray⟩ : ByteArray).data[i + k]!).toNat = _
    rw [getElem!_def]
    simp
    cases h : l[i + k]? <;> simp [h]
    rfl
  have h0 := hg 0
  rw [Nat.add_zero] at h0
  rw [h0, hg 1, hg 2, hg 3]
  unfold dec
  have : (⟨l.toArray⟩ : ByteArray).size - i = (l.drop i).length := by rw [List.length_drop]; simp [ByteArray.size]
  rw [this]
/-- a character taken at the beginning: its number, its bytes, whether there is one -/
def nextL (l : List UInt8) : Nat × Nat × Bool := ((dec l).1, (dec l).2, !((dec l).1 == 65533 && (dec l).2 == 1))
/-- the text made well-formed, its characters counted, whether it is well-formed: by so many characters at the most -/
def fixL : Nat → List UInt8 → List UInt8
  | 0, _ => []
  | k + 1, l => if l = [] then [] else enc (dec l).1 ++ fixL k (l.drop (dec l).2)
def countL : Nat → List UInt8 → Nat
  | 0, _ => 0
  | k + 1, l => if l = [] then 0 else 1 + countL k (l.drop (dec l).2)
def validL : Nat → List UInt8 → Bool
  | 0, _ => true
  | k + 1, l => if l = [] then true else (nextL l).2.2 && validL k (l.drop (dec l).2)
theorem dec_pos {l : List UInt8} (h : l ≠ []) : 1 ≤ (dec l).2 ∧ (dec l).2 ≤ l.length ∧ (dec l).2 ≤ 4 ∧ isC (dec l).1 = true := by
  rcases dec_cases' h with e | ⟨c, t, h1, h2, e⟩
  · rw [e]; exact ⟨Nat.le_refl _, by cases l with
      | nil => exact absurd rfl h
      | cons b r => simp, by decide, by decide⟩
  · rw [e]; exact ⟨enc_pos c, by rw [h2]; simp, enc_le c, h1⟩
theorem fixL_more : ∀ (k j : Nat) (l : List UInt8), l.length ≤ k → l.length ≤ j → fixL k l = fixL j l
  | 0, 0, _, _, _ => rfl
  | 0, j + 1, l, h, _ => by obtain rfl : l = [] := List.eq_nil_of_length_eq_zero (by omega)
                            simp [fixL]
  | k + 1, 0, l, _, h => by obtain rfl : l = [] := List.eq_nil_of_length_eq_zero (by omega)
                            simp [fixL]
  | k + 1, j + 1, l, h1, h2 => by
    rw [fixL, fixL]
    split
    · rfl
    · rename_i hn
      have := dec_pos hn
      rw [fixL_more k j _ (by rw [List.length_drop]; omega) (by rw [List.length_drop]; omega)]
theorem countL_more : ∀ (k j : Nat) (l : List UInt8), l.length ≤ k → l.length ≤ j → countL k l = countL j l
  | 0, 0, _, _, _ => rfl
  | 0, j + 1, l, h, _ => by obtain rfl : l = [] := List.eq_nil_of_length_eq_zero (by omega)
                            simp [countL]
  | k + 1, 0, l, _, h => by obtain rfl : l = [] := List.eq_nil_of_length_eq_zero (by omega)
                            simp [countL]
  | k + 1, j + 1, l, h1, h2 => by
    rw [countL, countL]
    split
    · rfl
    · rename_i hn
      have := dec_pos hn
      rw [countL_more k j _ (by rw [List.length_drop]; omega) (by rw [List.length_drop]; omega)]
theorem validL_more : ∀ (k j : Nat) (l : List UInt8), l.length ≤ k → l.length ≤ j → validL k l = validL j l
  | 0, 0, _, _, _ => rfl
  | 0, j + 1, l, h, _ => by obtain rfl : l = [] := List.eq_nil_of_length_eq_zero (by omega)
                            simp [validL]
  | k + 1, 0, l, _, h => by obtain rfl : l = [] := List.eq_nil_of_length_eq_zero (by omega)
                            simp [validL]
  | k + 1, j + 1, l, h1, h2 => by
    rw [validL, validL]
    split
    · rfl
    · rename_i hn
      have := dec_pos hn
      rw [validL_more k j _ (by rw [List.length_drop]; omega) (by rw [List.length_drop]; omega)]
def fix (l : List UInt8) : List UInt8 := fixL l.length l
def count (l : List UInt8) : Nat := countL l.length l
def valid (l : List UInt8) : Bool := validL l.length l
theorem fix_nil : fix [] = [] := rfl
theorem fix_step {l : List UInt8} (h : l ≠ []) : fix l = enc (dec l).1 ++ fix (l.drop (dec l).2) := by
  obtain ⟨n, hn⟩ : ∃ n, l.length = n + 1 := ⟨l.length - 1, by cases l with
    | nil => exact absurd rfl h
    | cons b r => simp⟩
  have hp := dec_pos h
  unfold fix
  rw [hn, fixL, if_neg h, fixL_more n (l.drop (dec l).2).length _ (by rw [List.length_drop]; omega) (Nat.le_refl _)]
theorem count_step {l : List UInt8} (h : l ≠ []) : count l = 1 + count (l.drop (dec l).2) := by
  obtain ⟨n, hn⟩ : ∃ n, l.length = n + 1 := ⟨l.length - 1, by cases l with
    | nil => exact absurd rfl h
    | cons b r => simp⟩
  have hp := dec_pos h
  unfold count
  rw [hn, countL, if_neg h, countL_more n (l.drop (dec l).2).length _ (by rw [List.length_drop]; omega) (Nat.le_refl _)]
theorem valid_step {l : List UInt8} (h : l ≠ []) : valid l = ((nextL l).2.2 && valid (l.drop (dec l).2)) := by
  obtain ⟨n, hn⟩ : ∃ n, l.length = n + 1 := ⟨l.length - 1, by cases l with
    | nil => exact absurd rfl h
    | cons b r => simp⟩
  have hp := dec_pos h
  unfold valid
  rw [hn, validL, if_neg h, validL_more n (l.drop (dec l).2).length _ (by rw [List.length_drop]; omega) (Nat.le_refl _)]
theorem enc_ne (c : Nat) (t : List UInt8) : enc c ++ t ≠ [] := by
  have h1 := enc_pos c
  intro h
  have h2 := congrArg List.length h
  rw [List.length_append, List.length_nil] at h2
  omega
theorem fix_enc {c : Nat} (h : isC c = true) (t : List UInt8) : fix (enc c ++ t) = enc c ++ fix t := by
  rw [fix_step (enc_ne c t), dec_enc h, List.drop_left]
theorem count_enc {c : Nat} (h : isC c = true) (t : List UInt8) : count (enc c ++ t) = 1 + count t := by
  rw [count_step (enc_ne c t), dec_enc h, List.drop_left]
theorem next_enc {c : Nat} (h : isC c = true) (t : List UInt8) : nextL (enc c ++ t) = (c, (enc c).length, true) := by
  unfold nextL
  rw [dec_enc h]
  have : ((c == 65533) && ((enc c).length == 1)) = false := by
    by_cases hc : c = 65533
    · subst hc; rfl
    · simp [hc]
  simp [this]
theorem valid_enc {c : Nat} (h : isC c = true) (t : List UInt8) : valid (enc c ++ t) = valid t := by
  rw [valid_step (enc_ne c t), next_enc h, dec_enc h, List.drop_left]; rfl
/-- the text is one of characters alone -/
inductive Chars : List UInt8 → Prop
  | nil : Chars []
  | cons (c : Nat) (t : List UInt8) : isC c = true → Chars t → Chars (enc c ++ t)
theorem fix_chars : ∀ (n : Nat) (l : List UInt8), l.length ≤ n → Chars (fix l) ∧ count (fix l) = count l
  | 0, l, h => by obtain rfl : l = [] := List.eq_nil_of_length_eq_zero (by omega)
                  exact ⟨.nil, rfl⟩
  | n + 1, l, h => by
    by_cases hl : l = []
    · subst hl; exact ⟨.nil, rfl⟩
    · have hp := dec_pos hl
      obtain ⟨i1, i2⟩ := fix_chars n (l.drop (dec l).2) (by rw [List.length_drop]; omega)
      rw [fix_step hl, count_enc hp.2.2.2, i2, ← count_step hl]
      exact ⟨.cons _ _ hp.2.2.2 i1, rfl⟩
theorem Chars.behind {a : List UInt8} (h : Chars a) (b : List UInt8) : fix (a ++ b) = a ++ fix b ∧ count (a ++ b) = count a + count b ∧ valid (a ++ b) = valid b := by
  induction h with
  | nil => exact ⟨rfl, by simp [count, countL], rfl⟩
  | cons c t hc _ ih =>
    rw [List.append_assoc, fix_enc hc, count_enc hc, valid_enc hc, count_enc hc, ih.1, ih.2.1, ih.2.2, List.append_assoc]
    exact ⟨rfl, by omega, rfl⟩
theorem valid_chars : ∀ (n : Nat) (l : List UInt8), l.length ≤ n → valid l = true → Chars l
  | 0, l, h, _ => by obtain rfl : l = [] := List.eq_nil_of_length_eq_zero (by omega)
                     exact .nil
  | n + 1, l, h, hv => by
    by_cases hl : l = []
    · subst hl; exact .nil
    · rw [valid_step hl, Bool.and_eq_true] at hv
      rcases dec_cases' hl with e | ⟨c, t, h1, h2, e⟩
      · have := hv.1; unfold nextL at this; rw [e] at this; simp at this
      · rw [h2, dec_enc h1, List.drop_left] at hv
        rw [h2]
        refine .cons c t h1 (valid_chars n t ?_ hv.2)
        have := enc_pos c
        rw [h2] at h; simp at h; omega
theorem Chars.all {a : List UInt8} (h : Chars a) : fix a = a ∧ valid a = true := by
  have := h.behind []
  rw [List.append_nil] at this
  exact ⟨by rw [this.1, fix_nil, List.append_nil], by rw [this.2.2]; rfl⟩
theorem fix_len' : ∀ (n : Nat) (l : List UInt8), l.length ≤ n → (fix l).length ≤ 3 * l.length
  | 0, l, h => by obtain rfl : l = [] := List.eq_nil_of_length_eq_zero (by omega)
                  simp [fix_nil]
  | n + 1, l, h => by
    by_cases hl : l = []
    · subst hl; simp [fix_nil]
    · have hp := dec_pos hl
      have hen : (enc (dec l).1).length ≤ 3 * (dec l).2 := by
        rcases dec_cases' hl with e | ⟨c, t, h1, h2, e⟩
        · rw [e]; decide
        · rw [e]; dsimp only; omega
      have ih := fix_len' n (l.drop (dec l).2) (by rw [List.length_drop]; omega)
      rw [List.length_drop] at ih
      rw [fix_step hl, List.length_append]
      omega
theorem fix_len (l : List UInt8) : (fix l).length ≤ 3 * l.length := fix_len' l.length l (Nat.le_refl _)
end Go.Proofs.YtodicgphndoalaaDoor
