/- The sum of a text, in plain numbers: the register's step is linear over the bits. No conditions. -/
import Derived.Test.YtbomloodllddaaaPk00
namespace Go.Proofs.Ytbomloodllddaaa
def poly : Nat := 3988292384
/-- one bit's step -/
def stp (c : Nat) : Nat := if c % 2 = 1 then c / 2 ^^^ poly else c / 2
def stps : Nat → Nat → Nat
  | 0, c => c
  | k + 1, c => stps k (stp c)
theorem stps_end : ∀ k c, stps (k + 1) c = stp (stps k c)
  | 0, _ => rfl
  | k + 1, c => by rw [stps, stps_end k (stp c)]; rfl
theorem stps_add (j : Nat) : ∀ k c, stps (k + j) c = stps j (stps k c)
  | 0, c => by rw [Nat.zero_add]; rfl
  | k + 1, c => by rw [Nat.add_right_comm, stps, stps_add j k]; rfl
theorem xor_mod2 (a b : Nat) : (a ^^^ b) % 2 = (a % 2 + b % 2) % 2 := by
  have := @Nat.xor_mod_two_pow a b 1
  simp only [Nat.pow_one] at this
  rw [this]
  rcases Nat.mod_two_eq_zero_or_one a with ha | ha <;> rcases Nat.mod_two_eq_zero_or_one b with hb | hb <;> rw [ha, hb] <;> rfl
theorem xor_div2 (a b : Nat) : (a ^^^ b) / 2 = a / 2 ^^^ b / 2 := by
  apply Nat.eq_of_testBit_eq
  intro i
  simp [Nat.testBit_div_two]
theorem xor_left (a b c : Nat) : a ^^^ (b ^^^ c) = b ^^^ (a ^^^ c) := by rw [← Nat.xor_assoc, Nat.xor_comm a b, Nat.xor_assoc]
theorem xor_same (a b : Nat) : a ^^^ (a ^^^ b) = b := by rw [← Nat.xor_assoc, Nat.xor_self, Nat.zero_xor]
theorem stp_xor (a b : Nat) : stp (a ^^^ b) = stp a ^^^ stp b := by
  unfold stp
  rw [xor_mod2, xor_div2]
  rcases Nat.mod_two_eq_zero_or_one a with ha | ha <;> rcases Nat.mod_two_eq_zero_or_one b with hb | hb <;> rw [ha, hb]
  all_goals simp [xor_left, xor_same, Nat.xor_comm]
theorem stps_xor : ∀ k a b, stps k (a ^^^ b) = stps k a ^^^ stps k b
  | 0, _, _ => rfl
  | k + 1, a, b => by rw [stps, stp_xor, stps_xor k]; rfl
theorem stp_zero : stp 0 = 0 := by decide
theorem stps_zero : ∀ k, stps k 0 = 0
  | 0 => rfl
  | k + 1 => by rw [stps, stp_zero, stps_zero k]
theorem stps_shift : ∀ k x, stps k (2 ^ k * x) = x
  | 0, x => by rw [Nat.pow_zero, Nat.one_mul]; rfl
  | k + 1, x => by
    have e : 2 ^ (k + 1) * x = 2 * (2 ^ k * x) := by rw [Nat.pow_succ, Nat.mul_comm (2 ^ k) 2, Nat.mul_assoc]
    rw [stps, e]
    have : stp (2 * (2 ^ k * x)) = 2 ^ k * x := by unfold stp; rw [if_neg (by omega)]; omega
    rw [this, stps_shift k x]
theorem stp_lt {c : Nat} (h : c < 4294967296) : stp c < 4294967296 := by
  unfold stp
  split
  · exact Nat.xor_lt_two_pow (n := 32) (by omega) (by decide)
  · omega
theorem stps_lt : ∀ k {c : Nat}, c < 4294967296 → stps k c < 4294967296
  | 0, _, h => h
  | k + 1, c, h => by rw [stps]; exact stps_lt k (stp_lt h)
theorem stp_ne {c : Nat} (h : c < 4294967296) (h0 : c ≠ 0) : stp c ≠ 0 := by
  unfold stp
  split
  · intro he
    have h1 := congrArg (fun x => Nat.testBit x 31) he
    simp only [Nat.testBit_xor, Nat.zero_testBit] at h1
    rw [Nat.testBit_lt_two_pow (show c / 2 < 2 ^ 31 by omega)] at h1
    exact absurd h1 (by decide)
  · omega
theorem stps_ne : ∀ k {c : Nat}, c < 4294967296 → c ≠ 0 → stps k c ≠ 0
  | 0, _, _, h0 => h0
  | k + 1, _, h, h0 => by rw [stps]; exact stps_ne k (stp_lt h) (stp_ne h h0)

/-- a text's bytes as one number, the first the lowest -/
def num : List UInt8 → Nat
  | [] => 0
  | b :: t => b.toNat ^^^ (256 * num t)
/-- the register behind a text -/
def reg (c : Nat) (t : List UInt8) : Nat := t.foldl (fun c b => stps 8 (c ^^^ b.toNat)) c
theorem reg_nil (c : Nat) : reg c [] = c := List.foldl_nil
theorem reg_cons (c : Nat) (b : UInt8) (t : List UInt8) : reg c (b :: t) = reg (stps 8 (c ^^^ b.toNat)) t := List.foldl_cons ..
theorem reg_append (t : List UInt8) (s : List UInt8) : ∀ c : Nat, reg c (s ++ t) = reg (reg c s) t := by
  induction s with
  | nil => intro c; rw [List.nil_append, reg_nil]
  | cons b s ih => intro c; rw [List.cons_append, reg_cons, reg_cons, ih]
theorem reg_snoc (c : Nat) (s : List UInt8) (b : UInt8) : reg c (s ++ [b]) = stps 8 (reg c s ^^^ b.toNat) := by rw [reg_append, reg_cons, reg_nil]
theorem reg_num : ∀ (t : List UInt8) (c : Nat), reg c t = stps (8 * t.length) (c ^^^ num t)
  | [], c => by rw [num, Nat.xor_zero, reg_nil]; rfl
  | b :: t, c => by
    rw [reg_cons, reg_num t, num, ← Nat.xor_assoc, List.length_cons, show 8 * (t.length + 1) = 8 + 8 * t.length from by omega, stps_add, stps_xor 8 (c ^^^ b.toNat), show 256 * num t = 2 ^ 8 * num t from rfl, stps_shift]
theorem reg_lt {c : Nat} (h : c < 4294967296) : ∀ t : List UInt8, reg c t < 4294967296 := by
  intro t
  induction t generalizing c with
  | nil => exact h
  | cons b t ih => rw [reg_cons]; exact ih (stps_lt 8 (Nat.xor_lt_two_pow (n := 32) h (by have := b.toNat_lt; omega)))
theorem num_inj : ∀ {s t : List UInt8}, s.length = t.length → num s = num t → s = t
  | [], [], _, _ => rfl
  | a :: s, b :: t, hl, h => by
    simp only [num] at h
    have h1 := congrArg (· % 256) h
    have h2 := congrArg (· / 256) h
    have m : ∀ x y : Nat, (x ^^^ 256 * y) % 256 = x % 256 := fun x y => by
      have := @Nat.xor_mod_two_pow x (256 * y) 8
      simpa using this
    have d : ∀ x y : Nat, x < 256 → (x ^^^ 256 * y) / 256 = y := fun x y hx => by
      have := @Nat.xor_div_two_pow x (256 * y) 8
      have e : x / 256 = 0 := Nat.div_eq_of_lt hx
      simpa [e] using this
    rw [m, m, Nat.mod_eq_of_lt a.toNat_lt, Nat.mod_eq_of_lt b.toNat_lt] at h1
    rw [d _ _ a.toNat_lt, d _ _ b.toNat_lt] at h2
    rw [UInt8.toNat_inj.1 h1, num_inj (by simpa using hl) h2]
/-- a sum, turned round -/
def inv32 (c : Nat) : Nat := 4294967295 - c
theorem inv32_xor {c : Nat} (h : c < 4294967296) : inv32 c = 4294967295 ^^^ c := by
  have h2 : 4294967295 ^^^ c < 2 ^ 32 := Nat.xor_lt_two_pow (by decide) h
  have e : (BitVec.ofNat 32 (inv32 c)) = (BitVec.ofNat 32 (4294967295 ^^^ c)) := by
    have e1 : BitVec.ofNat 32 (4294967295 ^^^ c) = ~~~ (BitVec.ofNat 32 c) := by
      rw [BitVec.ofNat_xor, show BitVec.ofNat 32 4294967295 = BitVec.allOnes 32 from by decide, BitVec.allOnes_xor]
    rw [e1]
    apply BitVec.eq_of_toNat_eq
    rw [BitVec.toNat_not, BitVec.toNat_ofNat, BitVec.toNat_ofNat, Nat.mod_eq_of_lt h, Nat.mod_eq_of_lt (by unfold inv32; omega)]
    rfl
  have e' := congrArg BitVec.toNat e
  rwa [BitVec.toNat_ofNat, BitVec.toNat_ofNat, Nat.mod_eq_of_lt (by unfold inv32; omega), Nat.mod_eq_of_lt h2] at e'
theorem inv32_inv {c : Nat} (h : c < 4294967296) : inv32 (inv32 c) = c := by unfold inv32; omega
theorem inv32_lt (c : Nat) : inv32 c < 4294967296 := by unfold inv32; omega
/-- the sum that goes on from c -/
def sumOn (c : Nat) (t : List UInt8) : Nat := inv32 (reg (inv32 c) t)
theorem sumOn_lt (c : Nat) (t : List UInt8) : sumOn c t < 4294967296 := inv32_lt _
theorem sumOn_append {c : Nat} (s t : List UInt8) : sumOn c (s ++ t) = sumOn (sumOn c s) t := by
  unfold sumOn
  rw [inv32_inv (reg_lt (inv32_lt c) s), reg_append]
theorem sumOn_nil {c : Nat} (h : c < 4294967296) : sumOn c [] = c := inv32_inv h
theorem inv32_inj {a b : Nat} (ha : a < 4294967296) (hb : b < 4294967296) (h : inv32 a = inv32 b) : a = b := by unfold inv32 at h; omega
/-- two texts of one length that have one sum, and are parted by less than 32 bits from a bit on, are one -/
theorem burst {c : Nat} {s t : List UInt8} (hl : s.length = t.length) {k p : Nat} (hp : p < 4294967296) (hx : num s ^^^ num t = 2 ^ k * p) (hk : k ≤ 8 * s.length) (he : sumOn c s = sumOn c t) : s = t := by
  have h := inv32_inj (reg_lt (inv32_lt c) s) (reg_lt (inv32_lt c) t) he
  rw [reg_num, reg_num, ← hl] at h
  have h0 : stps (8 * s.length) (2 ^ k * p) = 0 := by
    rw [← hx]
    have : num s ^^^ num t = (inv32 c ^^^ num s) ^^^ (inv32 c ^^^ num t) := by
      rw [Nat.xor_assoc, ← Nat.xor_assoc (num s), Nat.xor_comm (num s) (inv32 c), Nat.xor_assoc, ← Nat.xor_assoc, Nat.xor_self, Nat.zero_xor]
    rw [this, stps_xor, h, Nat.xor_self]
  rw [show 8 * s.length = k + (8 * s.length - k) from by omega, stps_add, stps_shift] at h0
  have hp0 : p = 0 := by
    by_cases hz : p = 0
    · exact hz
    · exact absurd h0 (stps_ne _ hp hz)
  rw [hp0, Nat.mul_zero] at hx
  refine num_inj hl ?_
  have := congrArg (· ^^^ num t) hx
  simpa [Nat.xor_assoc] using this
theorem xor_low2 (b : Nat) : b % 2 ^^^ 2 * (b / 2) = b := by
  apply Nat.eq_of_testBit_eq
  intro i
  cases i with
  | zero => simp [Nat.testBit_zero, xor_mod2]
  | succ i => rw [Nat.testBit_succ, xor_div2, Nat.testBit_succ b]; congr 1; rw [show b % 2 / 2 = 0 from by omega, Nat.zero_xor]; omega
theorem stp_bit (c b : Nat) : stp (c ^^^ b) = stp (c ^^^ (b % 2)) ^^^ (b / 2) := by
  conv => lhs; rw [← xor_low2 b, ← Nat.xor_assoc, stp_xor]
  congr 1
  exact stps_shift 1 (b / 2)
theorem xor_low8 (c : Nat) : c % 256 ^^^ 256 * (c / 256) = c := by
  apply Nat.eq_of_testBit_eq
  intro i
  have e1 : 256 * (c / 256) = 2 ^ 8 * (c / 2 ^ 8) := rfl
  have e2 : c % 256 = c % 2 ^ 8 := rfl
  rw [e1, e2, Nat.testBit_xor, Nat.testBit_two_pow_mul, Nat.testBit_mod_two_pow, Nat.testBit_div_two_pow]
  by_cases hi : i < 8
  · have h2 : ¬ 8 ≤ i := by omega
    simp [hi, h2]
  · have h2 : 8 ≤ i := by omega
    have h3 : i - 8 + 8 = i := by omega
    simp [hi, h2, h3]
/-- a byte's eight steps, by the table -/
theorem stps_table (c b : Nat) : stps 8 (c % 256 ^^^ b) ^^^ c / 256 = stps 8 (c ^^^ b) := by
  conv => rhs; rw [← xor_low8 c, Nat.xor_assoc, Nat.xor_comm (256 * (c / 256)), ← Nat.xor_assoc, stps_xor]
  congr 1
  exact (stps_shift 8 (c / 256)).symm
end Go.Proofs.Ytbomloodllddaaa
/- Lists of numbers, in plain Lean. -/
namespace Go.Proofs.Ytbomloodllddaaa
/-- n numbers from a place on, the place behind them, the error -/
def getn (t : List UInt8) : Nat → Int → List Nat × Int × Int
  | 0, a => ([], a, 0)
  | n + 1, a => if (vget t a).2.2 ≠ 0 then ([], 0, (vget t a).2.2) else
      if (getn t n (vget t a).2.1).2.2 ≠ 0 then ([], 0, (getn t n (vget t a).2.1).2.2) else ((vget t a).1 :: (getn t n (vget t a).2.1).1, (getn t n (vget t a).2.1).2.1, 0)
/-- what GetAll tells -/
def geta (t : List UInt8) (a most : Int) : List Nat × Int × Int :=
  if (vget t a).2.2 ≠ 0 then ([], 0, (vget t a).2.2) else
  if max most 0 < ((vget t a).1 : Int) then ([], 0, 2) else getn t (vget t a).1 (vget t a).2.1
/-- numbers ahead of what is read -/
def ahead (l : List Nat) (q : List Nat × Int × Int) : List Nat × Int × Int := if q.2.2 ≠ 0 then ([], 0, q.2.2) else (l ++ q.1, q.2.1, 0)
theorem ahead_nil (t : List UInt8) : ∀ n a, ahead [] (getn t n a) = getn t n a
  | 0, a => rfl
  | n + 1, a => by
    rw [getn]
    split
    · unfold ahead; rw [if_pos (by assumption)]
    · split
      · unfold ahead; rw [if_pos (by assumption)]
      · rfl
theorem ahead_zero (t : List UInt8) (l : List Nat) (a : Int) : ahead l (getn t 0 a) = (l, a, 0) := by simp [ahead, getn]
theorem ahead_bad {t : List UInt8} (l : List Nat) {n : Nat} {a e x : Int} {y : Nat} (h : vget t a = (y, x, e)) (he : e ≠ 0) : ahead l (getn t (n + 1) a) = ([], 0, e) := by
  rw [getn, h, if_pos he]
  unfold ahead; rw [if_pos he]
theorem ahead_step {t : List UInt8} (l : List Nat) {n x : Nat} {a tq : Int} (h : vget t a = (x, tq, 0)) : ahead l (getn t (n + 1) a) = ahead (l ++ [x]) (getn t n tq) := by
  rw [getn, h, if_neg (by simp)]
  dsimp only
  by_cases hq : (getn t n tq).2.2 ≠ 0
  · rw [if_pos hq]
    unfold ahead
    rw [if_pos hq, if_pos hq]
  · rw [if_neg hq]
    unfold ahead
    rw [if_neg hq, if_neg (by simp)]
    simp
theorem geta_bad {t : List UInt8} {a most e : Int} (h : vget t a = (0, 0, e)) (he : e ≠ 0) : geta t a most = ([], 0, e) := by
  unfold geta; rw [h]; exact if_pos he
theorem geta_long {t : List UInt8} {a most tq : Int} {n : Nat} (h : vget t a = (n, tq, 0)) (hn : max most 0 < (n : Int)) : geta t a most = ([], 0, 2) := by
  unfold geta; rw [h, if_neg (by simp)]; exact if_pos hn
theorem geta_go {t : List UInt8} {a most tq : Int} {n : Nat} (h : vget t a = (n, tq, 0)) (hn : ¬ max most 0 < (n : Int)) : geta t a most = getn t n tq := by
  unfold geta; rw [h, if_neg (by simp)]; exact if_neg hn
def nats (l : List Nat) : List Int := l.map fun n : Nat => (n : Int)
theorem nats_append (a b : List Nat) : nats (a ++ b) = nats a ++ nats b := by simp [nats]
theorem nats_len (a : List Nat) : (nats a).length = a.length := by simp [nats]
end Go.Proofs.Ytbomloodllddaaa
