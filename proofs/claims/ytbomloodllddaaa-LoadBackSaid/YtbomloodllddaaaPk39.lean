/- Walk: a text with bits turned (fretsawref03.Turned). Conditions: the text is of at most 10^6 bytes, the first bit lies in it. -/
import Derived.Test.YtbomloodllddaaaPk08
namespace Go.Proofs.Ytbomloodllddaaa
open Go.RowKit
theorem num_set : ∀ (l : List UInt8) (j m : Nat), j < l.length → m < 8 → num (l.set j (u8 (at8 l j ^^^ 2 ^ m))) = num l ^^^ 2 ^ (8 * j + m)
  | [], _, _, h, _ => by simp at h
  | b :: l, 0, m, _, hm => by
    have h2 : (2 : Nat) ^ m < 2 ^ 8 := Nat.pow_lt_pow_right (by omega) hm
    have h3 : b.toNat ^^^ 2 ^ m < 256 := Nat.xor_lt_two_pow (n := 8) b.toNat_lt h2
    have e : (u8 (at8 (b :: l) 0 ^^^ 2 ^ m)).toNat = b.toNat ^^^ 2 ^ m := by rw [u8_toNat]; exact Nat.mod_eq_of_lt h3
    rw [List.set_cons_zero, num, num, e, Nat.mul_zero, Nat.zero_add, Nat.xor_assoc, Nat.xor_comm (2 ^ m), ← Nat.xor_assoc]
  | b :: l, j + 1, m, h, hm => by
    rw [List.set_cons_succ, num, num, show at8 (b :: l) (j + 1) = at8 l j from rfl, num_set l j m (by simpa using h) hm, Nat.xor_assoc]
    congr 1
    apply Nat.eq_of_testBit_eq
    intro i
    rw [show 2 ^ (8 * (j + 1) + m) = 2 ^ 8 * 2 ^ (8 * j + m) from by rw [← Nat.pow_add]; congr 1; omega, Nat.testBit_xor, show (256 : Nat) = 2 ^ 8 from rfl, Nat.testBit_two_pow_mul, Nat.testBit_two_pow_mul, Nat.testBit_two_pow_mul, Nat.testBit_xor]
    by_cases hi : i ≥ 8 <;> simp [hi]
/-- t is s with bits turned, of 32 from the k-th on -/
def IsTurned (s t : List UInt8) (k n : Nat) : Prop := t.length = s.length ∧ ∃ q, q < 2 ^ n ∧ num s ^^^ num t = 2 ^ k * q
theorem IsTurned.refl (s : List UInt8) (k : Nat) : IsTurned s s k 0 := ⟨rfl, 0, by decide, by simp⟩
theorem IsTurned.mono {s t : List UInt8} {k n : Nat} (h : IsTurned s t k n) : IsTurned s t k (n + 1) := by
  obtain ⟨h1, q, h2, h3⟩ := h
  exact ⟨h1, q, by rw [Nat.pow_succ]; omega, h3⟩
theorem IsTurned.next {s t : List UInt8} {k n j m : Nat} (h : IsTurned s t k n) (hj : j < t.length) (hm : m < 8) (he : 8 * j + m = k + n) : IsTurned s (t.set j (u8 (at8 t j ^^^ 2 ^ m))) k (n + 1) := by
  obtain ⟨h1, q, h2, h3⟩ := h
  refine ⟨by rw [List.length_set, h1], q ^^^ 2 ^ n, Nat.xor_lt_two_pow (Nat.lt_trans h2 (by rw [Nat.pow_succ]; have := Nat.two_pow_pos n; omega)) (Nat.pow_lt_pow_right (by omega) (by omega)), ?_⟩
  rw [num_set t j m hj hm, ← Nat.xor_assoc, h3, he, Nat.pow_add]
  apply Nat.eq_of_testBit_eq
  intro i
  rw [Nat.testBit_xor, Nat.testBit_two_pow_mul, Nat.testBit_two_pow_mul, Nat.testBit_two_pow_mul, Nat.testBit_xor]
  by_cases hi : i ≥ k <;> simp [hi]
def natsOf (l : List UInt8) : List Int := l.map fun b => (b.toNat : Int)
theorem toU8s_natsOf (l : List UInt8) : toU8s (natsOf l) = l := by
  induction l with
  | nil => rfl
  | cons b l ih => show u8 b.toNat :: _ = _; rw [u8_self]; exact congrArg _ ih
/-- '[]byte(s)', the row's place known -/
theorem wp_bytes_at {P : Program} {w : World} {ops : Array Oper} {rest : List Oper} {o : Oper} {a : Act} {Q : Exit → Act → World → Prop} {e : TypeId} {t d : TypeId} (B : Nat) (s : ByteArray) (h1 : P.underlying t = some .string) (h3 : P.underlying d = some (.slice e)) (h2 : P.underlying e = some (.int .u8))
    (hg : o.guard = none) (x' : Operand) (hop : o.op = Op.convert t d x') (hs : a.eval x' = .string s) (hB : B ≤ w.heap.size) (hm : s.size ≤ maxLen)
    (hK : ∀ g cap w', OwnI B e .u8 w' (.slice (some ⟨g, 0, none⟩) s.size cap) (natsOf s.data.toList) → Below w.heap.size w w' → wpList P ops Q rest (a.put o.dst (.slice (some ⟨g, 0, none⟩) s.size cap)) w') : wpList P ops Q (o :: rest) a w := by
  refine wpList_plain hg fun K hK' => ?_
  have hrun := run_bytes_of_string (P := P) w t d e s h1 h3 h2
  have hown := own_of_bytes (w := w) (B := B) (e := e) s hB hm
  unfold Oper.wp
  simp [execOp, hop, hs, hrun, Result.andThen]
  refine hK' _ _ (hK _ _ _ hown ?_)
  exact ((Below.refl _ _).drew).alloc (by simp) _
/-- a byte of the row -/
theorem byte_cell {B e g cap n : Nat} {w : World} {l : List UInt8} (h : OwnC B e 1 w (.slice (some ⟨g, 0, none⟩) n cap) n ((natsOf l).map (Value.int .u8))) (hn : n = l.length) (j : Nat) (hj : j < n) : w.cell? ⟨g, j, none⟩ = some (.int .u8 (at8 l j : Nat)) := by
  rw [OwnC.cell h j (by omega)]
  subst hn
  unfold at8 natsOf
  simp [List.getD, hj]
theorem byte_store {B e g cap n : Nat} {w : World} {l : List UInt8} (h : OwnC B e 1 w (.slice (some ⟨g, 0, none⟩) n cap) n ((natsOf l).map (Value.int .u8))) (j x : Nat) (hx : x < 256) :
    OwnC B e 1 (w.setCell ⟨g, j, none⟩ (.int .u8 (x : Int))) (.slice (some ⟨g, 0, none⟩) n cap) n ((natsOf (l.set j (u8 x))).map (Value.int .u8)) := by
  have := OwnC.store h j (.int .u8 (x : Int))
  have e : ((natsOf l).map (Value.int .u8)).set j (.int .u8 (x : Int)) = (natsOf (l.set j (u8 x))).map (Value.int .u8) := by
    unfold natsOf
    rw [List.map_set, List.map_set, u8_toNat, Nat.mod_eq_of_lt hx]
  rwa [e] at this

set_option maxRecDepth 100000 in
set_option maxHeartbeats 400000 in
theorem ref_Turned (s : ByteArray) (hs : s.size ≤ 1000000000) (k : Nat) (hk : k < 8 * s.size) (p : Nat) (hp : U32 p) (w : World) :
    Calls Try.prog 20 #[.string s, .int .i64 k, .int .u32 p] w fun e w' => (∃ t : List UInt8, e = .returned (.string ⟨t.toArray⟩) ∧ IsTurned s.data.toList t k 32) ∧ Below w.heap.size w w' := by
  have hp' := u32_le hp
  go_enter Try.func20, Try.ntmps20
  repeat' (first | (with_reducible refine wp_bytes_at w.heap.size s Try.underlying9 Try.underlying58 Try.underlying5 rfl _ rfl rfl (Nat.le_refl _) (by unfold maxLen; omega) ?_; rintro g cap w1 hown hb1) | go_values | go_skip | go_guarded | go_step | go_upon)
  have Ho : Hid (OwnC w.heap.size 5 1 w1 (.slice (some ⟨g, 0, none⟩) s.size cap) s.size ((natsOf s.data.toList).map (Value.int .u8))) := Lib.hid (by
    have h := hown
    unfold OwnI at h
    rwa [show (natsOf s.data.toList).length = s.size from by simp [natsOf]] at h)
  have Hb := Lib.hid hb1
  have hBg : w.heap.size ≤ g := OwnI.below hown rfl
  clear hown hb1
  go_loopw [8] (fun s8 w' => ∃ (i : Nat) (t : List UInt8), s8 = .int .i64 i ∧ i ≤ 32 ∧ Hid (Below w.heap.size w w') ∧ Hid (t.length = s.size) ∧ Hid (IsTurned s.data.toList t k i) ∧ Hid (OwnC w.heap.size 5 1 w' (.slice (some ⟨g, 0, none⟩) s.size cap) s.size ((natsOf t).map (Value.int .u8)))) (fun s8 _ => 32 - (intOf s8).toNat)
  case atStart => exact ⟨0, s.data.toList, rfl, by omega, Hb, Lib.hid (by simp), Lib.hid (IsTurned.refl _ _), Ho⟩
  case round =>
    obtain ⟨i, t, rfl, hi, Hb2, Hl, Ht, Ho2⟩ := hrel
    by_cases hi2 : i < 32
    · by_cases hbit : p / 2 ^ i % 2 = 1
      · have hb' : (((p : Int) / 2 ^ i).tmod 2 == 1) = true := by
          have h : (p : Int) / 2 ^ i = ((p / 2 ^ i : Nat) : Int) := by simp
          rw [h]
          have h2 : ((p / 2 ^ i : Nat) : Int).tmod 2 = ((p / 2 ^ i % 2 : Nat) : Int) := rfl
          rw [h2]; simp; omega
        by_cases hin : (k + i) / 8 < s.size
        · have hin' : ((k : Int) + i) / 8 < s.size := by omega
          obtain ⟨j, hj⟩ : ∃ j, (k + i) / 8 = j := ⟨_, rfl⟩
          rw [hj] at hin
          have hc := byte_cell Ho2.out Hl.out.symm j hin
          have hf := OwnC.free Ho2.out j (by omega)
          have hm8 : (k + i) % 8 < 8 := by omega
          have hpw : (2 : Nat) ^ ((k + i) % 8) < 2 ^ 8 := Nat.pow_lt_pow_right (by omega) hm8
          have hx : bits .xor .u8 ((at8 t j : Nat) : Int) ((2 : Int) ^ ((k + i) % 8) % 256) = ((at8 t j ^^^ 2 ^ ((k + i) % 8) : Nat) : Int) := by
            have e : ((2 : Int) ^ ((k + i) % 8) % 256) = ((2 ^ ((k + i) % 8) : Nat) : Int) := by
              rw [show (2 : Int) ^ ((k + i) % 8) = ((2 ^ ((k + i) % 8) : Nat) : Int) from by simp]
              exact Int.emod_eq_of_lt (Int.natCast_nonneg _) (Int.ofNat_lt.2 hpw)
            rw [e, u8_xor_nat _ _ (at8_lt t j) (by omega)]
          have hxl : at8 t j ^^^ 2 ^ ((k + i) % 8) < 256 := Nat.xor_lt_two_pow (n := 8) (at8_lt t j) hpw
          have hst := Lib.hid (byte_store Ho2.out j _ hxl)
          have hnx := Lib.hid (Ht.out.next (by rw [Hl.out]; exact hin) hm8 (by omega))
          have hjj := Lib.hid hj
          clear hpw hm8
          repeat' (first | go_values | go_skip | go_guarded | go_step | go_upon)
          go_roundw
          case rel => exact ⟨i + 1, _, by go_num, hi2, Lib.hid (Hb2.out.setCell hBg _), Lib.hid (by rw [List.length_set]; exact Hl.out), hnx, hst⟩
          case measure => simp [intOf]; omega
        · have hin' : ¬ ((k : Int) + i) / 8 < s.size := by omega
          repeat' (first | go_values | go_skip | go_guarded | go_step | go_upon)
          go_roundw
          case rel => exact ⟨i + 1, t, by go_num, hi2, Hb2, Hl, Lib.hid Ht.out.mono, Ho2⟩
          case measure => simp [intOf]; omega
      · have hb' : (((p : Int) / 2 ^ i).tmod 2 == 1) = false := by
          have h : (p : Int) / 2 ^ i = ((p / 2 ^ i : Nat) : Int) := by simp
          rw [h]
          have h2 : ((p / 2 ^ i : Nat) : Int).tmod 2 = ((p / 2 ^ i % 2 : Nat) : Int) := rfl
          rw [h2]; simp; omega
        repeat' (first | go_values | go_skip | go_guarded | go_step | go_upon)
        go_roundw
        case rel => exact ⟨i + 1, t, by go_num, hi2, Hb2, Hl, Lib.hid Ht.out.mono, Ho2⟩
        case measure => simp [intOf]; omega
    · obtain rfl : i = 32 := by omega
      have hou : OwnI w.heap.size 5 .u8 ‹World› (.slice (some ⟨g, 0, none⟩) s.size cap) (natsOf t) := by
        have h := Ho2.out
        unfold OwnI
        rwa [show (natsOf t).length = s.size from by rw [← Hl.out]; simp [natsOf]]
      repeat' (first | (with_reducible refine wp_conv_own Try.underlying58 Try.underlying5 Try.underlying9 rfl _ rfl rfl hou ?_) | go_values | go_skip | go_guarded | go_step | go_upon)
      go_ret
      exact ⟨⟨_, rfl, by rw [toU8s_natsOf]; exact Ht.out⟩, Hb2.out⟩
end Go.Proofs.Ytbomloodllddaaa
