/- Ones of a word, counted as Go's math/bits does it (Bits.ones); the lowest one of a word (Bits.low_bit): in plain Lean. No program. -/
import Init
namespace Go.Proofs.YtnbfifmnigeolaaDoor.Bits
/-- bytes to a number, the lowest first -/
def val : List Nat → Nat
  | [] => 0
  | b :: r => b + 256 * val r
theorem and_split (l h a b : Nat) (hl : l < 256) (ha : a < 256) : (l + 256 * h) &&& (a + 256 * b) = (l &&& a) + 256 * (h &&& b) := by
  have e : ∀ x y j : Nat, x < 256 → (x + 256 * y).testBit j = if j < 8 then x.testBit j else y.testBit (j - 8) := fun x y j hx => by
    rw [Nat.add_comm, show 256 = 2 ^ 8 from rfl]
    exact Nat.testBit_two_pow_mul_add (i := 8) y hx j
  have hla : l &&& a < 256 := Nat.lt_of_le_of_lt Nat.and_le_left hl
  apply Nat.eq_of_testBit_eq
  intro j
  rw [Nat.testBit_and, e _ _ _ hl, e _ _ _ ha, e _ _ _ hla]
  split
  · rw [Nat.testBit_and]
  · rw [Nat.testBit_and]
theorem val_and (k : Nat) (hk : k < 256) : ∀ bs : List Nat, (∀ b ∈ bs, b < 256) → val bs &&& val (bs.map fun _ => k) = val (bs.map (· &&& k))
  | [], _ => by simp [val]
  | b :: r, h => by
    simp only [List.map_cons, val]
    rw [and_split _ _ _ _ (h b (by simp)) hk, val_and k hk r fun x hx => h x (by simp [hx])]
theorem low_and (m x y k : Nat) (hx : x < 2 ^ m) (hk : k < 2 ^ m) : (x + 2 ^ m * y) &&& k = x &&& k := by
  apply Nat.eq_of_testBit_eq
  intro j
  rw [Nat.testBit_and, Nat.testBit_and, Nat.add_comm, Nat.testBit_two_pow_mul_add y hx j]
  split
  · rfl
  · rename_i hj
    rw [Nat.testBit_lt_two_pow (Nat.lt_of_lt_of_le hk (Nat.pow_le_pow_right (by omega) (by omega)))]
    simp
theorem val_shr_and (s m k : Nat) (hs : 2 ^ s * 2 ^ m = 256) (hk : k < 2 ^ m) : ∀ bs : List Nat, (∀ b ∈ bs, b < 256) → (val bs / 2 ^ s) &&& val (bs.map fun _ => k) = val (bs.map fun b => (b / 2 ^ s) &&& k)
  | [], _ => by simp [val]
  | b :: r, h => by
    simp only [List.map_cons, val]
    have hb := h b (by simp)
    have ih := val_shr_and s m k hs hk r fun x hx => h x (by simp [hx])
    rw [← ih]
    generalize val r = v
    generalize val (r.map fun _ => k) = K
    generalize hS : 2 ^ s = S at *
    generalize hM : 2 ^ m = M at *
    have hS0 : 0 < S := by rcases Nat.eq_zero_or_pos S with h0 | h0; · subst h0; omega
                           · exact h0
    have hbS : b / S < M := Nat.div_lt_of_lt_mul (by rw [hs]; exact hb)
    have hk2 : k < 256 := by
      have : M ≤ S * M := Nat.le_mul_of_pos_left M hS0
      omega
    have e : (b + 256 * v) / S = (b / S + M * (v % S)) + 256 * (v / S) := by
      have h1 : 256 * v = S * (M * v) := by rw [← Nat.mul_assoc, hs]
      rw [h1, Nat.add_mul_div_left _ _ hS0]
      have h2 : v = S * (v / S) + v % S := (Nat.div_add_mod v S).symm
      have h3 : M * v = M * (v % S) + 256 * (v / S) := by
        conv => lhs; rw [h2]
        rw [Nat.mul_add, ← Nat.mul_assoc, Nat.mul_comm M S, hs]; omega
      rw [h3]; omega
    have hlow : b / S + M * (v % S) < 256 := by
      have h1 : v % S < S := Nat.mod_lt _ hS0
      have h2 : M * (v % S) + M ≤ M * S := by rw [← Nat.mul_succ]; exact Nat.mul_le_mul_left M h1
      rw [Nat.mul_comm M S, hs] at h2
      omega
    rw [e, and_split _ _ _ _ hlow hk2]
    have hl : (b / S + M * (v % S)) &&& k = (b / S) &&& k := by
      rw [← hM] at hk hbS ⊢; exact low_and m _ _ _ hbS hk
    rw [hl]
theorem val_add (f g : Nat → Nat) : ∀ bs : List Nat, val (bs.map f) + val (bs.map g) = val (bs.map fun b => f b + g b)
  | [] => by simp [val]
  | b :: r => by simp only [List.map_cons, val]; have := val_add f g r; omega
/-- a byte after the first, the second, the third step -/
def s1 (b : Nat) : Nat := ((b / 2 ^ 1) &&& 85) + (b &&& 85)
def s2 (b : Nat) : Nat := ((b / 2 ^ 2) &&& 51) + (b &&& 51)
def s3 (b : Nat) : Nat := (b / 2 ^ 4 + b) % 16
def pc (b : Nat) : Nat := s3 (s2 (s1 b))
theorem steps : ∀ b, b < 256 → s1 b < 256 ∧ s2 (s1 b) % 16 ≤ 4 ∧ s2 (s1 b) / 16 ≤ 4 ∧ pc b ≤ 8 := by decide +kernel
theorem val_s3 : ∀ bs : List Nat, (∀ b ∈ bs, b % 16 ≤ 4 ∧ b / 16 ≤ 4) → (val bs / 2 ^ 4 + val bs) &&& val (bs.map fun _ => 15) = val (bs.map s3) ∧ val bs % 16 ≤ 4
  | [], _ => by simp [val]
  | b :: r, h => by
    have hb := h b (by simp)
    obtain ⟨ih, i4⟩ := val_s3 r fun x hx => h x (by simp [hx])
    simp only [List.map_cons, val]
    refine ⟨?_, by omega⟩
    rw [← ih]
    generalize val r = v at *
    have e : (b + 256 * v) / 2 ^ 4 + (b + 256 * v) = (b / 16 + b + 16 * (v % 16)) + 256 * (v / 2 ^ 4 + v) := by omega
    rw [e, and_split _ _ _ _ (by omega) (by decide)]
    have e2 : (b / 16 + b + 16 * (v % 16)) &&& 15 = s3 b := by
      rw [show 15 = 2 ^ 4 - 1 from rfl, Nat.and_two_pow_sub_one_eq_mod]
      unfold s3; omega
    rw [e2]
def bytes (x : Nat) : List Nat := [x % 256, x / 256 % 256, x / 65536 % 256, x / 16777216 % 256, x / 4294967296 % 256, x / 1099511627776 % 256, x / 281474976710656 % 256, x / 72057594037927936 % 256]
theorem val_bytes {x : Nat} (h : x < 18446744073709551616) : val (bytes x) = x := by simp only [bytes, val]; omega
theorem bytes_lt (x : Nat) : ∀ b ∈ bytes x, b < 256 := by
  intro b hb; simp only [bytes, List.mem_cons, List.not_mem_nil, or_false] at hb; omega
/-- the first two steps -/
def f1 (x : Nat) : Nat := (x / 2 ^ 1 &&& 6148914691236517205) + (x &&& 6148914691236517205)
def f2 (x : Nat) : Nat := (x / 2 ^ 2 &&& 3689348814741910323) + (x &&& 3689348814741910323)
def f3 (x : Nat) : Nat := (x / 2 ^ 4 + x) &&& 1085102592571150095
theorem f1_val (x : Nat) (h : x < 18446744073709551616) : f1 x = val ((bytes x).map s1) := by
  have e := val_bytes h
  have h1 := val_shr_and 1 7 85 (by decide) (by decide) (bytes x) (bytes_lt x)
  have h2 := val_and 85 (by decide) (bytes x) (bytes_lt x)
  have hm : val ((bytes x).map fun _ => 85) = 6148914691236517205 := by simp only [bytes, List.map_cons, List.map_nil, val]
  rw [hm, e] at h1 h2
  unfold f1
  rw [h1, h2, val_add]
  rfl
theorem f2_val (x : Nat) (h : x < 18446744073709551616) : f2 (f1 x) = val ((bytes x).map fun b => s2 (s1 b)) := by
  have hl : ∀ b ∈ (bytes x).map s1, b < 256 := fun b hb => by
    obtain ⟨c, hc, rfl⟩ := List.mem_map.1 hb
    exact (steps c (bytes_lt x c hc)).1
  have h1 := val_shr_and 2 6 51 (by decide) (by decide) _ hl
  have h2 := val_and 51 (by decide) _ hl
  have hm : val (((bytes x).map s1).map fun _ => 51) = 3689348814741910323 := by simp only [bytes, List.map_cons, List.map_nil, val]
  rw [hm, ← f1_val x h] at h1 h2
  unfold f2
  rw [h1, h2, val_add, List.map_map]
  rfl
theorem f3_val (x : Nat) (h : x < 18446744073709551616) : f3 (f2 (f1 x)) = val ((bytes x).map pc) := by
  have hl : ∀ b ∈ (bytes x).map (fun b => s2 (s1 b)), b % 16 ≤ 4 ∧ b / 16 ≤ 4 := fun b hb => by
    obtain ⟨c, hc, rfl⟩ := List.mem_map.1 hb
    have := steps c (bytes_lt x c hc)
    exact ⟨this.2.1, this.2.2.1⟩
  have h1 := (val_s3 _ hl).1
  have hm : val (((bytes x).map fun b => s2 (s1 b)).map fun _ => 15) = 1085102592571150095 := by simp only [bytes, List.map_cons, List.map_nil, val]
  rw [hm, ← f2_val x h, List.map_map] at h1
  unfold f3
  rw [h1]
  rfl
theorem sums (c0 c1 c2 c3 c4 c5 c6 c7 y : Nat) (h0 : c0 ≤ 8) (h1 : c1 ≤ 8) (h2 : c2 ≤ 8) (h3 : c3 ≤ 8) (h4 : c4 ≤ 8) (h5 : c5 ≤ 8) (h6 : c6 ≤ 8) (h7 : c7 ≤ 8)
    (hy : y = c0 + 256 * (c1 + 256 * (c2 + 256 * (c3 + 256 * (c4 + 256 * (c5 + 256 * (c6 + 256 * (c7 + 256 * 0)))))))) :
    y < 1152921504606846976 ∧ y + y / 256 < 1152921504606846976 ∧ (y + y / 256) + (y + y / 256) / 65536 < 1152921504606846976 ∧
      ((y + y / 256) + (y + y / 256) / 65536) + ((y + y / 256) + (y + y / 256) / 65536) / 4294967296 < 1152921504606846976 ∧
      (((y + y / 256) + (y + y / 256) / 65536) + ((y + y / 256) + (y + y / 256) / 65536) / 4294967296) % 128 = c0 + c1 + c2 + c3 + c4 + c5 + c6 + c7 := by
  have g1 : y / 256 = c1 + 256 * (c2 + 256 * (c3 + 256 * (c4 + 256 * (c5 + 256 * (c6 + 256 * c7))))) := by omega
  obtain ⟨z, hz⟩ : ∃ z, z = y + y / 256 := ⟨_, rfl⟩
  rw [← hz]
  have g2 : z = (c0 + c1) + 256 * (c1 + c2) + 65536 * (c2 + c3) + 16777216 * (c3 + c4) + 4294967296 * (c4 + c5) + 1099511627776 * (c5 + c6) + 281474976710656 * (c6 + c7) + 72057594037927936 * c7 := by rw [hz, g1, hy]; omega
  have g3 : z / 65536 = (c2 + c3) + 256 * (c3 + c4) + 65536 * (c4 + c5) + 16777216 * (c5 + c6) + 4294967296 * (c6 + c7) + 1099511627776 * c7 := by clear hz g1 hy; omega
  obtain ⟨u, hu⟩ : ∃ u, u = z + z / 65536 := ⟨_, rfl⟩
  rw [← hu]
  have g4 : u = (c0 + c1 + c2 + c3) + 256 * (c1 + c2 + c3 + c4) + 65536 * (c2 + c3 + c4 + c5) + 16777216 * (c3 + c4 + c5 + c6) + 4294967296 * (c4 + c5 + c6 + c7) + 1099511627776 * (c5 + c6 + c7) + 281474976710656 * (c6 + c7) + 72057594037927936 * c7 := by rw [hu, g3, g2]; omega
  have g5 : u / 4294967296 = (c4 + c5 + c6 + c7) + 256 * (c5 + c6 + c7) + 65536 * (c6 + c7) + 16777216 * c7 := by clear hu g3 g2 hz g1 hy; omega
  refine ⟨by rw [hy]; clear hu g3 g2 hz g1 hy g4 g5; omega, by rw [g2]; clear hu g3 g2 hz g1 hy g4 g5; omega, by rw [g4]; clear hu g3 g2 hz g1 hy g4 g5; omega, by rw [g5, g4]; clear hu g3 g2 hz g1 hy g4 g5; omega, ?_⟩
  rw [g5, g4]
  clear hu g3 g2 hz g1 hy g4 g5
  omega
/-- how many of the first n are so -/
def cnt (f : Nat → Bool) (n : Nat) : Nat := (List.range n).countP f
theorem cnt_add (f : Nat → Bool) (a b : Nat) : cnt f (a + b) = cnt f a + cnt (fun j => f (a + j)) b := by
  unfold cnt
  rw [List.range_add, List.countP_append, List.countP_map]
  rfl
theorem cnt_congr {f g : Nat → Bool} {n : Nat} (h : ∀ j, j < n → f j = g j) : cnt f n = cnt g n := by
  unfold cnt
  exact List.countP_congr fun j hj => by rw [h j (List.mem_range.1 hj)]
theorem pc_cnt : ∀ b, b < 256 → pc b = cnt b.testBit 8 := by decide +kernel
theorem pc_byte (x i : Nat) : pc (x / 2 ^ i % 256) = cnt (fun j => x.testBit (i + j)) 8 := by
  rw [pc_cnt _ (Nat.mod_lt _ (by decide))]
  refine cnt_congr fun j hj => ?_
  rw [show 256 = 2 ^ 8 from rfl, Nat.testBit_mod_two_pow, Nat.testBit_div_two_pow, Nat.add_comm]
  simp [hj]
theorem pc_sum (x : Nat) : pc (x % 256) + pc (x / 256 % 256) + pc (x / 65536 % 256) + pc (x / 16777216 % 256) + pc (x / 4294967296 % 256) + pc (x / 1099511627776 % 256) + pc (x / 281474976710656 % 256) + pc (x / 72057594037927936 % 256) = cnt x.testBit 64 := by
  have h0 := pc_byte x 0
  have h1 := pc_byte x 8
  have h2 := pc_byte x 16
  have h3 := pc_byte x 24
  have h4 := pc_byte x 32
  have h5 := pc_byte x 40
  have h6 := pc_byte x 48
  have h7 := pc_byte x 56
  simp only [Nat.reducePow, Nat.div_one] at h0 h1 h2 h3 h4 h5 h6 h7
  have e : cnt x.testBit 64 = cnt (fun j => x.testBit (0 + j)) 8 + cnt (fun j => x.testBit (8 + j)) 8 + cnt (fun j => x.testBit (16 + j)) 8 + cnt (fun j => x.testBit (24 + j)) 8 + cnt (fun j => x.testBit (32 + j)) 8 + cnt (fun j => x.testBit (40 + j)) 8 + cnt (fun j => x.testBit (48 + j)) 8 + cnt (fun j => x.testBit (56 + j)) 8 := by
    have c7 := cnt_add x.testBit 56 8
    have c6 := cnt_add x.testBit 48 8
    have c5 := cnt_add x.testBit 40 8
    have c4 := cnt_add x.testBit 32 8
    have c3 := cnt_add x.testBit 24 8
    have c2 := cnt_add x.testBit 16 8
    have c1 := cnt_add x.testBit 8 8
    have c0 := cnt_add x.testBit 0 8
    have z : cnt x.testBit 0 = 0 := rfl
    simp only [Nat.reduceAdd] at c0 c1 c2 c3 c4 c5 c6 c7
    omega
  rw [e, h0, h1, h2, h3, h4, h5, h6, h7]
/-- what Go's steps make -/
def f4 (y : Nat) : Nat := y + y / 256
def f5 (y : Nat) : Nat := y + y / 65536
def f6 (y : Nat) : Nat := y + y / 4294967296
theorem ones (x : Nat) (h : x < 18446744073709551616) : f6 (f5 (f4 (f3 (f2 (f1 x))))) % 128 = cnt x.testBit 64 ∧ f3 (f2 (f1 x)) < 1152921504606846976 ∧ f4 (f3 (f2 (f1 x))) < 1152921504606846976 ∧ f5 (f4 (f3 (f2 (f1 x)))) < 1152921504606846976 ∧ f6 (f5 (f4 (f3 (f2 (f1 x))))) < 1152921504606846976 := by
  have hy := f3_val x h
  have p := fun b (hb : b < 256) => (steps b hb).2.2.2
  have m := fun a : Nat => Nat.mod_lt a (show 0 < 256 by decide)
  have := sums _ _ _ _ _ _ _ _ _ (p _ (m x)) (p _ (m (x / 256))) (p _ (m (x / 65536))) (p _ (m (x / 16777216))) (p _ (m (x / 4294967296))) (p _ (m (x / 1099511627776))) (p _ (m (x / 281474976710656))) (p _ (m (x / 72057594037927936))) hy
  rw [pc_sum] at this
  exact ⟨this.2.2.2.2, this.1, this.2.1, this.2.2.1, this.2.2.2.1⟩
theorem val_lt : ∀ bs : List Nat, (∀ b ∈ bs, b < 256) → val bs < 256 ^ bs.length
  | [], _ => by simp [val]
  | b :: r, h => by
    have h1 := h b (by simp)
    have h2 := val_lt r fun x hx => h x (by simp [hx])
    simp only [val, List.length_cons, Nat.pow_succ]
    generalize 256 ^ r.length = n at *
    omega
theorem val_lt2 : ∀ bs : List Nat, (∀ b ∈ bs, b ≤ 68) → 2 * val bs < 256 ^ bs.length
  | [], _ => by simp [val]
  | b :: r, h => by
    have h1 := h b (by simp)
    have h2 := val_lt2 r fun x hx => h x (by simp [hx])
    simp only [val, List.length_cons, Nat.pow_succ]
    generalize 256 ^ r.length = n at *
    omega
theorem steps2 : ∀ b, b < 256 → s1 b ≤ 255 ∧ s2 (s1 b) ≤ 68 := by decide +kernel
theorem f1_lt (x : Nat) (h : x < 18446744073709551616) : f1 x < 18446744073709551616 := by
  rw [f1_val x h]
  have := val_lt ((bytes x).map s1) fun b hb => by
    obtain ⟨c, hc, rfl⟩ := List.mem_map.1 hb
    have := (steps2 c (bytes_lt x c hc)).1
    omega
  rw [show ((bytes x).map s1).length = 8 from rfl] at this
  exact this
theorem f2_lt (x : Nat) (h : x < 18446744073709551616) : f2 (f1 x) < 9223372036854775808 := by
  rw [f2_val x h]
  have := val_lt2 ((bytes x).map fun b => s2 (s1 b)) fun b hb => by
    obtain ⟨c, hc, rfl⟩ := List.mem_map.1 hb
    exact (steps2 c (bytes_lt x c hc)).2
  rw [show ((bytes x).map fun b => s2 (s1 b)).length = 8 from rfl, show (256 : Nat) ^ 8 = 18446744073709551616 from by decide] at this
  omega
theorem odd_part : ∀ (n x : Nat), x ≤ n → x ≠ 0 → ∃ k m, x = 2 ^ k * m ∧ m % 2 = 1
  | 0, x, h, h0 => absurd (Nat.le_zero.1 h) h0
  | n + 1, x, h, h0 => by
    rcases Nat.mod_two_eq_zero_or_one x with h1 | h1
    · obtain ⟨k, m, hk, hm⟩ := odd_part n (x / 2) (by omega) (by omega)
      refine ⟨k + 1, m, ?_, hm⟩
      rw [Nat.pow_succ, Nat.mul_assoc, Nat.mul_comm 2 m, ← Nat.mul_assoc, ← hk]; omega
    · exact ⟨0, x, by simp, h1⟩
/-- the lowest one of a number -/
theorem low_bit (x : Nat) (h : x < 2 ^ 64) (h0 : x ≠ 0) : ∃ k, k < 64 ∧ (∀ j, j < k → x.testBit j = false) ∧ x.testBit k = true ∧ x &&& (2 ^ 64 - x) = 2 ^ k ∧ ∀ j, (x &&& (x - 1)).testBit j = (x.testBit j && decide (j ≠ k)) := by
  obtain ⟨k, m, e, hm⟩ := odd_part x x (Nat.le_refl _) h0
  have hx : ∀ j, x.testBit j = if j < k then false else m.testBit (j - k) := fun j => by
    have := Nat.testBit_two_pow_mul_add m (Nat.two_pow_pos k) j
    rw [Nat.add_zero, ← e] at this
    rw [this]; simp
  have hp := Nat.two_pow_pos k
  have hm1 : m = (m - 1) + 1 := by omega
  have e1 : x - 1 = 2 ^ k * (m - 1) + (2 ^ k - 1) := by
    rw [e]; conv => lhs; rw [hm1]
    rw [Nat.mul_succ]; omega
  have hx1 : ∀ j, (x - 1).testBit j = if j < k then true else (m - 1).testBit (j - k) := fun j => by
    rw [e1, Nat.testBit_two_pow_mul_add (m - 1) (by omega) j]
    split
    · rw [Nat.testBit_two_pow_sub_one]; simp [*]
    · rfl
  have hms : ∀ i, (m - 1).testBit (i + 1) = m.testBit (i + 1) := fun i => by
    rw [Nat.testBit_succ, Nat.testBit_succ, show (m - 1) / 2 = m / 2 by omega]
  have hm0 : m.testBit 0 = true := by rw [Nat.testBit_zero]; simp [hm]
  have hm10 : (m - 1).testBit 0 = false := by rw [Nat.testBit_zero]; simp; omega
  have hxk : x.testBit k = true := by rw [hx, if_neg (Nat.lt_irrefl _), Nat.sub_self, hm0]
  have hk : k < 64 := by
    rcases Nat.lt_or_ge k 64 with hk | hk
    · exact hk
    · rw [Nat.testBit_lt_two_pow (Nat.lt_of_lt_of_le h (Nat.pow_le_pow_right (by omega) hk))] at hxk
      cases hxk
  refine ⟨k, hk, fun j hj => by rw [hx, if_pos hj], hxk, ?_, fun j => ?_⟩
  · apply Nat.eq_of_testBit_eq
    intro j
    have hs := Nat.testBit_two_pow_sub_succ (x := x - 1) (n := 64) (by omega) j
    rw [show x - 1 + 1 = x by omega] at hs
    rw [Nat.testBit_and, hs, hx, hx1, Nat.testBit_two_pow]
    by_cases hj : j < k
    · simp [hj]; omega
    · rw [if_neg hj, if_neg hj]
      by_cases hjk : j = k
      · subst hjk; rw [Nat.sub_self, hm0, hm10]; simp [hk]
      · obtain ⟨i, hi⟩ : ∃ i, j - k = i + 1 := ⟨j - k - 1, by omega⟩
        rw [hi, hms]
        have : ¬ k = j := fun e => hjk e.symm
        simp [this]
        cases m.testBit (i + 1) <;> simp
  · rw [Nat.testBit_and, hx, hx1]
    by_cases hj : j < k
    · simp [hj]
    · rw [if_neg hj, if_neg hj]
      by_cases hjk : j = k
      · subst hjk; rw [Nat.sub_self, hm10]; simp
      · obtain ⟨i, hi⟩ : ∃ i, j - k = i + 1 := ⟨j - k - 1, by omega⟩
        rw [hi, hms]
        simp [hjk]
end Go.Proofs.YtnbfifmnigeolaaDoor.Bits
