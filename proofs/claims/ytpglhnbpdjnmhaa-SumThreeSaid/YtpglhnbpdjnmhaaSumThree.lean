/- Walk: the sums of three texts of one length make that of the bits that are 1 in one or three of them (SumThree). Condition: texts are of at most 2^47 bytes. -/
import Derived.Test.YtpglhnbpdjnmhaaSumSealed
import Derived.Test.YtpglhnbpdjnmhaaSumJoins
import Derived.Deep.OwnRows
namespace Go.Proofs.Ytpglhnbpdjnmhaa
open Go.RowKit
theorem num_three : ∀ (t a b c : List UInt8), a.length = t.length → b.length = t.length → c.length = t.length → (∀ j, j < t.length → at8 t j = at8 a j ^^^ at8 b j ^^^ at8 c j) → num t = num a ^^^ num b ^^^ num c
  | [], [], [], [], _, _, _, _ => by simp [num]
  | x :: t, a :: la, b :: lb, c :: lc, ha, hb, hc, h => by
    have h0 := h 0 (by simp)
    have hr := num_three t la lb lc (by simpa using ha) (by simpa using hb) (by simpa using hc) (fun j hj => h (j + 1) (by simpa using hj))
    have h0' : x.toNat = a.toNat ^^^ b.toNat ^^^ c.toNat := h0
    have d : ∀ p q : Nat, 256 * (p ^^^ q) = 256 * p ^^^ 256 * q := fun p q => by
      apply Nat.eq_of_testBit_eq
      intro i
      rw [show (256 : Nat) = 2 ^ 8 from rfl, Nat.testBit_xor, Nat.testBit_two_pow_mul, Nat.testBit_two_pow_mul, Nat.testBit_two_pow_mul, Nat.testBit_xor]
      by_cases hi : i ≥ 8 <;> simp [hi]
    rw [num, num, num, num, h0', hr, d, d]
    generalize a.toNat = x1
    generalize b.toNat = x2
    generalize c.toNat = x3
    generalize 256 * num la = x4
    generalize 256 * num lb = x5
    generalize 256 * num lc = x6
    apply Nat.eq_of_testBit_eq
    intro i
    simp only [Nat.testBit_xor]
    cases x1.testBit i <;> cases x2.testBit i <;> cases x3.testBit i <;> cases x4.testBit i <;> cases x5.testBit i <;> cases x6.testBit i <;> rfl
theorem sum_three {t a b c : List UInt8} (ha : a.length = t.length) (hb : b.length = t.length) (hc : c.length = t.length) (h : ∀ j, j < t.length → at8 t j = at8 a j ^^^ at8 b j ^^^ at8 c j) :
    sumOn 0 t = sumOn 0 a ^^^ sumOn 0 b ^^^ sumOn 0 c := by
  unfold sumOn
  rw [inv32_xor (reg_lt (inv32_lt 0) _), inv32_xor (reg_lt (inv32_lt 0) _), inv32_xor (reg_lt (inv32_lt 0) _), inv32_xor (reg_lt (inv32_lt 0) _)]
  rw [reg_num, reg_num, reg_num, reg_num, ha, hb, hc, num_three t a b c ha hb hc h]
  simp only [stps_xor]
  generalize stps (8 * t.length) (inv32 0) = z
  generalize stps (8 * t.length) (num a) = x
  generalize stps (8 * t.length) (num b) = y
  generalize stps (8 * t.length) (num c) = v
  generalize 4294967295 = m
  apply Nat.eq_of_testBit_eq
  intro i
  simp only [Nat.testBit_xor]
  cases m.testBit i <;> cases z.testBit i <;> cases x.testBit i <;> cases y.testBit i <;> cases v.testBit i <;> rfl
theorem made_own {B : Nat} {e : TypeId} (w : World) (n : Nat) (hB : B ≤ w.heap.size) (hm : n ≤ maxLen) :
    OwnC B e 1 (w.alloc (.cells (madeCells #[.int .u8 0] n) e)) (.slice (some ⟨w.heap.size, 0, none⟩) n n) n ((natsOf (List.replicate n 0)).map (Value.int .u8)) := by
  have h := World.ownsRow_lit (base := B) (e := e) (size := 1) w (madeCells #[.int .u8 0] n) n hB hm (by rw [size_madeCells, Nat.mul_one])
  rw [toList_madeCells_one] at h
  have h2 := OwnC.of_own h
  rwa [show (natsOf (List.replicate n 0)).map (Value.int .u8) = List.replicate n (Value.int .u8 0) from by simp [natsOf]]
theorem run_min4 {P : Program} (w : World) (ts : Array TypeId) (t : TypeId) (x y z v : Int) (n : Nat) (hn : min (min (min x y) z) v = n) :
    (Builtin.min_ ts t #[.int .i64 x, .int .i64 y, .int .i64 z, .int .i64 v]).run P w = .ok (.int .i64 n) w := by
  have e : (if v < (if z < (if y < x then y else x) then z else (if y < x then y else x)) then v else (if z < (if y < x then y else x) then z else (if y < x then y else x))) = (n : Int) := by
    rw [← hn]; omega
  rw [← e]
  by_cases h1 : y < x <;> by_cases h2 : z < (if y < x then y else x) <;> by_cases h3 : v < (if z < (if y < x then y else x) then z else (if y < x then y else x)) <;> simp_all [Builtin.min_, Builtin.min2]
theorem at8_set_self (l : List UInt8) (i : Nat) (x : UInt8) (h : i < l.length) : at8 (l.set i x) i = x.toNat := by unfold at8; simp [List.getD, h]
theorem at8_set_ne (l : List UInt8) (i j : Nat) (x : UInt8) (h : ¬ i = j) : at8 (l.set i x) j = at8 l j := by unfold at8; simp [List.getD, h]
theorem bits3 (x y z : Nat) (hx : x < 256) (hy : y < 256) (hz : z < 256) : bits .xor .u8 (bits .xor .u8 (x : Int) (y : Int)) (z : Int) = ((x ^^^ y ^^^ z : Nat) : Int) := by
  rw [u8_xor_nat x y hx hy, u8_xor_nat _ z (Nat.xor_lt_two_pow (n := 8) hx hy) hz]

set_option maxRecDepth 100000 in
set_option maxHeartbeats 400000 in
theorem law_SumThree (a : ByteArray) (ha : a.size ≤ 140737488351232) (b : ByteArray) (hb : b.size ≤ 140737488351232) (c : ByteArray) (hc : c.size ≤ 140737488351232) (w : World) :
    Calls Try.prog 7 #[.string a, .string b, .string c] w fun e w' => e = .returned (.bool true) ∧ Below w.heap.size w w' := by
  obtain ⟨n, hn⟩ : ∃ n : Nat, min (min (min (a.size : Int) b.size) c.size) 20000 = n := ⟨(min (min (min (a.size : Int) b.size) c.size) 20000).toNat, by omega⟩
  have hna : n ≤ a.size := by omega
  have hnb : n ≤ b.size := by omega
  have hnc : n ≤ c.size := by omega
  have hn2 : n ≤ 20000 := by omega
  have hmk := fun w' => run_make_row' (P := Try.prog) 32 5 (.int .u8 0) 1 Try.underlying32 (by kernel_rfl) rfl .i64 .i64 n (by omega) (by omega) w'
  have hmin := fun w' ts t => run_min4 (P := Try.prog) w' ts t (a.size : Int) b.size c.size 20000 n hn
  clear hn
  go_enter Try.func7, Try.ntmps7
  repeat' (first | go_values | go_skip | go_guarded | go_step | go_upon)
  refine Calls.mono (law_alive _) ?_
  rintro _ w1 ⟨rfl, hb1⟩
  dsimp only
  have Hb1 := Lib.hid hb1; clear hb1
  repeat' (first | go_values | go_skip | go_guarded | go_step | go_upon)
  have hown := made_own (B := w.heap.size) (e := 5) w1 n Hb1.out.size (by unfold maxLen; omega)
  have hb2 := Hb1.out.alloc Hb1.out.size (.cells (madeCells #[.int .u8 0] n) 5)
  have hBg := Hb1.out.size
  clear hmk hmin Hb1
  generalize (w1.alloc (.cells (madeCells #[.int .u8 0] n) 5)) = W at hown hb2
  generalize w1.heap.size = g at hown hBg
  have Ho := Lib.hid hown
  have Hb := Lib.hid hb2
  clear hown hb2
  go_loopw [22] (fun s22 w' => ∃ (i : Nat) (t : List UInt8), s22 = .int .i64 i ∧ i ≤ n ∧ Hid (Below w.heap.size w w') ∧ Hid (t.length = n) ∧ Hid (∀ j, j < i → at8 t j = at8 a.data.toList j ^^^ at8 b.data.toList j ^^^ at8 c.data.toList j) ∧ Hid (OwnC w.heap.size 5 1 w' (.slice (some ⟨g, 0, none⟩) n n) n ((natsOf t).map (Value.int .u8)))) (fun s22 _ => n - (intOf s22).toNat)
  case atStart => exact ⟨0, List.replicate n 0, rfl, Nat.zero_le _, Hb, Lib.hid (by simp), Lib.hid (fun j hj => absurd hj (Nat.not_lt_zero _)), Ho⟩
  case round =>
    obtain ⟨i, t, rfl, hi, Hb2, Hl, Ht, Ho2⟩ := hrel
    by_cases hi2 : i < n
    · have hi2' : (i : Int) < n := by omega
      have ha2 : i < a.size := by omega
      have hb2 : i < b.size := by omega
      have hc2 : i < c.size := by omega
      have hcl := byte_cell Ho2.out Hl.out.symm i hi2
      have hfr := OwnC.free Ho2.out i (by omega)
      have hbits := bits3 (at8 a.data.toList i) (at8 b.data.toList i) (at8 c.data.toList i) (at8_lt _ _) (at8_lt _ _) (at8_lt _ _)
      have hlt : at8 a.data.toList i ^^^ at8 b.data.toList i ^^^ at8 c.data.toList i < 256 := Nat.xor_lt_two_pow (n := 8) (Nat.xor_lt_two_pow (n := 8) (at8_lt _ _) (at8_lt _ _)) (at8_lt _ _)
      have hst := Lib.hid (byte_store Ho2.out i _ hlt)
      have Htn : Hid (∀ j, j < i + 1 → at8 (t.set i (u8 (at8 a.data.toList i ^^^ at8 b.data.toList i ^^^ at8 c.data.toList i))) j = at8 a.data.toList j ^^^ at8 b.data.toList j ^^^ at8 c.data.toList j) := Lib.hid (by
        intro j hj
        by_cases hji : i = j
        · subst hji
          rw [at8_set_self t i _ (by rw [Hl.out]; exact hi2), u8_toNat, Nat.mod_eq_of_lt hlt]
        · rw [← Ht.out j (by omega), at8_set_ne t i j _ hji])
      clear hlt
      repeat' (first | go_values | go_skip | go_guarded | go_step | go_upon)
      go_region
      repeat' (first | go_values | go_skip | go_guarded | go_step | go_upon)
      go_roundw
      case rel => exact ⟨i + 1, _, by go_num, hi2, Lib.hid (Below.drew (Below.setCell (p := ⟨g, i, none⟩) Hb2.out hBg _)), Lib.hid (by rw [List.length_set]; exact Hl.out), Htn, Lib.hid (OwnC.block hst.out fun _ _ => rfl)⟩
      case measure => simp [intOf]; omega
    · obtain rfl : i = n := by omega
      have hla : a.data.toList.length = a.size := by simp
      have hlb : b.data.toList.length = b.size := by simp
      have hlc : c.data.toList.length = c.size := by simp
      have hs3 := sum_three (t := t) (a := a.data.toList.take i) (b := b.data.toList.take i) (c := c.data.toList.take i) (by rw [List.length_take, Hl.out]; omega) (by rw [List.length_take, Hl.out]; omega) (by rw [List.length_take, Hl.out]; omega) (fun j hj => by
        have h := Ht.out j (by rw [← Hl.out]; exact hj)
        rw [Hl.out] at hj
        rw [h]
        unfold at8
        simp [List.getD, hj])
      have hx : ∀ s : ByteArray, i ≤ s.size → ∀ w', (Instr.slice 9 (.string s) none (some (.int .i64 (i : Int))) none).run Try.prog w' = .ok (.string ⟨(s.data.toList.take i).toArray⟩) w' := fun s h w' => by
        obtain ⟨l, rfl⟩ := ba_list s
        exact slice_hi Try.underlying9 l i i rfl h w'
      have hxa := hx a hna
      have hxb := hx b hnb
      have hxc := hx c hnc
      have hu : ∀ l : List UInt8, l.length ≤ 20000 → ∀ w', Calls Try.prog 10 #[.string ⟨l.toArray⟩] w' fun e w'' => e = .returned (.int .u32 (sumOn 0 l : Nat)) ∧ Below w'.heap.size w' w'' := fun l h w' => sum_Of ⟨l.toArray⟩ (by show l.length ≤ _; omega) w'
      have Hct := Lib.hid (hu t (by rw [Hl.out]; exact hn2))
      have Hca := Lib.hid (hu (a.data.toList.take i) (by rw [List.length_take]; omega))
      have Hcb := Lib.hid (hu (b.data.toList.take i) (by rw [List.length_take]; omega))
      have Hcc := Lib.hid (hu (c.data.toList.take i) (by rw [List.length_take]; omega))
      clear hx hu hla hlb hlc Ht
      have hou : OwnI w.heap.size 5 .u8 wr (.slice (some ⟨g, 0, none⟩) i i) (natsOf t) := by
        have h := Ho2.out
        unfold OwnI
        rwa [show (natsOf t).length = i from by rw [← Hl.out]; simp [natsOf]]
      have hcv : ∀ nq : WB wr, (convert 32 9 (.slice (some ⟨g, 0, none⟩) i i)).run Try.prog nq.1 = .ok (.string ⟨t.toArray⟩) nq.1 := fun nq => by
        have h := conv_own (P := Try.prog) Try.underlying32 Try.underlying5 Try.underlying9 (OwnC.keep hou nq.2 (Nat.le_refl _))
        rwa [toU8s_natsOf] at h
      clear hou
      have h1 := sumOn_lt 0 (a.data.toList.take i)
      have h2 := sumOn_lt 0 (b.data.toList.take i)
      have h3 := sumOn_lt 0 (c.data.toList.take i)
      generalize sumOn 0 (a.data.toList.take i) = x at Hca hs3 h1
      generalize sumOn 0 (b.data.toList.take i) = y at Hcb hs3 h2
      generalize sumOn 0 (c.data.toList.take i) = z at Hcc hs3 h3
      generalize a.data.toList.take i = la at Hca hxa
      generalize b.data.toList.take i = lb at Hcb hxb
      generalize c.data.toList.take i = lc at Hcc hxc
      have hx1 := u32_xor_nat x y h1 h2
      have hx2 := u32_xor_nat (x ^^^ y) z (Nat.xor_lt_two_pow (n := 32) h1 h2) h3
      rw [← hs3] at hx2
      clear hs3 h1 h2 h3
      generalize sumOn 0 t = r at Hct hx2
      repeat' (first | go_values | go_skip | go_guarded | go_step | go_upon)
      refine wp_region_wb (by kernel_rfl) (by kernel_rfl) wr (Below.refl _ _) ?_
      repeat (go_big_quiet_step ((first | (go_at_call 10; first | exact calls_wb (Hct.out _) | exact calls_wb (Hca.out _) | exact calls_wb (Hcb.out _) | exact calls_wb (Hcc.out _)))))
      refine wpQuiet_nil ?_
      rintro _ ⟨nq, rfl⟩
      have hnq := nq.2
      repeat' (first | go_values | go_skip | go_guarded | go_step | go_upon)
      go_ret
      exact ⟨rfl, Hb2.out.trans (hnq.mono Hb2.out.size)⟩
end Go.Proofs.Ytpglhnbpdjnmhaa
