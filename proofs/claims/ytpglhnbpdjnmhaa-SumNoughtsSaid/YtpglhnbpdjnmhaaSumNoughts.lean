/- Walks: many noughts at once (sum.Noughts), few at a time (fretsawref03.Noughts), and the statement (SumNoughts). Conditions: numbers are of their bits. -/
import Derived.Test.YtpglhnbpdjnmhaaSumTimes
namespace Go.Proofs.Ytpglhnbpdjnmhaa
open Go.RowKit
/-- the sum behind n bytes that are 0 -/
def nought (c n : Nat) : Nat := inv32 (stps (8 * n) (inv32 c))
theorem nought_lt (c n : Nat) : nought c n < 4294967296 := inv32_lt _
theorem nought_next {c : Nat} (n : Nat) : sumOn (nought c n) [0] = nought c (n + 1) := by
  unfold sumOn nought
  rw [inv32_inv (stps_lt _ (inv32_lt c)), reg_cons, reg_nil, show (0 : UInt8).toNat = 0 from rfl, Nat.xor_zero, ← stps_add]
  rfl
theorem nought_zero {c : Nat} (h : c < 4294967296) : nought c 0 = c := inv32_inv h
theorem nought_add (c a b : Nat) : nought (nought c a) b = nought c (a + b) := by
  unfold nought
  rw [inv32_inv (stps_lt _ (inv32_lt c)), ← stps_add, Nat.mul_add]

set_option maxRecDepth 100000 in
set_option maxHeartbeats 400000 in
theorem ref_Noughts (c : Nat) (hc : c < 4294967296) (n : Nat) (hn : n ≤ 300) (w : World) :
    Calls Try.prog 18 #[.int .u32 c, .int .i64 n] w fun r w' => r = .returned (.int .u32 (nought c n : Nat)) ∧ w = w' := by
  obtain ⟨r, hr⟩ : ∃ r, nought c n = r := ⟨_, rfl⟩
  rw [hr]
  have Hr := Lib.hid hr; clear hr
  go_enter Try.func18, Try.ntmps18
  repeat' (first | go_values | go_skip | go_guarded | go_step | go_upon)
  go_loop [0, 5] (fun s0 s5 => ∃ k x : Nat, s5 = .int .i64 k ∧ k ≤ n ∧ s0 = .int .u32 x ∧ x < 4294967296 ∧ Hid (x = nought c k)) (fun _ s5 => n - (intOf s5).toNat)
  case atStart => exact ⟨0, c, rfl, Nat.zero_le _, rfl, hc, Lib.hid (nought_zero hc).symm⟩
  case round =>
    obtain ⟨k, x, rfl, hk, rfl, hx, Hx⟩ := hrel
    by_cases hlt : k < n
    · repeat' (first | go_values | go_skip | go_guarded | go_step | go_upon)
      have h := ref_On x (le_u32 hx) ⟨#[0]⟩ (by show 1 ≤ _; omega)
      refine Calls.mono (h _) ?_
      rintro _ _ ⟨rfl, rfl⟩
      dsimp only
      clear h
      repeat' (first | go_values | go_skip | go_guarded | go_step | go_upon)
      go_round
      case rel => exact ⟨k + 1, _, by go_num, hlt, rfl, sumOn_lt _ _, Lib.hid (by rw [← nought_next, ← Hx.out])⟩
      case measure => simp [intOf]; omega
    · obtain rfl : k = n := by omega
      have hx' := Hx.out
      rw [Hr.out] at hx'
      subst hx'
      repeat' (first | go_values | go_skip | go_guarded | go_step | go_upon)
      go_ret
      exact ⟨rfl, rfl⟩

set_option maxRecDepth 100000 in
set_option maxHeartbeats 400000 in
theorem sum_Noughts (c : Nat) (hc : c < 4294967296) (n : Nat) (hn : U64 n) (w : World) :
    Calls Try.prog 17 #[.int .u32 c, .int .u64 n] w fun r w' => r = .returned (.int .u32 (nought c n : Nat)) ∧ Below w.heap.size w w' := by
  have hz := run_zero_tab
  have hzm := run_zero_mat
  have e0 := u32_not c hc
  have em := max_u32
  have es : IntKind.u32.signed = false := rfl
  obtain ⟨r, hr⟩ : ∃ r, nought c n = r := ⟨_, rfl⟩
  rw [hr]
  have Hr := Lib.hid hr; clear hr
  have hnn : n < 18446744073709551616 := by unfold U64 at hn; omega
  clear hn
  go_enter Try.func17, Try.ntmps17
  repeat' (first | go_values | go_skip | go_guarded | go_step | go_upon)
  refine Calls.mono (sum_table _) ?_
  rintro _ w1 ⟨rfl, hb1⟩
  dsimp only
  have Hb1 := Lib.hid hb1; clear hb1
  repeat' (first | (with_reducible refine wp_store_row _ _ _ rfl _ _ rfl rfl _ _ (heap_alloc_new w1 _) (by rw [tabTo_size]; exact info_tab) (by rw [tabTo_size, tabTo_size]) (tabTo_one _) ?_) | go_values | go_skip | go_guarded | go_step | go_upon)
  have ht := TabAt.alloc w1
  have hg2 : w.heap.size + 1 ≤ w1.heap.size := by have := Hb1.out.size; simpa using this
  have hmat : MatAt ((w1.alloc (.cells (tabTo 0) 39)).setRow w1.heap.size (tabTo 256)) w.heap.size 8 0 := by
    have h1 : MatAt (w.alloc (.cells (matTo 0 0) 45)) w.heap.size 8 0 := by unfold MatAt; rw [matTo_zero]; exact heap_alloc_new _ _
    have h2 : Below (w.heap.size + 1) (w.alloc (.cells (matTo 0 0) 45)) w1 := by
      have := Hb1.out
      simpa using this
    exact (h1.keep h2 (by omega)).keep (Below.row ((Below.refl _ _).alloc (Nat.le_refl _) _) (Nat.le_refl _) _) (by omega)
  have hb2 : Below w.heap.size w ((w1.alloc (.cells (tabTo 0) 39)).setRow w1.heap.size (tabTo 256)) := by
    have h1 : Below w.heap.size w (w.alloc (.cells (matTo 0 0) 45)) := (Below.refl _ _).alloc (Nat.le_refl _) _
    have h2 := h1.trans (Hb1.out.mono (by simp))
    exact Below.row (h2.alloc h2.size _) h2.size _
  clear Hb1 hz
  generalize ((w1.alloc (.cells (tabTo 0) 39)).setRow w1.heap.size (tabTo 256)) = W at ht hmat hb2
  generalize w1.heap.size = g at ht hg2
  have Ht := Lib.hid ht
  have Hm := Lib.hid hmat
  have Hb := Lib.hid hb2
  clear ht hmat hb2
  go_loopw [12] (fun s12 w' => ∃ i : Nat, s12 = .int .i64 i ∧ i ≤ 32 ∧ Hid (Below w.heap.size w w') ∧ Hid (TabAt w' g) ∧ Hid (MatAt w' w.heap.size 8 i)) (fun s12 _ => 32 - (intOf s12).toNat)
  case atStart => exact ⟨0, rfl, by omega, Hb, Ht, Hm⟩
  case round =>
    obtain ⟨i, rfl, hi, Hb, Ht, Hm⟩ := hrel
    by_cases hi2 : i < 32
    · have hR : (2 : Nat) ^ i < 2 ^ 32 := Nat.pow_lt_pow_right (by omega) hi2
      have hset := Lib.hid (Hm.out.set hi2)
      have hco := Hm.out.old i hi2 (by omega)
      have hcf := Hm.out.free i
      have hpw : (2 : Int) ^ i % 4294967296 = ((2 ^ i : Nat) : Int) := by
        rw [show (2 : Int) ^ i = ((2 ^ i : Nat) : Int) from by simp]
        exact Int.emod_eq_of_lt (Int.natCast_nonneg _) (Int.ofNat_lt.2 hR)
      generalize (2 : Nat) ^ i = R at hR hset hpw
      have hR' : R < 4294967296 := hR
      clear hR
      have htc := Ht.out.cell (R % 256) (by omega)
      have htb := stps_table R 0
      rw [Nat.xor_zero, Nat.xor_zero] at htb
      have hx2 : bits .xor .u32 ((stps 8 (R % 256) : Nat) : Int) ((R : Int) / 256) = ((stps 8 R : Nat) : Int) := by
        rw [show (R : Int) / 256 = ((R / 256 : Nat) : Int) from rfl, u32_xor_nat _ _ (stps_lt 8 (by omega)) (by omega), htb]
      clear htb
      repeat' (first | go_values | go_skip | go_guarded | go_step | go_upon)
      go_roundw
      case rel => exact ⟨i + 1, by go_num, hi2, Lib.hid (Hb.out.setCell (Nat.le_refl _) _), Lib.hid (by have h := Ht.out; unfold TabAt at h ⊢; rw [heap_setCell_other _ _ _ _ (by dsimp only; omega)]; exact h), hset⟩
      case measure => simp [intOf]; omega
    · obtain rfl : i = 32 := by omega
      clear Ht
      repeat' (first | go_values | go_skip | go_guarded | go_step | go_upon)
      go_loopw [0, 1] (fun s0 s1 w' => ∃ x m e : Nat, s0 = .int .u32 x ∧ x < 4294967296 ∧ s1 = .int .u64 m ∧ m < 18446744073709551616 ∧ Hid (Below w.heap.size w w') ∧ Hid (MatAt w' w.heap.size e 32) ∧ Hid (inv32 (stps (e * m) x) = r)) (fun _ s1 _ => (intOf s1).toNat)
      case atStart => exact ⟨inv32 c, n, 8, rfl, inv32_lt c, rfl, hnn, Hb, Hm, Lib.hid Hr.out⟩
      case round =>
        obtain ⟨x, m, e, rfl, hx, rfl, hm, Hb, Hm, Hx⟩ := hrel
        clear e0
        by_cases hm0 : m = 0
        · subst hm0
          have e0 := u32_not x hx
          have hx' := Hx.out
          rw [Nat.mul_zero, stps] at hx'
          subst hx'
          repeat' (first | go_values | go_skip | go_guarded | go_step | go_upon)
          go_ret
          exact ⟨rfl, Hb.out⟩
        have hm1 : 0 < m := by omega
        have hand : bits .and .u64 (m : Int) 1 = ((m % 2 : Nat) : Int) := by
          rw [show (1 : Int) = ((1 : Nat) : Int) from rfl, u64_and_nat m 1 hm (by decide), Nat.and_one_is_mod]
        by_cases hodd : m % 2 = 1
        · rw [hodd] at hand
          have Hct := Lib.hid (sum_times w.heap.size e x hx wr Hm.out)
          repeat' (first | go_values | go_skip | go_guarded | go_step | go_upon)
          refine Calls.mono (Hct.out) ?_
          rintro _ w2 ⟨rfl, hb2⟩
          dsimp only
          have Hm2 := Lib.hid (Hm.out.keep hb2 Hm.out.lt)
          have Hb2 := Lib.hid (Hb.out.trans (hb2.mono Hb.out.size))
          clear hb2 Hct
          have hxl := stps_lt e hx
          repeat' (first | go_values | go_skip | go_guarded | go_step | go_upon)
          have H9 : Hid (MatAt (w2.alloc (.cells (matTo 0 0) 45)) w2.heap.size (e + e) 0) := Lib.hid (by unfold MatAt; rw [matTo_zero]; exact heap_alloc_new _ _)
          have HA : Hid (MatAt (w2.alloc (.cells (matTo 0 0) 45)) w.heap.size e 32) := Lib.hid (Hm2.out.keep ((Below.refl _ _).alloc (Nat.le_refl _) _) Hm2.out.lt)
          have HB : Hid (Below w.heap.size w (w2.alloc (.cells (matTo 0 0) 45))) := Lib.hid (Hb2.out.alloc Hb2.out.size _)
          have hg9 : w.heap.size < w2.heap.size := Hm2.out.lt
          clear hand
          generalize (w2.alloc (.cells (matTo 0 0) 45)) = W9 at H9 HA HB
          generalize w2.heap.size = g9 at H9 hg9
          clear Hm2 Hb2
          go_loopw [38] (fun s38 w' => ∃ i : Nat, s38 = .int .i64 i ∧ i ≤ 32 ∧ Hid (Below w.heap.size w w') ∧ Hid (MatAt w' w.heap.size e 32) ∧ Hid (MatAt w' g9 (e + e) i)) (fun s38 _ => 32 - (intOf s38).toNat)
          case atStart => exact ⟨0, rfl, by omega, HB, HA, H9⟩
          case round =>
            obtain ⟨i, rfl, hi, HB, HA, H9⟩ := hrel
            by_cases hi2 : i < 32
            · have hy : stps e (2 ^ i) < 4294967296 := stps_lt e (show 2 ^ i < 2 ^ 32 from Nat.pow_lt_pow_right (by omega) hi2)
              have hcl := HA.out.cell i hi2 hi2
              have hee : stps e (stps e (2 ^ i)) = stps (e + e) (2 ^ i) := (stps_add e e (2 ^ i)).symm
              have Hee := Lib.hid hee; clear hee
              have Hct := Lib.hid (fun w' h => sum_times w.heap.size e (stps e (2 ^ i)) hy w' h)
              repeat' (first | go_values | go_skip | go_guarded | go_step | go_upon)
              refine Calls.mono (Hct.out _ HA.out) ?_
              rintro _ w3 ⟨rfl, hb3⟩
              dsimp only
              have HB3 := Lib.hid (HB.out.trans (hb3.mono HB.out.size))
              have HA3 := Lib.hid (HA.out.keep hb3 HA.out.lt)
              have H93 := H9.out.keep hb3 H9.out.lt
              have hco := H93.old i hi2 (by omega)
              have hcf := H93.free i
              have hset := H93.set hi2
              rw [← Hee.out] at hset
              have Hset := Lib.hid hset
              have HA4 : Hid (MatAt (w3.setCell ⟨g9, i, none⟩ (.int .u32 ((stps e (stps e (2 ^ i)) : Nat) : Int))) w.heap.size e 32) := Lib.hid (by have h := HA3.out; unfold MatAt at h ⊢; rw [heap_setCell_other _ _ _ _ (by dsimp only; omega)]; exact h)
              clear hset H93 hb3 hcl
              repeat' (first | go_values | go_skip | go_guarded | go_step | go_upon)
              go_roundw
              case rel => exact ⟨i + 1, by go_num, hi2, Lib.hid (Below.setCell (p := ⟨g9, i, none⟩) HB3.out (by dsimp only; omega) _), HA4, Hset⟩
              case measure => simp [intOf]; omega
            · obtain rfl : i = 32 := by omega
              repeat' (first | (with_reducible refine wp_load_row _ _ rfl _ rfl _ _ _ _ H9.out.heap under_mat rfl (by rw [matTo_size]; exact info_mat) ?_) | (with_reducible refine wp_store_row _ _ _ rfl _ _ rfl rfl _ _ HA.out.heap (by rw [matTo_size]; exact info_mat) (by rw [matTo_size, matTo_size]) (matTo_one _ _) ?_) | go_values | go_skip | go_guarded | go_step | go_upon)
              refine ⟨?_, ?_⟩
              · repeat apply Exists.intro
                refine ⟨?_, rfl⟩
                exact ⟨stps e x, m / 2, e + e, rfl, hxl, by simp, by omega, Lib.hid (Below.row HB.out (Nat.le_refl _) _), Lib.hid (setRow_heap _ _ _ _ _ _ HA.out.heap), Lib.hid (by
                rw [← Hx.out, ← stps_add]
                congr 2
                have h := Nat.div_add_mod m 2
                rw [hodd] at h
                conv => rhs; rw [← h, Nat.mul_add, Nat.mul_one, ← Nat.mul_assoc, Nat.mul_two, Nat.add_comm])⟩
              · simp [intOf]; omega
        · rw [show m % 2 = 0 from by omega] at hand
          have Hm2 := Hm
          have Hb2 := Hb
          repeat' (first | go_values | go_skip | go_guarded | go_step | go_upon)
          have H9 : Hid (MatAt (wr.alloc (.cells (matTo 0 0) 45)) wr.heap.size (e + e) 0) := Lib.hid (by unfold MatAt; rw [matTo_zero]; exact heap_alloc_new _ _)
          have HA : Hid (MatAt (wr.alloc (.cells (matTo 0 0) 45)) w.heap.size e 32) := Lib.hid (Hm2.out.keep ((Below.refl _ _).alloc (Nat.le_refl _) _) Hm2.out.lt)
          have HB : Hid (Below w.heap.size w (wr.alloc (.cells (matTo 0 0) 45))) := Lib.hid (Hb2.out.alloc Hb2.out.size _)
          have hg9 : w.heap.size < wr.heap.size := Hm2.out.lt
          clear hand
          generalize (wr.alloc (.cells (matTo 0 0) 45)) = W9 at H9 HA HB
          generalize wr.heap.size = g9 at H9 hg9
          clear Hm2 Hb2
          go_loopw [38] (fun s38 w' => ∃ i : Nat, s38 = .int .i64 i ∧ i ≤ 32 ∧ Hid (Below w.heap.size w w') ∧ Hid (MatAt w' w.heap.size e 32) ∧ Hid (MatAt w' g9 (e + e) i)) (fun s38 _ => 32 - (intOf s38).toNat)
          case atStart => exact ⟨0, rfl, by omega, HB, HA, H9⟩
          case round =>
            obtain ⟨i, rfl, hi, HB, HA, H9⟩ := hrel
            by_cases hi2 : i < 32
            · have hy : stps e (2 ^ i) < 4294967296 := stps_lt e (show 2 ^ i < 2 ^ 32 from Nat.pow_lt_pow_right (by omega) hi2)
              have hcl := HA.out.cell i hi2 hi2
              have hee : stps e (stps e (2 ^ i)) = stps (e + e) (2 ^ i) := (stps_add e e (2 ^ i)).symm
              have Hee := Lib.hid hee; clear hee
              have Hct := Lib.hid (fun w' h => sum_times w.heap.size e (stps e (2 ^ i)) hy w' h)
              repeat' (first | go_values | go_skip | go_guarded | go_step | go_upon)
              refine Calls.mono (Hct.out _ HA.out) ?_
              rintro _ w3 ⟨rfl, hb3⟩
              dsimp only
              have HB3 := Lib.hid (HB.out.trans (hb3.mono HB.out.size))
              have HA3 := Lib.hid (HA.out.keep hb3 HA.out.lt)
              have H93 := H9.out.keep hb3 H9.out.lt
              have hco := H93.old i hi2 (by omega)
              have hcf := H93.free i
              have hset := H93.set hi2
              rw [← Hee.out] at hset
              have Hset := Lib.hid hset
              have HA4 : Hid (MatAt (w3.setCell ⟨g9, i, none⟩ (.int .u32 ((stps e (stps e (2 ^ i)) : Nat) : Int))) w.heap.size e 32) := Lib.hid (by have h := HA3.out; unfold MatAt at h ⊢; rw [heap_setCell_other _ _ _ _ (by dsimp only; omega)]; exact h)
              clear hset H93 hb3 hcl
              repeat' (first | go_values | go_skip | go_guarded | go_step | go_upon)
              go_roundw
              case rel => exact ⟨i + 1, by go_num, hi2, Lib.hid (Below.setCell (p := ⟨g9, i, none⟩) HB3.out (by dsimp only; omega) _), HA4, Hset⟩
              case measure => simp [intOf]; omega
            · obtain rfl : i = 32 := by omega
              repeat' (first | (with_reducible refine wp_load_row _ _ rfl _ rfl _ _ _ _ H9.out.heap under_mat rfl (by rw [matTo_size]; exact info_mat) ?_) | (with_reducible refine wp_store_row _ _ _ rfl _ _ rfl rfl _ _ HA.out.heap (by rw [matTo_size]; exact info_mat) (by rw [matTo_size, matTo_size]) (matTo_one _ _) ?_) | go_values | go_skip | go_guarded | go_step | go_upon)
              refine ⟨?_, ?_⟩
              · repeat apply Exists.intro
                refine ⟨?_, rfl⟩
                exact ⟨x, m / 2, e + e, rfl, hx, by simp, by omega, Lib.hid (Below.row HB.out (Nat.le_refl _) _), Lib.hid (setRow_heap _ _ _ _ _ _ HA.out.heap), Lib.hid (by
                rw [← Hx.out]
                congr 2
                have h := Nat.div_add_mod m 2
                rw [show m % 2 = 0 from by omega, Nat.add_zero] at h
                conv => rhs; rw [← h, ← Nat.mul_assoc, Nat.mul_two])⟩
              · simp [intOf]; omega

set_option maxRecDepth 100000 in
set_option maxHeartbeats 400000 in
theorem law_SumNoughts (c : Nat) (hc : U32 c) (n : Nat) (hn' : n < 65536) (a : Nat) (ha : U64 a) (b : Nat) (hb : U64 b) (w : World) :
    Calls Try.prog 8 #[.int .u32 c, .int .u16 n, .int .u64 a, .int .u64 b] w fun e w' => e = .returned (.bool true) ∧ Below w.heap.size w w' := by
  have hc' := u32_le hc
  have hk : n % 300 ≤ 300 := by omega
  have c1 := sum_Noughts c hc' (n % 300) (by unfold U64; omega)
  have c2 := ref_Noughts c hc' (n % 300) hk
  unfold U64 at ha hb
  have hab : a / 2 + b / 2 < 18446744073709551616 := by omega
  have c3 := sum_Noughts c hc' (a / 2) (by unfold U64; omega)
  have c4 := sum_Noughts (nought c (a / 2)) (nought_lt _ _) (b / 2) (by unfold U64; omega)
  have c5 := sum_Noughts c hc' (a / 2 + b / 2) (by unfold U64; omega)
  rw [nought_add] at c4
  generalize nought c (n % 300) = x at c1 c2
  generalize nought c (a / 2 + b / 2) = y at c4 c5
  generalize nought c (a / 2) = z at c3 c4
  have C1 := Lib.hid c1
  have C2 := Lib.hid c2
  have C3 := Lib.hid c3
  have C4 := Lib.hid c4
  have C5 := Lib.hid c5
  clear c1 c2 c3 c4 c5 hc
  have E1 : Hid ((n : Int) % 300 = ((n % 300 : Nat) : Int)) := Lib.hid (by omega)
  have E2 : Hid ((a : Int) / 2 = ((a / 2 : Nat) : Int)) := Lib.hid (by omega)
  have E3 : Hid ((b : Int) / 2 = ((b / 2 : Nat) : Int)) := Lib.hid (by omega)
  have hna : n % 300 < 300 := by omega
  have haa : a / 2 < 9223372036854775808 := by omega
  have hbb : b / 2 < 9223372036854775808 := by omega
  have E4 : Hid (((a / 2 : Nat) : Int) + ((b / 2 : Nat) : Int) = ((a / 2 + b / 2 : Nat) : Int)) := Lib.hid (by omega)
  go_enter Try.func8, Try.ntmps8
  repeat' (first | go_values | go_skip | go_guarded | go_step | go_upon)
  rw [E1.out]
  refine Calls.mono (C1.out _) ?_
  rintro _ w1 ⟨rfl, hb1⟩
  dsimp only
  repeat' (first | go_values | go_skip | go_guarded | go_step | go_upon)
  rw [E1.out]
  refine Calls.mono (C2.out _) ?_
  rintro _ _ ⟨rfl, rfl⟩
  dsimp only
  repeat' (first | go_values | go_skip | go_guarded | go_step | go_upon)
  rw [E2.out]
  refine Calls.mono (C3.out _) ?_
  rintro _ w2 ⟨rfl, hb2⟩
  dsimp only
  repeat' (first | go_values | go_skip | go_guarded | go_step | go_upon)
  rw [E3.out]
  refine Calls.mono (C4.out _) ?_
  rintro _ w3 ⟨rfl, hb3⟩
  dsimp only
  repeat' (first | go_values | go_skip | go_guarded | go_step | go_upon)
  rw [E2.out, E3.out, E4.out]
  refine Calls.mono (C5.out _) ?_
  rintro _ w4 ⟨rfl, hb4⟩
  dsimp only
  repeat' (first | go_values | go_skip | go_guarded | go_step | go_upon)
  go_ret
  have k2 := hb1.trans (hb2.mono hb1.size)
  have k3 := k2.trans (hb3.mono k2.size)
  exact ⟨rfl, k3.trans (hb4.mono k3.size)⟩
end Go.Proofs.Ytpglhnbpdjnmhaa
