/- Walk: whether a node may be (ref one). No conditions. -/
import Derived.Test.YtnbfifmnigeolaaDoorReRefDeep
import Derived.Test.YtnbfifmnigeolaaDoorSetRef
namespace Go.Proofs.YtnbfifmnigeolaaDoor
open Go.RowKit Go.Lib
theorem ret_bool {x B : Bool} {P : Prop} (h : x = true ↔ P) (hB : B = true ↔ P) : Ending.returned (Value.bool x) = Ending.returned (Value.bool B) := by
  have : x = B := Bool.eq_iff_iff.2 (h.trans hB.symm)
  rw [this]
theorem re_box (w : World) (r : RN) : Below w.heap.size w (w.alloc (.cells (reC r).toArray 28)) := (Below.refl _ _).alloc (Nat.le_refl _) _
set_option maxRecDepth 100000 in
theorem one_1 (s : Nat × Nat × Nat × Nat) (mn mx : Int) (a : Option Addr) (n cap : Nat) (w : World) (B : Bool) (hB : Hid (B = true ↔ mn = 0 ∧ mx = 0 ∧ (n : Int) = 0)) :
    Calls Tryd.prog 36 #[reV ⟨1, s, mn, mx, .slice a n cap⟩] w fun e w' => e = .returned (.bool B) ∧ Below w.heap.size w w' := by
  simp only [reV, reC]
  go_enter Tryd.func36, Tryd.ntmps36
  repeat' (first | go_values | go_skip | go_guarded | go_step | go_upon)
  all_goals
    go_ret
    refine ⟨ret_bool ?_ hB.out, (Below.refl _ _).alloc (Nat.le_refl _) _⟩
    simp only [beq_iff_eq, Bool.false_eq_true, false_iff]
    omega
set_option maxRecDepth 100000 in
theorem one_4 (s0 s1 s2 s3 : Nat) (mn mx : Int) (a : Option Addr) (n cap : Nat) (w : World) (B : Bool) (hB : Hid (B = true ↔ noS (s0, s1, s2, s3) = true ∧ (n : Int) = 1 ∧ 0 ≤ mn ∧ mn ≤ 20 ∧ (mx = -1 ∨ (mn ≤ mx ∧ mx ≤ 20 ∧ ¬ (mn = 1 ∧ mx = 1))))) :
    Calls Tryd.prog 36 #[reV ⟨4, (s0, s1, s2, s3), mn, mx, .slice a n cap⟩] w fun e w' => e = .returned (.bool B) ∧ Below w.heap.size w w' := by
  simp only [noS] at hB
  obtain ⟨bS, hS⟩ : ∃ b, ((s0 : Int) == 0 && ((s1 : Int) == 0 && ((s2 : Int) == 0 && (s3 : Int) == 0))) = b := ⟨_, rfl⟩
  rw [hS] at hB
  simp only [reV, reC]
  cases bS with
  | false =>
    go_enter Tryd.func36, Tryd.ntmps36
    repeat' (first | go_values | go_skip | go_guarded | go_step | go_upon)
    go_ret
    refine ⟨ret_bool ?_ hB.out, (Below.refl _ _).alloc (Nat.le_refl _) _⟩
    simp
  | true =>
    go_enter Tryd.func36, Tryd.ntmps36
    repeat' (first | go_values | go_skip | go_guarded | go_step | go_upon)
    all_goals
      go_ret
      refine ⟨ret_bool ?_ hB.out, (Below.refl _ _).alloc (Nat.le_refl _) _⟩
      simp only [true_iff, Bool.false_eq_true, false_iff, true_and, Bool.or_eq_true, beq_iff_eq, bne_iff_ne, ne_eq]
      omega
set_option maxRecDepth 100000 in
theorem one_0 (k : Int) (hk : k ≠ 1 ∧ k ≠ 2 ∧ k ≠ 3 ∧ k ≠ 4) (s : Nat × Nat × Nat × Nat) (mn mx : Int) (v : Value) (w : World) :
    Calls Tryd.prog 36 #[reV ⟨k, s, mn, mx, v⟩] w fun e w' => e = .returned (.bool false) ∧ Below w.heap.size w w' := by
  obtain ⟨h1, h2, h3, h4⟩ := hk
  have e1 : (k == 1) = false := beq_false_of_ne h1
  have e2 : (k == 2) = false := beq_false_of_ne h2
  have e3 : (k == 3) = false := beq_false_of_ne h3
  have e4 : (k == 4) = false := beq_false_of_ne h4
  simp only [reV, reC]
  go_enter Tryd.func36, Tryd.ntmps36
  repeat' (first | go_values | go_skip | go_guarded | go_step | go_upon)
  go_ret
  exact ⟨rfl, (Below.refl _ _).alloc (Nat.le_refl _) _⟩
set_option maxRecDepth 100000 in
set_option maxHeartbeats 1000000 in
theorem one_ok2 (s0 s1 s2 s3 n : Nat) (rs : List RN) (v : Value) (kd : Nat → Int) (w : World) (hrow : RowOf reC 8 w v rs) (hone : ∀ (i : Nat) r, rs[i]? = some r → r.v.oneCell' = true) (hkd : ∀ (i : Nat) r, rs[i]? = some r → r.k = kd i) (Hn : Hid (rs.length = n)) (hn : 2 ≤ n)
    (hS : ((s0 : Int) == 0 && ((s1 : Int) == 0 && ((s2 : Int) == 0 && (s3 : Int) == 0))) = true) (B : Bool) (hB : Hid (B = true ↔ ∀ i, i < n → kd i ≠ 2)) :
    Calls Tryd.prog 36 #[reV ⟨2, (s0, s1, s2, s3), 0, 0, v⟩] w fun e w' => e = .returned (.bool B) ∧ Below w.heap.size w w' := by
  have hl := hrow.lenOk
  obtain ⟨a, cap, rfl, _, _, hc⟩ := hrow.open reC_length
  rw [Hn.out] at hl hc ⊢
  have hn1 : ((n : Int) == 1) = false := beq_false_of_ne (by omega)
  have hn0 : ((n : Int) == 0) = false := beq_false_of_ne (by omega)
  clear hrow
  simp only [reV, reC]
  go_enter Tryd.func36, Tryd.ntmps36
  repeat' (first | go_values | go_skip | go_guarded | go_step | go_upon)
  go_loopw [60] (fun s60 w' => ∃ k : Nat, s60 = .int .i64 k ∧ k ≤ n ∧ Hid (∀ j, j < k → kd j ≠ 2) ∧ Hid (Below w.heap.size w w') ∧ Hid (w'.cell? ⟨w.heap.size, 0, none⟩ = some (.int .i64 2)) ∧ w.heap.size < w'.heap.size) (fun s60 _ => n - (intOf s60).toNat)
  case atStart => exact ⟨0, rfl, Nat.zero_le _, Lib.hid (fun j hj => absurd hj (Nat.not_lt_zero _)), Lib.hid ((Below.refl _ _).alloc (Nat.le_refl _) _), Lib.hid (by rw [cell_of_row _ _ _ _ _ _ (Go.heap_alloc_new _ _)]; rfl), by simp⟩
  case round =>
    obtain ⟨k, rfl, hkl, HA, HW, HX, hsz⟩ := hrel
    by_cases hlt : k < n
    · have hlt' : (k : Int) < n := by omega
      rcases hc with hc | ⟨b, off, rfl, hb, hc⟩
      · omega
      obtain ⟨r', hr'⟩ : ∃ r', rs[k]? = some r' := ⟨_, List.getElem?_eq_getElem (by have := Hn.out; omega)⟩
      obtain ⟨c0, c1, c2, c3, c4, c5, c6, c7⟩ := (row_load hc hr').keep HW.out hb
      have hone := hone k r' hr'
      have hkk := hkd k r' hr'
      have HBr : Hid (Below wr.heap.size wr (wr.alloc (.cells (reC r').toArray 28))) := Lib.hid (re_box wr r')
      have x1 : (wr.alloc (.cells (reC r').toArray 28)).cell? ⟨w.heap.size, 0, none⟩ = some (.int .i64 2) := by rw [HBr.out.cell hsz]; exact HX.out
      have HBW := Lib.hid (HW.out.trans (HBr.out.mono HW.out.size))
      clear hc HX hkd HBr
      simp only [reC] at x1 HBW
      by_cases hq : kd k = 2
      · have hq' : (r'.k == 2) = true := by rw [hkk, hq]; rfl
        have Hq := Lib.hid hq
        clear hq hkk
        repeat' (first | (refine store_re (r := r') hone _ _ rfl rfl rfl rfl ?_; simp only [reC]) | go_values | go_skip | go_guarded | go_step | go_upon)
        go_ret
        refine ⟨ret_bool ?_ hB.out, HBW.out⟩
        simp only [Bool.false_eq_true, false_iff]
        exact fun h => h k hlt Hq.out
      · have hq' : (r'.k == 2) = false := by rw [hkk]; exact beq_false_of_ne hq
        have Hq := Lib.hid hq
        clear hq hkk
        repeat' (first | (refine store_re (r := r') hone _ _ rfl rfl rfl rfl ?_; simp only [reC]) | go_values | go_skip | go_guarded | go_step | go_upon)
        go_roundw
        · exact ⟨k + 1, by go_num, by omega, Lib.hid (fun j hj => by
            rcases Nat.lt_or_ge j k with h | h
            · exact HA.out j h
            · rw [show j = k by omega]; exact Hq.out), HBW, Lib.hid x1, by simp; omega⟩
        · simp [intOf]; omega
    · have hlt' : ¬ (k : Int) < n := by omega
      have Hk : Hid (k = n) := Lib.hid (by omega)
      repeat' (first | go_values | go_skip | go_guarded | go_step | go_upon)
      go_ret
      refine ⟨ret_bool ?_ hB.out, HW.out⟩
      simp only [true_iff]
      exact fun i hi => HA.out i (by have := Hk.out; omega)
set_option maxRecDepth 100000 in
set_option maxHeartbeats 1000000 in
theorem one_ok3 (s0 s1 s2 s3 n : Nat) (rs : List RN) (v : Value) (kd : Nat → Int) (w : World) (hrow : RowOf reC 8 w v rs) (hone : ∀ (i : Nat) r, rs[i]? = some r → r.v.oneCell' = true) (hkd : ∀ (i : Nat) r, rs[i]? = some r → r.k = kd i) (Hn : Hid (rs.length = n)) (hn : 2 ≤ n)
    (hS : ((s0 : Int) == 0 && ((s1 : Int) == 0 && ((s2 : Int) == 0 && (s3 : Int) == 0))) = true) (B : Bool) (hB : Hid (B = true ↔ ∀ i, i < n → kd i ≠ 3)) :
    Calls Tryd.prog 36 #[reV ⟨3, (s0, s1, s2, s3), 0, 0, v⟩] w fun e w' => e = .returned (.bool B) ∧ Below w.heap.size w w' := by
  have hl := hrow.lenOk
  obtain ⟨a, cap, rfl, _, _, hc⟩ := hrow.open reC_length
  rw [Hn.out] at hl hc ⊢
  have hn1 : ((n : Int) == 1) = false := beq_false_of_ne (by omega)
  have hn0 : ((n : Int) == 0) = false := beq_false_of_ne (by omega)
  clear hrow
  simp only [reV, reC]
  go_enter Tryd.func36, Tryd.ntmps36
  repeat' (first | go_values | go_skip | go_guarded | go_step | go_upon)
  go_loopw [60] (fun s60 w' => ∃ k : Nat, s60 = .int .i64 k ∧ k ≤ n ∧ Hid (∀ j, j < k → kd j ≠ 3) ∧ Hid (Below w.heap.size w w') ∧ Hid (w'.cell? ⟨w.heap.size, 0, none⟩ = some (.int .i64 3)) ∧ w.heap.size < w'.heap.size) (fun s60 _ => n - (intOf s60).toNat)
  case atStart => exact ⟨0, rfl, Nat.zero_le _, Lib.hid (fun j hj => absurd hj (Nat.not_lt_zero _)), Lib.hid ((Below.refl _ _).alloc (Nat.le_refl _) _), Lib.hid (by rw [cell_of_row _ _ _ _ _ _ (Go.heap_alloc_new _ _)]; rfl), by simp⟩
  case round =>
    obtain ⟨k, rfl, hkl, HA, HW, HX, hsz⟩ := hrel
    by_cases hlt : k < n
    · have hlt' : (k : Int) < n := by omega
      rcases hc with hc | ⟨b, off, rfl, hb, hc⟩
      · omega
      obtain ⟨r', hr'⟩ : ∃ r', rs[k]? = some r' := ⟨_, List.getElem?_eq_getElem (by have := Hn.out; omega)⟩
      obtain ⟨c0, c1, c2, c3, c4, c5, c6, c7⟩ := (row_load hc hr').keep HW.out hb
      have hone := hone k r' hr'
      have hkk := hkd k r' hr'
      have HBr : Hid (Below wr.heap.size wr (wr.alloc (.cells (reC r').toArray 28))) := Lib.hid (re_box wr r')
      have x1 : (wr.alloc (.cells (reC r').toArray 28)).cell? ⟨w.heap.size, 0, none⟩ = some (.int .i64 3) := by rw [HBr.out.cell hsz]; exact HX.out
      have HBW := Lib.hid (HW.out.trans (HBr.out.mono HW.out.size))
      clear hc HX hkd HBr
      simp only [reC] at x1 HBW
      by_cases hq : kd k = 3
      · have hq' : (r'.k == 3) = true := by rw [hkk, hq]; rfl
        have Hq := Lib.hid hq
        clear hq hkk
        repeat' (first | (refine store_re (r := r') hone _ _ rfl rfl rfl rfl ?_; simp only [reC]) | go_values | go_skip | go_guarded | go_step | go_upon)
        go_ret
        refine ⟨ret_bool ?_ hB.out, HBW.out⟩
        simp only [Bool.false_eq_true, false_iff]
        exact fun h => h k hlt Hq.out
      · have hq' : (r'.k == 3) = false := by rw [hkk]; exact beq_false_of_ne hq
        have Hq := Lib.hid hq
        clear hq hkk
        repeat' (first | (refine store_re (r := r') hone _ _ rfl rfl rfl rfl ?_; simp only [reC]) | go_values | go_skip | go_guarded | go_step | go_upon)
        go_roundw
        · exact ⟨k + 1, by go_num, by omega, Lib.hid (fun j hj => by
            rcases Nat.lt_or_ge j k with h | h
            · exact HA.out j h
            · rw [show j = k by omega]; exact Hq.out), HBW, Lib.hid x1, by simp; omega⟩
        · simp [intOf]; omega
    · have hlt' : ¬ (k : Int) < n := by omega
      have Hk : Hid (k = n) := Lib.hid (by omega)
      repeat' (first | go_values | go_skip | go_guarded | go_step | go_upon)
      go_ret
      refine ⟨ret_bool ?_ hB.out, HW.out⟩
      simp only [true_iff]
      exact fun i hi => HA.out i (by have := Hk.out; omega)
set_option maxRecDepth 100000 in
theorem one_empty (s0 s1 s2 s3 : Nat) (a : Option Addr) (cap : Nat) (w : World) (hS : ((s0 : Int) == 0 && ((s1 : Int) == 0 && ((s2 : Int) == 0 && (s3 : Int) == 0))) = true) :
    Calls Tryd.prog 36 #[reV ⟨2, (s0, s1, s2, s3), 0, 0, .slice a 0 cap⟩] w fun e w' => e = .returned (.bool true) ∧ Below w.heap.size w w' := by
  simp only [reV, reC]
  go_enter Tryd.func36, Tryd.ntmps36
  repeat' (first | go_values | go_skip | go_guarded | go_step | go_upon)
  go_loopw [60] (fun s60 w' => s60 = .int .i64 0 ∧ Hid (Below w.heap.size w w')) (fun s60 _ => 0)
  case atStart => exact ⟨rfl, Lib.hid ((Below.refl _ _).alloc (Nat.le_refl _) _)⟩
  case round =>
    obtain ⟨rfl, HW⟩ := hrel
    repeat' (first | go_values | go_skip | go_guarded | go_step | go_upon)
    go_ret
    exact ⟨rfl, HW.out⟩
set_option maxRecDepth 100000 in
set_option maxHeartbeats 1000000 in
theorem one_bad (K : Int) (hK : K = 2 ∨ K = 3) (s0 s1 s2 s3 n : Nat) (mn mx : Int) (a : Option Addr) (cap : Nat) (w : World) (hl : n ≤ 9223372036854775807)
    (hF : ¬ (((s0 : Int) == 0 && ((s1 : Int) == 0 && ((s2 : Int) == 0 && (s3 : Int) == 0))) = true ∧ mn = 0 ∧ mx = 0 ∧ (2 ≤ (n : Int) ∨ (K = 2 ∧ (n : Int) = 0)))) :
    Calls Tryd.prog 36 #[reV ⟨K, (s0, s1, s2, s3), mn, mx, .slice a n cap⟩] w fun e w' => e = .returned (.bool false) ∧ Below w.heap.size w w' := by
  obtain ⟨bS, hS⟩ : ∃ b, ((s0 : Int) == 0 && ((s1 : Int) == 0 && ((s2 : Int) == 0 && (s3 : Int) == 0))) = b := ⟨_, rfl⟩
  rw [hS] at hF
  simp only [reV, reC]
  rcases hK with rfl | rfl
  all_goals
    cases bS with
    | false =>
      clear hF
      go_enter Tryd.func36, Tryd.ntmps36
      repeat' (first | go_values | go_skip | go_guarded | go_step | go_upon)
      go_ret
      exact ⟨rfl, (Below.refl _ _).alloc (Nat.le_refl _) _⟩
    | true =>
      simp only [true_and] at hF
      go_enter Tryd.func36, Tryd.ntmps36
      repeat' (first | go_values | go_skip | go_guarded | go_step | go_upon)
      all_goals
        go_ret
        exact ⟨rfl, (Below.refl _ _).alloc (Nat.le_refl _) _⟩
end Go.Proofs.YtnbfifmnigeolaaDoor
