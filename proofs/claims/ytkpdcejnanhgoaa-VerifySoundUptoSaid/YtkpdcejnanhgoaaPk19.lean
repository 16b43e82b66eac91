/- Walks: the small functions of vm (bound, isByte, reg, pay, fits), heap.Cost. Conditions: the machine lies in memory. -/
import Derived.Test.YtkpdcejnanhgoaaPk18
namespace Go.Proofs.Ytkpdcejnanhgoaa
open Go.RowKit
set_option maxRecDepth 100000 in
theorem heap_Cost (n : Nat) (hn : n ≤ 262144) (w : World) : Calls Try.prog 50 #[.int .i64 (n : Nat)] w fun e w' => e = .returned (.int .i64 (1 + 4 * (n : Int))) ∧ w' = w := by
  have h1 : (0 : Int) ≤ n := by omega
  go_enter Try.func50, Try.ntmps50
  repeat' (first | go_values | go_skip | go_guarded | go_step | go_upon)
  go_ret
  exact ⟨rfl, rfl⟩
def bndI (n : Int) : Int := min (max n 0) 1048576
set_option maxRecDepth 100000 in
theorem vm_bound (n : Int) (w : World) : Calls Try.prog 30 #[.int .i64 n] w fun e w' => e = .returned (.int .i64 (bndI n)) ∧ w' = w := by
  by_cases h1 : n < 0
  · have e : bndI n = 0 := by unfold bndI; omega
    rw [e]
    clear e
    go_enter Try.func30, Try.ntmps30
    repeat' (first | go_values | go_skip | go_guarded | go_step | go_upon)
    go_ret
    exact ⟨by first | rfl | (congr 2; split <;> omega), rfl⟩
  · by_cases h2 : 1048576 < n
    · have e : bndI n = 1048576 := by unfold bndI; omega
      rw [e]
      clear e
      go_enter Try.func30, Try.ntmps30
      repeat' (first | go_values | go_skip | go_guarded | go_step | go_upon)
      go_ret
      exact ⟨by first | rfl | (congr 2; split <;> omega), rfl⟩
    · have e : bndI n = n := by unfold bndI; omega
      rw [e]
      clear e
      go_enter Try.func30, Try.ntmps30
      repeat' (first | go_values | go_skip | go_guarded | go_step | go_upon)
      go_ret
      exact ⟨by first | rfl | (congr 2; split <;> omega), rfl⟩
set_option maxRecDepth 100000 in
theorem vm_isByte (n : Int) (w : World) : Calls Try.prog 49 #[.int .i64 n] w fun e w' => e = .returned (.bool (decide (0 ≤ n ∧ n < 256))) ∧ w' = w := by
  by_cases h1 : 0 ≤ n
  · by_cases h2 : n < 256
    · rw [decide_eq_true ⟨h1, h2⟩]
      go_enter Try.func49, Try.ntmps49
      repeat' (first | go_values | go_skip | go_guarded | go_step | go_upon)
      go_ret
      exact ⟨by first | rfl | simp [h1, h2], rfl⟩
    · rw [decide_eq_false (fun h => h2 h.2)]
      go_enter Try.func49, Try.ntmps49
      repeat' (first | go_values | go_skip | go_guarded | go_step | go_upon)
      go_ret
      exact ⟨by first | rfl | simp [h1, h2], rfl⟩
  · rw [decide_eq_false (fun h => h1 h.1)]
    go_enter Try.func49, Try.ntmps49
    repeat' (first | go_values | go_skip | go_guarded | go_step | go_upon)
    go_ret
    exact ⟨by first | rfl | simp [h1], rfl⟩
set_option maxRecDepth 100000 in
theorem vm_reg (x : Value) (n : Int) (w : World) : Calls Try.prog 69 #[x, .int .i64 n] w fun e w' => e = .returned (.bool (decide (0 ≤ n ∧ n < 8))) ∧ w' = w := by
  by_cases h1 : 0 ≤ n
  · by_cases h2 : n < 8
    · rw [decide_eq_true ⟨h1, h2⟩]
      go_enter Try.func69, Try.ntmps69
      repeat' (first | go_values | go_skip | go_guarded | go_step | go_upon)
      go_ret
      exact ⟨by first | rfl | simp [h1, h2], rfl⟩
    · rw [decide_eq_false (fun h => h2 h.2)]
      go_enter Try.func69, Try.ntmps69
      repeat' (first | go_values | go_skip | go_guarded | go_step | go_upon)
      go_ret
      exact ⟨by first | rfl | simp [h1, h2], rfl⟩
  · rw [decide_eq_false (fun h => h1 h.1)]
    go_enter Try.func69, Try.ntmps69
    repeat' (first | go_values | go_skip | go_guarded | go_step | go_upon)
    go_ret
    exact ⟨by first | rfl | simp [h1], rfl⟩
theorem fit_cases (x : Nat → Int) : x 0 = 1 ∨ x 0 = 2 ∨ x 0 = 3 ∨ x 0 = 4 ∨ x 0 = 5 ∨ x 0 = 6 ∨ x 0 = 7 ∨ x 0 = 8 ∨ x 0 = 9 ∨ x 0 = 10 ∨ x 0 = 11 ∨ x 0 = 12 ∨ x 0 = 13 ∨ x 0 = 14 ∨ x 0 = 15 ∨ x 0 = 16 ∨ x 0 = 17 ∨ (¬ (1 ≤ x 0 ∧ x 0 ≤ 17)) := by omega
set_option maxRecDepth 100000 in
set_option maxHeartbeats 2000000 in
theorem vm_fits (g : Value) (x : Nat → Int) (w : World) : Calls Try.prog 47 #[g, vI x] w fun e w' => e = .returned (.bool (fitB x)) ∧ Below w.heap.size w w' := by
  have HN : Hid (InsAt (w.alloc (.cells (ic x) 85)) w.heap.size x) := Lib.hid (InsAt.new w x)
  have Hb : Hid (Below w.heap.size w (w.alloc (.cells (ic x) 85))) := Lib.hid ((Below.refl _ _).alloc (Nat.le_refl _) _)
  have HR := Lib.hid fun (n : Int) (w : World) => vm_reg g n w
  have HF : Hid (fitB x = if x 0 = 1 ∨ x 0 = 4 ∨ x 0 = 14 ∨ x 0 = 16 then true else if x 0 = 9 ∨ x 0 = 10 ∨ x 0 = 11 then decide (0 ≤ x 1 ∧ x 1 < 2)
    else if x 0 = 3 ∨ x 0 = 8 ∨ x 0 = 13 then decide (0 ≤ x 2 ∧ x 2 < 8) && decide (0 ≤ x 1 ∧ x 1 < 8)
    else if x 0 = 2 ∨ x 0 = 5 ∨ x 0 = 6 ∨ x 0 = 7 ∨ x 0 = 12 ∨ x 0 = 15 ∨ x 0 = 17 then decide (0 ≤ x 1 ∧ x 1 < 8) else false) := Lib.hid rfl
  generalize fitB x = B at HF ⊢
  rcases fit_cases x with hx | hx | hx | hx | hx | hx | hx | hx | hx | hx | hx | hx | hx | hx | hx | hx | hx | hx
  · have HB : Hid (B = true) := Lib.hid (by rw [HF.out, hx]; simp)
    have hc0 : (w.alloc (.cells (ic x) 85)).cell? ⟨w.heap.size, 0, none⟩ = some (.int .i64 1) := by rw [HN.out.cell 0 (by decide), hx]
    clear HF hx
    go_enter Try.func47, Try.ntmps47
    repeat' (first | go_values | go_skip | go_guarded | go_step | go_upon)
    go_ret
    exact ⟨by rw [HB.out]; rfl, Hb.out⟩
  · have HB : Hid (B = decide (0 ≤ x 1 ∧ x 1 < 8)) := Lib.hid (by rw [HF.out, hx]; simp)
    have hc0 : (w.alloc (.cells (ic x) 85)).cell? ⟨w.heap.size, 0, none⟩ = some (.int .i64 2) := by rw [HN.out.cell 0 (by decide), hx]
    clear HF hx
    have hc1 := HN.out.cell 1 (by decide)
    go_enter Try.func47, Try.ntmps47
    repeat' (first | go_values | go_skip | go_guarded | go_step | go_upon)
    refine Calls.mono (HR.out _ _) ?_
    rintro _ w1 ⟨rfl, rfl⟩
    dsimp only
    repeat' (first | go_values | go_skip | go_guarded | go_step | go_upon)
    go_ret
    exact ⟨by rw [HB.out]; rfl, Hb.out⟩
  · have HB : Hid (B = (decide (0 ≤ x 2 ∧ x 2 < 8) && decide (0 ≤ x 1 ∧ x 1 < 8))) := Lib.hid (by rw [HF.out, hx]; simp)
    have hc0 : (w.alloc (.cells (ic x) 85)).cell? ⟨w.heap.size, 0, none⟩ = some (.int .i64 3) := by rw [HN.out.cell 0 (by decide), hx]
    clear HF hx
    have hc1 := HN.out.cell 1 (by decide)
    have hc2 := HN.out.cell 2 (by decide)
    by_cases h2 : 0 ≤ x 2 ∧ x 2 < 8
    · rw [decide_eq_true h2, Bool.true_and] at HB
      have H2 := Lib.hid h2
      clear h2
      go_enter Try.func47, Try.ntmps47
      repeat' (first | go_values | go_skip | go_guarded | go_step | go_upon)
      refine Calls.mono (HR.out _ _) ?_
      rintro _ w1 ⟨rfl, rfl⟩
      dsimp only
      rw [decide_eq_true H2.out]
      repeat' (first | go_values | go_skip | go_guarded | go_step | go_upon)
      refine Calls.mono (HR.out _ _) ?_
      rintro _ w1 ⟨rfl, rfl⟩
      dsimp only
      repeat' (first | go_values | go_skip | go_guarded | go_step | go_upon)
      go_ret
      exact ⟨by rw [HB.out]; rfl, Hb.out⟩
    · rw [decide_eq_false h2, Bool.false_and] at HB
      have H2 := Lib.hid h2
      clear h2
      go_enter Try.func47, Try.ntmps47
      repeat' (first | go_values | go_skip | go_guarded | go_step | go_upon)
      refine Calls.mono (HR.out _ _) ?_
      rintro _ w1 ⟨rfl, rfl⟩
      dsimp only
      rw [decide_eq_false H2.out]
      repeat' (first | go_values | go_skip | go_guarded | go_step | go_upon)
      go_ret
      exact ⟨by rw [HB.out]; rfl, Hb.out⟩
  · have HB : Hid (B = true) := Lib.hid (by rw [HF.out, hx]; simp)
    have hc0 : (w.alloc (.cells (ic x) 85)).cell? ⟨w.heap.size, 0, none⟩ = some (.int .i64 4) := by rw [HN.out.cell 0 (by decide), hx]
    clear HF hx
    go_enter Try.func47, Try.ntmps47
    repeat' (first | go_values | go_skip | go_guarded | go_step | go_upon)
    go_ret
    exact ⟨by rw [HB.out]; rfl, Hb.out⟩
  · have HB : Hid (B = decide (0 ≤ x 1 ∧ x 1 < 8)) := Lib.hid (by rw [HF.out, hx]; simp)
    have hc0 : (w.alloc (.cells (ic x) 85)).cell? ⟨w.heap.size, 0, none⟩ = some (.int .i64 5) := by rw [HN.out.cell 0 (by decide), hx]
    clear HF hx
    have hc1 := HN.out.cell 1 (by decide)
    go_enter Try.func47, Try.ntmps47
    repeat' (first | go_values | go_skip | go_guarded | go_step | go_upon)
    refine Calls.mono (HR.out _ _) ?_
    rintro _ w1 ⟨rfl, rfl⟩
    dsimp only
    repeat' (first | go_values | go_skip | go_guarded | go_step | go_upon)
    go_ret
    exact ⟨by rw [HB.out]; rfl, Hb.out⟩
  · have HB : Hid (B = decide (0 ≤ x 1 ∧ x 1 < 8)) := Lib.hid (by rw [HF.out, hx]; simp)
    have hc0 : (w.alloc (.cells (ic x) 85)).cell? ⟨w.heap.size, 0, none⟩ = some (.int .i64 6) := by rw [HN.out.cell 0 (by decide), hx]
    clear HF hx
    have hc1 := HN.out.cell 1 (by decide)
    go_enter Try.func47, Try.ntmps47
    repeat' (first | go_values | go_skip | go_guarded | go_step | go_upon)
    refine Calls.mono (HR.out _ _) ?_
    rintro _ w1 ⟨rfl, rfl⟩
    dsimp only
    repeat' (first | go_values | go_skip | go_guarded | go_step | go_upon)
    go_ret
    exact ⟨by rw [HB.out]; rfl, Hb.out⟩
  · have HB : Hid (B = decide (0 ≤ x 1 ∧ x 1 < 8)) := Lib.hid (by rw [HF.out, hx]; simp)
    have hc0 : (w.alloc (.cells (ic x) 85)).cell? ⟨w.heap.size, 0, none⟩ = some (.int .i64 7) := by rw [HN.out.cell 0 (by decide), hx]
    clear HF hx
    have hc1 := HN.out.cell 1 (by decide)
    go_enter Try.func47, Try.ntmps47
    repeat' (first | go_values | go_skip | go_guarded | go_step | go_upon)
    refine Calls.mono (HR.out _ _) ?_
    rintro _ w1 ⟨rfl, rfl⟩
    dsimp only
    repeat' (first | go_values | go_skip | go_guarded | go_step | go_upon)
    go_ret
    exact ⟨by rw [HB.out]; rfl, Hb.out⟩
  · have HB : Hid (B = (decide (0 ≤ x 2 ∧ x 2 < 8) && decide (0 ≤ x 1 ∧ x 1 < 8))) := Lib.hid (by rw [HF.out, hx]; simp)
    have hc0 : (w.alloc (.cells (ic x) 85)).cell? ⟨w.heap.size, 0, none⟩ = some (.int .i64 8) := by rw [HN.out.cell 0 (by decide), hx]
    clear HF hx
    have hc1 := HN.out.cell 1 (by decide)
    have hc2 := HN.out.cell 2 (by decide)
    by_cases h2 : 0 ≤ x 2 ∧ x 2 < 8
    · rw [decide_eq_true h2, Bool.true_and] at HB
      have H2 := Lib.hid h2
      clear h2
      go_enter Try.func47, Try.ntmps47
      repeat' (first | go_values | go_skip | go_guarded | go_step | go_upon)
      refine Calls.mono (HR.out _ _) ?_
      rintro _ w1 ⟨rfl, rfl⟩
      dsimp only
      rw [decide_eq_true H2.out]
      repeat' (first | go_values | go_skip | go_guarded | go_step | go_upon)
      refine Calls.mono (HR.out _ _) ?_
      rintro _ w1 ⟨rfl, rfl⟩
      dsimp only
      repeat' (first | go_values | go_skip | go_guarded | go_step | go_upon)
      go_ret
      exact ⟨by rw [HB.out]; rfl, Hb.out⟩
    · rw [decide_eq_false h2, Bool.false_and] at HB
      have H2 := Lib.hid h2
      clear h2
      go_enter Try.func47, Try.ntmps47
      repeat' (first | go_values | go_skip | go_guarded | go_step | go_upon)
      refine Calls.mono (HR.out _ _) ?_
      rintro _ w1 ⟨rfl, rfl⟩
      dsimp only
      rw [decide_eq_false H2.out]
      repeat' (first | go_values | go_skip | go_guarded | go_step | go_upon)
      go_ret
      exact ⟨by rw [HB.out]; rfl, Hb.out⟩
  · have HB : Hid (B = decide (0 ≤ x 1 ∧ x 1 < 2)) := Lib.hid (by rw [HF.out, hx]; simp)
    have hc0 : (w.alloc (.cells (ic x) 85)).cell? ⟨w.heap.size, 0, none⟩ = some (.int .i64 9) := by rw [HN.out.cell 0 (by decide), hx]
    clear HF hx
    have hc1 := HN.out.cell 1 (by decide)
    by_cases h1 : 0 ≤ x 1
    · by_cases h2 : x 1 < 2
      · go_enter Try.func47, Try.ntmps47
        repeat' (first | go_values | go_skip | go_guarded | go_step | go_upon)
        go_ret
        exact ⟨by rw [HB.out, decide_eq_true ⟨h1, h2⟩]; first | rfl | simp [h1, h2], Hb.out⟩
      · go_enter Try.func47, Try.ntmps47
        repeat' (first | go_values | go_skip | go_guarded | go_step | go_upon)
        go_ret
        exact ⟨by rw [HB.out, decide_eq_false (fun h => h2 h.2)]; first | rfl | simp [h1, h2], Hb.out⟩
    · go_enter Try.func47, Try.ntmps47
      repeat' (first | go_values | go_skip | go_guarded | go_step | go_upon)
      go_ret
      exact ⟨by rw [HB.out, decide_eq_false (fun h => h1 h.1)]; first | rfl | simp [h1], Hb.out⟩
  · have HB : Hid (B = decide (0 ≤ x 1 ∧ x 1 < 2)) := Lib.hid (by rw [HF.out, hx]; simp)
    have hc0 : (w.alloc (.cells (ic x) 85)).cell? ⟨w.heap.size, 0, none⟩ = some (.int .i64 10) := by rw [HN.out.cell 0 (by decide), hx]
    clear HF hx
    have hc1 := HN.out.cell 1 (by decide)
    by_cases h1 : 0 ≤ x 1
    · by_cases h2 : x 1 < 2
      · go_enter Try.func47, Try.ntmps47
        repeat' (first | go_values | go_skip | go_guarded | go_step | go_upon)
        go_ret
        exact ⟨by rw [HB.out, decide_eq_true ⟨h1, h2⟩]; first | rfl | simp [h1, h2], Hb.out⟩
      · go_enter Try.func47, Try.ntmps47
        repeat' (first | go_values | go_skip | go_guarded | go_step | go_upon)
        go_ret
        exact ⟨by rw [HB.out, decide_eq_false (fun h => h2 h.2)]; first | rfl | simp [h1, h2], Hb.out⟩
    · go_enter Try.func47, Try.ntmps47
      repeat' (first | go_values | go_skip | go_guarded | go_step | go_upon)
      go_ret
      exact ⟨by rw [HB.out, decide_eq_false (fun h => h1 h.1)]; first | rfl | simp [h1], Hb.out⟩
  · have HB : Hid (B = decide (0 ≤ x 1 ∧ x 1 < 2)) := Lib.hid (by rw [HF.out, hx]; simp)
    have hc0 : (w.alloc (.cells (ic x) 85)).cell? ⟨w.heap.size, 0, none⟩ = some (.int .i64 11) := by rw [HN.out.cell 0 (by decide), hx]
    clear HF hx
    have hc1 := HN.out.cell 1 (by decide)
    by_cases h1 : 0 ≤ x 1
    · by_cases h2 : x 1 < 2
      · go_enter Try.func47, Try.ntmps47
        repeat' (first | go_values | go_skip | go_guarded | go_step | go_upon)
        go_ret
        exact ⟨by rw [HB.out, decide_eq_true ⟨h1, h2⟩]; first | rfl | simp [h1, h2], Hb.out⟩
      · go_enter Try.func47, Try.ntmps47
        repeat' (first | go_values | go_skip | go_guarded | go_step | go_upon)
        go_ret
        exact ⟨by rw [HB.out, decide_eq_false (fun h => h2 h.2)]; first | rfl | simp [h1, h2], Hb.out⟩
    · go_enter Try.func47, Try.ntmps47
      repeat' (first | go_values | go_skip | go_guarded | go_step | go_upon)
      go_ret
      exact ⟨by rw [HB.out, decide_eq_false (fun h => h1 h.1)]; first | rfl | simp [h1], Hb.out⟩
  · have HB : Hid (B = decide (0 ≤ x 1 ∧ x 1 < 8)) := Lib.hid (by rw [HF.out, hx]; simp)
    have hc0 : (w.alloc (.cells (ic x) 85)).cell? ⟨w.heap.size, 0, none⟩ = some (.int .i64 12) := by rw [HN.out.cell 0 (by decide), hx]
    clear HF hx
    have hc1 := HN.out.cell 1 (by decide)
    go_enter Try.func47, Try.ntmps47
    repeat' (first | go_values | go_skip | go_guarded | go_step | go_upon)
    refine Calls.mono (HR.out _ _) ?_
    rintro _ w1 ⟨rfl, rfl⟩
    dsimp only
    repeat' (first | go_values | go_skip | go_guarded | go_step | go_upon)
    go_ret
    exact ⟨by rw [HB.out]; rfl, Hb.out⟩
  · have HB : Hid (B = (decide (0 ≤ x 2 ∧ x 2 < 8) && decide (0 ≤ x 1 ∧ x 1 < 8))) := Lib.hid (by rw [HF.out, hx]; simp)
    have hc0 : (w.alloc (.cells (ic x) 85)).cell? ⟨w.heap.size, 0, none⟩ = some (.int .i64 13) := by rw [HN.out.cell 0 (by decide), hx]
    clear HF hx
    have hc1 := HN.out.cell 1 (by decide)
    have hc2 := HN.out.cell 2 (by decide)
    by_cases h2 : 0 ≤ x 2 ∧ x 2 < 8
    · rw [decide_eq_true h2, Bool.true_and] at HB
      have H2 := Lib.hid h2
      clear h2
      go_enter Try.func47, Try.ntmps47
      repeat' (first | go_values | go_skip | go_guarded | go_step | go_upon)
      refine Calls.mono (HR.out _ _) ?_
      rintro _ w1 ⟨rfl, rfl⟩
      dsimp only
      rw [decide_eq_true H2.out]
      repeat' (first | go_values | go_skip | go_guarded | go_step | go_upon)
      refine Calls.mono (HR.out _ _) ?_
      rintro _ w1 ⟨rfl, rfl⟩
      dsimp only
      repeat' (first | go_values | go_skip | go_guarded | go_step | go_upon)
      go_ret
      exact ⟨by rw [HB.out]; rfl, Hb.out⟩
    · rw [decide_eq_false h2, Bool.false_and] at HB
      have H2 := Lib.hid h2
      clear h2
      go_enter Try.func47, Try.ntmps47
      repeat' (first | go_values | go_skip | go_guarded | go_step | go_upon)
      refine Calls.mono (HR.out _ _) ?_
      rintro _ w1 ⟨rfl, rfl⟩
      dsimp only
      rw [decide_eq_false H2.out]
      repeat' (first | go_values | go_skip | go_guarded | go_step | go_upon)
      go_ret
      exact ⟨by rw [HB.out]; rfl, Hb.out⟩
  · have HB : Hid (B = true) := Lib.hid (by rw [HF.out, hx]; simp)
    have hc0 : (w.alloc (.cells (ic x) 85)).cell? ⟨w.heap.size, 0, none⟩ = some (.int .i64 14) := by rw [HN.out.cell 0 (by decide), hx]
    clear HF hx
    go_enter Try.func47, Try.ntmps47
    repeat' (first | go_values | go_skip | go_guarded | go_step | go_upon)
    go_ret
    exact ⟨by rw [HB.out]; rfl, Hb.out⟩
  · have HB : Hid (B = decide (0 ≤ x 1 ∧ x 1 < 8)) := Lib.hid (by rw [HF.out, hx]; simp)
    have hc0 : (w.alloc (.cells (ic x) 85)).cell? ⟨w.heap.size, 0, none⟩ = some (.int .i64 15) := by rw [HN.out.cell 0 (by decide), hx]
    clear HF hx
    have hc1 := HN.out.cell 1 (by decide)
    go_enter Try.func47, Try.ntmps47
    repeat' (first | go_values | go_skip | go_guarded | go_step | go_upon)
    refine Calls.mono (HR.out _ _) ?_
    rintro _ w1 ⟨rfl, rfl⟩
    dsimp only
    repeat' (first | go_values | go_skip | go_guarded | go_step | go_upon)
    go_ret
    exact ⟨by rw [HB.out]; rfl, Hb.out⟩
  · have HB : Hid (B = true) := Lib.hid (by rw [HF.out, hx]; simp)
    have hc0 : (w.alloc (.cells (ic x) 85)).cell? ⟨w.heap.size, 0, none⟩ = some (.int .i64 16) := by rw [HN.out.cell 0 (by decide), hx]
    clear HF hx
    go_enter Try.func47, Try.ntmps47
    repeat' (first | go_values | go_skip | go_guarded | go_step | go_upon)
    go_ret
    exact ⟨by rw [HB.out]; rfl, Hb.out⟩
  · have HB : Hid (B = decide (0 ≤ x 1 ∧ x 1 < 8)) := Lib.hid (by rw [HF.out, hx]; simp)
    have hc0 : (w.alloc (.cells (ic x) 85)).cell? ⟨w.heap.size, 0, none⟩ = some (.int .i64 17) := by rw [HN.out.cell 0 (by decide), hx]
    clear HF hx
    have hc1 := HN.out.cell 1 (by decide)
    go_enter Try.func47, Try.ntmps47
    repeat' (first | go_values | go_skip | go_guarded | go_step | go_upon)
    refine Calls.mono (HR.out _ _) ?_
    rintro _ w1 ⟨rfl, rfl⟩
    dsimp only
    repeat' (first | go_values | go_skip | go_guarded | go_step | go_upon)
    go_ret
    exact ⟨by rw [HB.out]; rfl, Hb.out⟩
  · have HB : Hid (B = false) := Lib.hid (by
      rw [HF.out, if_neg (by omega), if_neg (by omega), if_neg (by omega), if_neg (by omega)])
    have hc0 := HN.out.cell 0 (by decide)
    have e1 : (x 0 == 1) = false := beq_false_of_ne (by omega)
    have e2 : (x 0 == 2) = false := beq_false_of_ne (by omega)
    have e3 : (x 0 == 3) = false := beq_false_of_ne (by omega)
    have e4 : (x 0 == 4) = false := beq_false_of_ne (by omega)
    have e5 : (x 0 == 5) = false := beq_false_of_ne (by omega)
    have e6 : (x 0 == 6) = false := beq_false_of_ne (by omega)
    have e7 : (x 0 == 7) = false := beq_false_of_ne (by omega)
    have e8 : (x 0 == 8) = false := beq_false_of_ne (by omega)
    have e9 : (x 0 == 9) = false := beq_false_of_ne (by omega)
    have e10 : (x 0 == 10) = false := beq_false_of_ne (by omega)
    have e11 : (x 0 == 11) = false := beq_false_of_ne (by omega)
    have e12 : (x 0 == 12) = false := beq_false_of_ne (by omega)
    have e13 : (x 0 == 13) = false := beq_false_of_ne (by omega)
    have e14 : (x 0 == 14) = false := beq_false_of_ne (by omega)
    have e15 : (x 0 == 15) = false := beq_false_of_ne (by omega)
    have e16 : (x 0 == 16) = false := beq_false_of_ne (by omega)
    have e17 : (x 0 == 17) = false := beq_false_of_ne (by omega)
    clear HF hx
    go_enter Try.func47, Try.ntmps47
    repeat' (first | go_values | go_skip | go_guarded | go_step | go_upon)
    go_ret
    exact ⟨by rw [HB.out]; rfl, Hb.out⟩
end Go.Proofs.Ytkpdcejnanhgoaa
/- Walk: where a look finds its number (vm.run.cell). Conditions: the machine lies in memory; the registers that are named are there. -/
namespace Go.Proofs.Ytkpdcejnanhgoaa
open Go.RowKit
theorem cellB_no {p : Prg} {x rg : Nat → Int} (h : ¬ (0 ≤ x 4 ∧ x 4 < p.tabs.length)) : cellB p x rg = false := by unfold cellB; rw [decide_eq_false h]; rfl
end Go.Proofs.Ytkpdcejnanhgoaa
/- Walk: where a look finds its number (vm.run.cell). Conditions: the machine lies in memory; the registers that are named are there. -/
namespace Go.Proofs.Ytkpdcejnanhgoaa
open Go.RowKit
def VB (w0 w : World) (g : Nat) (p : Prg) (v : PV) (s : RS) (src put sg tl : List Int) (W : World) : Prop := VM w0 g p v s src put sg tl W ∧ Below w.heap.size w W
theorem VB.keep {w0 w W W' : World} {g : Nat} {p : Prg} {v : PV} {s : RS} {src put sg tl : List Int} (h : VB w0 w g p v s src put sg tl W) (hb : Below W.heap.size W W') : VB w0 w g p v s src put sg tl W' := ⟨h.1.keep hb, h.2.trans (hb.mono h.2.size)⟩
set_option maxRecDepth 100000 in
set_option maxHeartbeats 4000000 in
theorem vm_cell2 {w0 w : World} {g : Nat} {p : Prg} {v : PV} {s : RS} {src put sg tl : List Int} (x : Nat → Int) (h : VM w0 g p v s src put sg tl w) (h1 : 0 ≤ x 1 ∧ x 1 < 8) (h2 : 0 ≤ x 2 ∧ x 2 < 8) :
    Calls Try.prog 48 #[.pointer (some ⟨g, 0, none⟩), vI x] w fun e w' => ∃ c, e = .returned (.tuple #[.int .i64 c, .bool (cellB p x s.rg)]) ∧ (cellB p x s.rg = true → ∃ k : Nat, c = k ∧ k < (tabD p x).2.length) ∧ VB w0 w g p v s src put sg tl w' := by
  have hab : Below w.heap.size w (w.alloc (.cells (ic x) 85)) := (Below.refl _ _).alloc (Nat.le_refl _) _
  have HV : Hid (VB w0 w g p v s src put sg tl (w.alloc (.cells (ic x) 85))) := Lib.hid ⟨h.keep hab, hab⟩
  have HN : Hid (InsAt (w.alloc (.cells (ic x) 85)) w.heap.size x) := Lib.hid (InsAt.new w x)
  obtain ⟨i1, e1⟩ : ∃ k : Nat, x 1 = (k : Int) := ⟨(x 1).toNat, by omega⟩
  obtain ⟨i2, e2⟩ : ∃ k : Nat, x 2 = (k : Int) := ⟨(x 2).toNat, by omega⟩
  have hi1 : i1 < 8 := by omega
  have hi2 : i2 < 8 := by omega
  obtain ⟨wc, hwc⟩ : ∃ y, y = w.alloc (.cells (ic x) 85) := ⟨_, rfl⟩
  obtain ⟨g4, hg4⟩ : ∃ b, b = w.heap.size := ⟨_, rfl⟩
  rw [← hwc, ← hg4] at HN
  rw [← hwc] at HV
  obtain ⟨ts, hts, htl, htr⟩ := HV.out.1.prgw.tabs
  obtain ⟨at', ct, hvt, hct, hmt, hcellt⟩ := hts.open (f := tbC) (sz := 2) (fun _ => rfl)
  have qv : ∀ nq : WB wc, nq.1.cell? ⟨g, 5, none⟩ = some (.slice at' ts.length ct) := fun nq => by rw [← hvt]; exact (HV.out.1.box.keep nq.2).cell 5
  have q4 : ∀ nq : WB wc, nq.1.cell? ⟨g4, 4, none⟩ = some (.int .i64 (x 4)) := fun nq => (HN.out.keep nq.2).cell 4 (by decide)
  have Hts := Lib.hid htr
  have Htl := Lib.hid htl
  have Hvt := Lib.hid hvt
  have He1 := Lib.hid e1
  have He2 := Lib.hid e2
  by_cases ht : 0 ≤ x 4 ∧ x 4 < p.tabs.length
  rotate_left
  · rw [cellB_no ht]
    have hcs : x 4 < 0 ∨ (0 ≤ x 4 ∧ (ts.length : Int) ≤ x 4) := by omega
    clear h hab h1 h2 e1 e2 hts htl htr hct hmt hcellt ht hvt
    go_enter Try.func48, Try.ntmps48
    repeat' (go_not_at_region 1; first | go_values | go_skip | go_guarded | go_step | go_upon)
    rw [← hwc, ← hg4]
    clear hwc hg4
    rcases hcs with hd | ⟨hd, hd'⟩
    · have b1 : decide (x 4 < 0) = true := decide_eq_true hd
      refine wp_region_anyC (by kernel_rfl) wc ?_
      refine tkC 0 rfl ?_
      refine tkC 1 rfl ?_
      refine tkC 2 rfl ?_
      refine tkC 3 rfl ?_
      refine skC 4 rfl ?_
      refine skC 5 rfl ?_
      refine skC 6 rfl ?_
      refine skC 7 rfl ?_
      refine skC 8 rfl ?_
      refine skC 9 rfl ?_
      refine skC 10 rfl ?_
      refine skC 11 rfl ?_
      refine skC 12 rfl ?_
      refine tkC 13 rfl ?_
      refine wpAnyC_done (by kernel_rfl) (CW.of ((Below.refl _ _).drew)) (by go_simp <;> with_reducible rfl) ?_
      clear qv q4
      repeat' (first | go_values | go_skip | go_guarded | go_step | go_upon)
      go_ret2
      exact ⟨0, rfl, fun h => by simp at h, HV.out.keep (Below.refl _ _).drew⟩
    · have b1 : decide (x 4 < 0) = false := decide_eq_false (by omega)
      have b2 : decide ((ts.length : Int) ≤ x 4) = true := decide_eq_true hd'
      refine wp_region_anyC (by kernel_rfl) wc ?_
      refine tkC 0 rfl ?_
      refine tkC 1 rfl ?_
      refine tkC 2 rfl ?_
      refine tkC 3 rfl ?_
      refine tkC 4 rfl ?_
      refine tkC 5 rfl ?_
      refine tkC 6 rfl ?_
      refine tkC 7 rfl ?_
      refine tkC 8 rfl ?_
      refine tkC 9 rfl ?_
      refine tkC 10 rfl ?_
      refine tkC 11 rfl ?_
      refine tkC 12 rfl ?_
      refine tkC 13 rfl ?_
      refine wpAnyC_done (by kernel_rfl) (CW.of ((Below.refl _ _).drew)) (by go_simp <;> with_reducible rfl) ?_
      clear qv q4
      repeat' (first | go_values | go_skip | go_guarded | go_step | go_upon)
      go_ret2
      exact ⟨0, rfl, fun h => by simp at h, HV.out.keep (Below.refl _ _).drew⟩
  obtain ⟨hd0, hd1⟩ := ht
  obtain ⟨kt, hkt⟩ : ∃ k : Nat, x 4 = (k : Int) := ⟨(x 4).toNat, by omega⟩
  have hktl : kt < p.tabs.length := by omega
  have hkts : kt < ts.length := by omega
  have htd : tabD p x = p.tabs[kt] := by
    unfold tabD
    rw [hkt, Int.toNat_natCast, List.getD_eq_getElem?_getD, List.getElem?_eq_getElem hktl]; rfl
  have hti : ts[kt]? = some ts[kt] := List.getElem?_eq_getElem hkts
  obtain ⟨e1', hqi, hrow⟩ := htr kt _ _ hti (List.getElem?_eq_getElem hktl)
  rcases hcellt with h0 | ⟨bt, ot, hat, hbt, hclt⟩
  · omega
  subst hat
  obtain ⟨t0, t1⟩ := tab_cells hclt hti
  have HB : Hid (cellB p x s.rg = (decide (1 ≤ (p.tabs[kt]).1) && (decide (0 ≤ s.rg i1 ∧ s.rg i1 < ((p.tabs[kt]).2.length : Int) / (p.tabs[kt]).1) && decide (0 ≤ s.rg i2 ∧ s.rg i2 < (p.tabs[kt]).1)))) := Lib.hid (by
    unfold cellB
    rw [decide_eq_true ⟨hd0, hd1⟩, Bool.true_and, htd, e1, e2]; rfl)
  rw [htd]
  generalize p.tabs[kt] = tab at *
  obtain ⟨q', dl⟩ := tab
  generalize ts[kt] = tt at *
  obtain ⟨q0', vd⟩ := tt
  dsimp only at e1' hqi hrow t0 t1 HB ⊢
  obtain ⟨ad, cd, hvd, hcd, hmd⟩ := hrow.slice
  subst hvd e1'
  obtain ⟨dn, hdn⟩ : ∃ n, n = dl.length := ⟨_, rfl⟩
  rw [← hdn] at HB hcd t1 ⊢
  have hdm : dn ≤ 9223372036854775807 := by unfold maxLen at hmd; omega
  generalize cellB p x s.rg = R at HB ⊢
  obtain ⟨ra, hra⟩ : ∃ r, r = s.rg i1 := ⟨_, rfl⟩
  obtain ⟨rb, hrb⟩ : ∃ r, r = s.rg i2 := ⟨_, rfl⟩
  rw [← hra, ← hrb] at HB
  have hbw : ∀ (nq : WB wc) o, nq.1.cell? ⟨bt, o, none⟩ = wc.cell? ⟨bt, o, none⟩ := fun nq o => nq.2.cell (show bt < wc.heap.size from hbt)
  have k5 : ∀ nq : WB wc, nq.1.cell? ⟨bt, ot + kt * 2, none⟩ = some (.int .i64 q0') := fun nq => by rw [hbw]; exact t0
  have k6 : ∀ nq : WB wc, nq.1.cell? ⟨bt, ot + kt * 2 + 1, none⟩ = some (.slice ad dn cd) := fun nq => by rw [hbw]; exact t1
  have hkts' : (kt : Int) < (ts.length : Int) := by omega
  have hkt0 : (0 : Int) ≤ kt := by omega
  rw [hkt] at q4
  clear h hab h1 h2 e1 e2 hts htl htr hct hmt hvt hclt t0 t1 hbw htd hkt hti hrow hcd hmd hdn hd0 hd1 hbt
  go_enter Try.func48, Try.ntmps48
  repeat' (go_not_at_region 1; first | go_values | go_skip | go_guarded | go_step | go_upon)
  rw [← hwc, ← hg4]
  clear hwc hg4
  refine wp_region_anyC (by kernel_rfl) wc ?_
  refine tkC 0 rfl ?_
  refine tkC 1 rfl ?_
  refine tkC 2 rfl ?_
  refine tkC 3 rfl ?_
  refine tkC 4 rfl ?_
  refine tkC 5 rfl ?_
  refine tkC 6 rfl ?_
  refine tkC 7 rfl ?_
  refine tkC 8 rfl ?_
  refine tkC 9 rfl ?_
  refine tkC 10 rfl ?_
  refine tkC 11 rfl ?_
  refine tkC 12 rfl ?_
  refine tkC 13 rfl ?_
  refine genCk (fun W => Below wc.heap.size wc W) (Below.refl _ _).drew ?_
  intro w1 hb1
  refine wpAnyC_done (by kernel_rfl) (CW.of (hb1)) (by go_simp <;> with_reducible rfl) ?_
  have HV1 := Lib.hid (HV.out.keep hb1)
  have hb1s : wc.heap.size ≤ w1.heap.size := hb1.size
  have Q := fun (nq : WB w1) => (⟨nq.1, hb1.trans (nq.2.mono hb1s)⟩ : WB wc)
  have r0 : ∀ nq : WB w1, nq.1.cell? ⟨g, 5, none⟩ = some (.slice (some ⟨bt, ot, none⟩) ts.length ct) := fun nq => qv ⟨nq.1, hb1.trans (nq.2.mono hb1s)⟩
  have r1 : ∀ nq : WB w1, nq.1.cell? ⟨g4, 4, none⟩ = some (.int .i64 (kt : Int)) := fun nq => q4 ⟨nq.1, hb1.trans (nq.2.mono hb1s)⟩
  have r2 : ∀ nq : WB w1, nq.1.cell? ⟨bt, ot + kt * 2, none⟩ = some (.int .i64 q0') := fun nq => k5 ⟨nq.1, hb1.trans (nq.2.mono hb1s)⟩
  have r3 : ∀ nq : WB w1, nq.1.cell? ⟨bt, ot + kt * 2 + 1, none⟩ = some (.slice ad dn cd) := fun nq => k6 ⟨nq.1, hb1.trans (nq.2.mono hb1s)⟩
  have HN1 := Lib.hid (HN.out.keep hb1)
  clear qv q4 k5 k6 hb1 hb1s Q HV HN
  repeat' (go_not_at_region 3; first | go_values | go_skip | go_guarded | go_step | go_upon)
  refine wp_region_anyC (by kernel_rfl) w1 ?_
  refine tkC 0 rfl ?_
  refine tkC 1 rfl ?_
  refine tkC 2 rfl ?_
  refine tkC 3 rfl ?_
  refine tkC 4 rfl ?_
  refine tkC 5 rfl ?_
  refine tkC 6 rfl ?_
  refine tkC 7 rfl ?_
  refine tkC 8 rfl ?_
  refine genCk (fun W => Below w1.heap.size w1 W) (Below.refl _ _).drew ?_
  intro w2 hb2
  clear r0 r1 r2 r3
  refine wpAnyC_ready (CW.of (hb2)) (rs := [9]) (by kernel_rfl) (by simp) ?_
  refine (AllReadyC.cons rfl (fun K hK => ?_) AllReadyC.nil)
  go_simp
  refine hK _ _ ?_
  clear hK K
  have hb3 : Below w1.heap.size w1 (w2.alloc (.cells #[.int .i64 0, .slice none 0 0] 74)) := hb2.alloc hb2.size _
  refine wpAnyC_ready (CW.of (hb3)) (rs := [10]) (by kernel_rfl) (by simp) ?_
  refine (AllReadyC.cons rfl (fun K hK => ?_) AllReadyC.nil)
  go_simp
  refine hK _ _ ?_
  clear hK K
  refine genCk (fun W => TBox W w2.heap.size q0' (.slice ad dn cd) ∧ Below w1.heap.size w1 W) ⟨TBox.new w2 q0' _, hb2.alloc hb2.size _⟩ ?_
  generalize w2.heap.size = tb
  clear hb3 hb2
  rintro w3 ⟨hT, hb3⟩
  refine wpAnyC_done (by kernel_rfl) (CW.of (hb3)) (by go_simp <;> with_reducible rfl) ?_
  have HV3 := Lib.hid (HV1.out.keep hb3)
  have HN3 := Lib.hid (HN1.out.keep hb3)
  have HT := Lib.hid hT
  have c0 := hT.two.1
  clear hT hb3 HV1 HN1
  by_cases hq : q0' < 1
  · have HB2 : Hid (R = false) := Lib.hid (by rw [HB.out, decide_eq_false (by omega)]; rfl)
    repeat' (first | go_values | go_skip | go_guarded | go_step | go_upon)
    go_ret2
    exact ⟨0, by rw [HB2.out]; rfl, fun h => by rw [HB2.out] at h; simp at h, HV3.out⟩
  have hq1 : 1 ≤ q0' := by omega
  have s1 : ∀ nq : WB w3, nq.1.cell? ⟨g4, 1, none⟩ = some (.int .i64 (i1 : Int)) := fun nq => by rw [← He1.out]; exact (HN3.out.keep nq.2).cell 1 (by decide)
  have s2 : ∀ nq : WB w3, nq.1.cell? ⟨g4, 2, none⟩ = some (.int .i64 (i2 : Int)) := fun nq => by rw [← He2.out]; exact (HN3.out.keep nq.2).cell 2 (by decide)
  have s3 : ∀ nq : WB w3, nq.1.cell? ⟨g, 10 + i1, none⟩ = some (.int .i64 ra) := fun nq => by rw [hra]; exact (HV3.out.1.box.keep nq.2).reg hi1
  have s4 : ∀ nq : WB w3, nq.1.cell? ⟨g, 10 + i2, none⟩ = some (.int .i64 rb) := fun nq => by rw [hrb]; exact (HV3.out.1.box.keep nq.2).reg hi2
  have hi1' : (i1 : Int) < 8 := by omega
  have hi2' : (i2 : Int) < 8 := by omega
  clear hra hrb
  repeat' (go_not_at_region 6; first | go_values | go_skip | go_guarded | go_step | go_upon)
  refine wp_region_anyC (by kernel_rfl) w3 ?_
  refine tkC 0 rfl ?_
  refine tkC 1 rfl ?_
  refine tkC 2 rfl ?_
  refine tkC 3 rfl ?_
  refine tkC 4 rfl ?_
  refine tkC 5 rfl ?_
  refine tkC 6 rfl ?_
  refine tkC 7 rfl ?_
  refine tkC 8 rfl ?_
  refine tkC 9 rfl ?_
  refine tkC 10 rfl ?_
  refine tkC 11 rfl ?_
  refine tkC 12 rfl ?_
  refine tkC 13 rfl ?_
  refine tkC 14 rfl ?_
  refine tkC 15 rfl ?_
  refine genCk (fun W => Below w3.heap.size w3 W) (Below.refl _ _).drew ?_
  intro w4 hb4
  refine wpAnyC_done (by kernel_rfl) (CW.of (hb4)) (by go_simp <;> with_reducible rfl) ?_
  have HV4 := Lib.hid (HV3.out.keep hb4)
  have HT4 := Lib.hid (HT.out.keep hb4)
  clear s1 s2 s3 s4 hb4 HV3 HT c0 HN3
  have c0 := HT4.out.two.1
  have c1 := HT4.out.two.2
  obtain ⟨D, hD⟩ : ∃ D, D = (dn : Int) / q0' := ⟨_, rfl⟩
  have hdn0 : (0 : Int) ≤ dn := by omega
  have htdv : (dn : Int).tdiv q0' = D := by rw [hD]; exact Int.tdiv_eq_ediv_of_nonneg hdn0
  have hD0 : 0 ≤ D := by rw [hD]; exact Int.ediv_nonneg hdn0 (by omega)
  have hD1 : D ≤ dn := by rw [hD]; exact Int.ediv_le_self _ hdn0
  have hqz : (q0' == 0) = false := beq_false_of_ne (by omega)
  have hdmI : (dn : Int) ≤ 9223372036854775807 := by omega
  have Hmul : Hid (∀ a b : Int, 0 ≤ a → a < D → 0 ≤ b → b < q0' → 0 ≤ a * q0' ∧ a * q0' + b < dn) := Lib.hid fun a b ha0 ha hb0 hb => by
    have h1 : 0 ≤ a * q0' := Int.mul_nonneg ha0 (by omega)
    have h2 : (a + 1) * q0' ≤ D * q0' := Int.mul_le_mul_of_nonneg_right (by omega) (by omega)
    have h3 : D * q0' ≤ dn := by rw [hD]; exact Int.ediv_mul_le _ (by omega)
    rw [Int.add_mul, Int.one_mul] at h2
    omega
  rw [← hD, decide_eq_true hq1, Bool.true_and] at HB
  clear hD hdm
  by_cases g1 : ra < 0
  · have HB2 : Hid (R = false) := Lib.hid (by rw [HB.out, decide_eq_false (by omega)]; rfl)
    repeat' (first | go_values | go_skip | go_guarded | go_step | go_upon)
    go_ret2
    exact ⟨0, by rw [HB2.out]; rfl, fun h => by rw [HB2.out] at h; simp at h, HV4.out⟩
  by_cases g2 : D ≤ ra
  · have HB2 : Hid (R = false) := Lib.hid (by rw [HB.out, decide_eq_false (by omega)]; rfl)
    repeat' (first | go_values | go_skip | go_guarded | go_step | go_upon)
    go_ret2
    exact ⟨0, by rw [HB2.out]; rfl, fun h => by rw [HB2.out] at h; simp at h, HV4.out⟩
  by_cases g3 : rb < 0
  · have HB2 : Hid (R = false) := Lib.hid (by rw [HB.out, decide_eq_false (p := 0 ≤ rb ∧ rb < q0') (by omega), Bool.and_false])
    repeat' (first | go_values | go_skip | go_guarded | go_step | go_upon)
    go_ret2
    exact ⟨0, by rw [HB2.out]; rfl, fun h => by rw [HB2.out] at h; simp at h, HV4.out⟩
  by_cases g4' : q0' ≤ rb
  · have HB2 : Hid (R = false) := Lib.hid (by rw [HB.out, decide_eq_false (p := 0 ≤ rb ∧ rb < q0') (by omega), Bool.and_false])
    repeat' (first | go_values | go_skip | go_guarded | go_step | go_upon)
    go_ret2
    exact ⟨0, by rw [HB2.out]; rfl, fun h => by rw [HB2.out] at h; simp at h, HV4.out⟩
  have HB2 : Hid (R = true) := Lib.hid (by rw [HB.out, decide_eq_true (by omega), decide_eq_true (by omega)]; rfl)
  obtain ⟨m1, m2⟩ := Hmul.out ra rb (by omega) (by omega) (by omega) (by omega)
  have p1 : 0 ≤ ra := by omega
  have p2 : ra < D := by omega
  have p3 : 0 ≤ rb := by omega
  have p4 : rb < q0' := by omega
  obtain ⟨M, hM⟩ : ∃ M, M = ra * q0' := ⟨_, rfl⟩
  have hM' : ra * q0' = M := hM.symm
  rw [hM'] at m1 m2
  clear g1 g2 g3 g4' hM HB
  repeat' (first | go_values | go_skip | go_guarded | go_step | go_upon)
  go_ret2
  exact ⟨M + rb, by rw [HB2.out]; rfl, fun _ => ⟨(M + rb).toNat, by omega, by omega⟩, HV4.out⟩
end Go.Proofs.Ytkpdcejnanhgoaa
/- Rows of numbers of the machine's own: an append tells where the row lies; what stands behind it. Conditions: sizes. -/
namespace Go.Proofs.Ytkpdcejnanhgoaa
open Go.RowKit
def kC (k : IntKind) (x : Int) : List Value := [.int k x]
theorem kC_flat (k : IntKind) : ∀ l : List Int, l.flatMap (kC k) = l.map (Value.int k)
  | [] => rfl
  | x :: l => by rw [List.flatMap_cons, kC_flat k l]; rfl
theorem own_kR {B : Nat} {e : TypeId} {k : IntKind} {w : World} {v : Value} {l : List Int} (h : OwnI B e k w v l) : OwnR (kC k) 1 B e w v l := by
  unfold OwnR; rw [kC_flat]; exact h
theorem own_Rk {B : Nat} {e : TypeId} {k : IntKind} {w : World} {v : Value} {l : List Int} (h : OwnR (kC k) 1 B e w v l) : OwnI B e k w v l := by
  unfold OwnR at h; rw [kC_flat] at h; exact h
/-- where a row lies behind an append -/
def WhereD (w : World) (v v' : Value) : Prop := v'.ownBlock = v.ownBlock ∨ ∃ g, v'.ownBlock = some g ∧ w.heap.size ≤ g
theorem app_intD {k : IntKind} {B : Nat} {e : TypeId} {P : Program} {w : World} {v : Value} {l0 l1 : List Int} {o : Oper} {a : Act} {K : Act → World → Prop} {Q : Exit → Act → World → Prop} {t : TypeId} {z : Value} (bytes : Nat)
    (h1 : P.underlying t = some (.slice e)) (h2 : (P.info? e).map (fun i => (i.zero, i.size, i.bytes)) = some (some z, 1, bytes)) (hzs : z.cells.size = 1)
    (s x' : Operand) (hop : o.op = Op.call { callee := Callee.builtin Builtin.append, args := #[s, x'], argTypes := #[t, t] }) (hs : a.eval s = v) (hx : RowOf (kC k) 1 w (a.eval x') l1)
    (hown : OwnI B e k w v l0) (hB : B ≤ w.heap.size) (hbig : (l0.length + l1.length) * bytes ≤ 140737488355328) (h63 : l0.length + l1.length ≤ maxLen)
    (hK : ∀ v' w', OwnI B e k w' v' (l0 ++ l1) → w.grownBy w' v.ownBlock → WhereD w v v' → K (a.put o.dst v') w') : o.wp P a w K Q := by
  obtain ⟨i, hi, hz0, hz1, hz2⟩ := info_parts h2
  have hf : ∀ y, (kC k y).length = 1 := fun _ => rfl
  have hfl := flatMap_lenA hf l1
  obtain ⟨ad, cap, hxe, _, _, _, hc⟩ := hx
  have hlen : (Builtin.lenOf (a.eval x')).run P w = .ok l1.length w := by rw [hxe]; exact lenOf_slice
  have hfc : ∀ q : Nat, (Builtin.firstCells 1 l1.length (a.eval x')).run P (w.drewN q) = .ok (l1.flatMap (kC k)).toArray (w.drewN q) := fun q => by
    rw [hxe]
    rcases hc with h0 | ⟨b, off, rfl, _, hc⟩
    · have : l1 = [] := List.eq_nil_of_length_eq_zero h0
      subst this
      cases ad with
      | none => exact firstCells_none q
      | some ad => exact firstCells_at (news := []) (by simp) (fun j u hj => by simp at hj) q
    · refine firstCells_at hfl (fun j u hj => ?_) q
      have hj' : j < (l1.flatMap (kC k)).length := (List.getElem?_eq_some_iff.1 hj).1
      rw [Addr.add_lit, hc j (by omega)]; exact hj
  have h1c : ∀ u ∈ l1.flatMap (kC k), u.oneCell' = true := fun u hu => by
    obtain ⟨y, hm, hy⟩ := List.mem_flatMap.1 hu
    simp [kC] at hy; subst hy; rfl
  obtain ⟨v', w', hrun, r1, r2, r3⟩ := run_append_D (P := P) w B t t o.type e i z 1 bytes h1 (.inl h1) hi hz0 hz1 hz2 hzs v l0.length (l0.flatMap (kC k)) (by rw [kC_flat]; exact hown) (a.eval x') l1.length (l1.flatMap (kC k)) hlen hfc hfl h1c hbig h63 hB
  unfold Oper.wp
  simp [execOp, hop, resolve, invoke, builtin, hs, hrun, Result.andThen]
  refine hK _ _ (own_Rk ?_) r2 r3
  unfold OwnR
  rw [List.length_append, List.flatMap_append]; exact r1
theorem app_strD {B : Nat} {e : TypeId} {P : Program} {w : World} {v : Value} {l0 : List Int} {x : List UInt8} {o : Oper} {a : Act} {K : Act → World → Prop} {Q : Exit → Act → World → Prop} {t u : TypeId}
    (h1 : P.underlying t = some (.slice e)) (hu : P.underlying u = some .string) (h2 : (P.info? e).map (fun i => (i.zero, i.size, i.bytes)) = some (some (.int .u8 0), 1, 1))
    (s x' : Operand) (hop : o.op = Op.call { callee := Callee.builtin Builtin.append, args := #[s, x'], argTypes := #[t, u] }) (hs : a.eval s = v) (hx : a.eval x' = .string ⟨x.toArray⟩)
    (hown : OwnI B e .u8 w v l0) (hB : B ≤ w.heap.size) (hbig : l0.length + x.length ≤ 140737488355328)
    (hK : ∀ v' w', OwnI B e .u8 w' v' (l0 ++ x.map fun b => (b.toNat : Int)) → w.grownBy w' v.ownBlock → WhereD w v v' → K (a.put o.dst v') w') : o.wp P a w K Q := by
  obtain ⟨i, hi, hz0, hz1, hz2⟩ := info_parts h2
  have hsz : (⟨x.toArray⟩ : ByteArray).size = x.length := by simp [ByteArray.size]
  have hcs : Lib.strCells ⟨x.toArray⟩ = (x.map fun b => (b.toNat : Int)).map (Value.int .u8) := by simp [Lib.strCells]
  obtain ⟨v', w', hrun, r1, r2, r3⟩ := run_append_D (P := P) w B t u o.type e i (.int .u8 0) 1 1 h1 (.inr hu) hi hz0 hz1 hz2 rfl v l0.length (l0.map (Value.int .u8)) hown (a.eval x') (⟨x.toArray⟩ : ByteArray).size (Lib.strCells ⟨x.toArray⟩)
    (by rw [hx]; exact lenOf_str) (fun q => by rw [hx]; exact firstCells_str q) (by rw [Lib.strCells_length]; simp) (Lib.strCells_oneCell _) (by rw [hsz]; omega) (by rw [hsz]; unfold maxLen; omega) hB
  unfold Oper.wp
  simp [execOp, hop, resolve, invoke, builtin, hs, hrun, Result.andThen]
  refine hK _ _ ?_ r2 r3
  rw [hcs, hsz] at r1
  exact OwnI.of_c r1 (by simp)
section
variable {w0 w w' : World} {g : Nat} {p : Prg} {v : PV} {s : RS} {src put sg tl : List Int}
theorem VM.ne_g (h : VM w0 g p v s src put sg tl w) {e : TypeId} {k : IntKind} {x : Value} {l : List Int} (ho : OwnI w0.heap.size e k w x l) (hne : e ≠ 92) : x.ownBlock ≠ some g := fun e' => by
  obtain ⟨cs, fz, hc⟩ := own_typedV ho e'
  exact ty_ne h.box hc (Ne.symm hne) rfl
theorem own_grownT {B : Nat} {e e' : TypeId} {k k' : IntKind} {x y : Value} {l l' : List Int} (ho : OwnI B e k w x l) (hy : OwnI B e' k' w y l') (hg : w.grownBy w' y.ownBlock) (hne : e ≠ e') : OwnI B e k w' x l :=
  OwnC.block ho fun q hq => hg.block q (OwnC.lt ho q hq).2 fun e1 => by
    obtain ⟨cs, fz, hc⟩ := own_typedV ho hq
    obtain ⟨cs', fz', hc'⟩ := own_typedV hy e1.symm
    rw [hc] at hc'; simp at hc'; exact hne hc'.2.1
theorem own_grownB {B : Nat} {e : TypeId} {k : IntKind} {x y : Value} {l : List Int} (ho : OwnI B e k w x l) (hg : w.grownBy w' y.ownBlock) (hne : ∀ q, y.ownBlock = some q → x.ownBlock ≠ some q) : OwnI B e k w' x l :=
  OwnC.block ho fun q hq => hg.block q (OwnC.lt ho q hq).2 fun e1 => hne q e1.symm hq
theorem where_ne {B : Nat} {e : TypeId} {k : IntKind} {x y y' : Value} {l : List Int} (ho : OwnI B e k w x l) (hw : WhereD w y y') (hne : ∀ q, y.ownBlock = some q → x.ownBlock ≠ some q) : ∀ q, y'.ownBlock = some q → x.ownBlock ≠ some q := fun q hq e1 => by
  rcases hw with hw | ⟨g', hw, hs⟩
  · exact hne q (by rw [← hw]; exact hq) e1
  · rw [hw] at hq; injection hq with hq
    have := (OwnC.lt ho q e1).2
    omega
/-- bytes more in put -/
theorem VM.putG (h : VM w0 g p v s src put sg tl w) {v' : Value} {put' : List Int} (ho : OwnI w0.heap.size 5 .u8 w' v' put') (hg : w.grownBy w' s.vp.ownBlock) (hw : WhereD w s.vp v') :
    RnAt w' g p v s ∧ VM w0 g p v { s with vp := v' } src put' sg tl (w'.setCell ⟨g, 22, none⟩ v') := by
  have hB : Below w0.heap.size w0 w' := h.bel.grown hg h.bel.size fun q hq => h.oput.below hq
  have hbx : RnAt w' g p v s := grown_obj hg h.box (h.ne_g h.oput (by decide))
  have F : ∀ {e : TypeId} {kd : IntKind} {x : Value} {l : List Int}, e ≠ 92 → OwnI w0.heap.size e kd w' x l → OwnI w0.heap.size e kd (w'.setCell ⟨g, 22, none⟩ v') x l := fun {e kd x l} hne ho =>
    OwnC.block ho fun q hq => Below.heap_setCell _ _ _ _ (by
      obtain ⟨cs, fz, hc⟩ := own_typedV ho hq
      exact (ty_ne hbx hc (Ne.symm hne)))
  exact ⟨hbx, hB.setCell h.gb _, h.prg, hbx.set22 v', h.gb, F (by decide) (own_grownB h.osrc hg h.nsp), F (by decide) ho, F (by decide) (own_grownT h.osg h.oput hg (by decide)), F (by decide) (own_grownT h.otl h.oput hg (by decide)), where_ne h.osrc hw h.nsp, h.ngl⟩
/-- a sign more -/
theorem VM.signG (h : VM w0 g p v s src put sg tl w) {v' : Value} {sg' : List Int} (ho : OwnI w0.heap.size 3 .i64 w' v' sg') (hg : w.grownBy w' s.vg.ownBlock) (hw : WhereD w s.vg v') :
    RnAt w' g p v s ∧ VM w0 g p v { s with vg := v' } src put sg' tl (w'.setCell ⟨g, 23, none⟩ v') := by
  have hB : Below w0.heap.size w0 w' := h.bel.grown hg h.bel.size fun q hq => h.osg.below hq
  have hbx : RnAt w' g p v s := grown_obj hg h.box (h.ne_g h.osg (by decide))
  have F : ∀ {e : TypeId} {kd : IntKind} {x : Value} {l : List Int}, e ≠ 92 → OwnI w0.heap.size e kd w' x l → OwnI w0.heap.size e kd (w'.setCell ⟨g, 23, none⟩ v') x l := fun {e kd x l} hne ho =>
    OwnC.block ho fun q hq => Below.heap_setCell _ _ _ _ (by
      obtain ⟨cs, fz, hc⟩ := own_typedV ho hq
      exact (ty_ne hbx hc (Ne.symm hne)))
  have hn : ∀ q, s.vg.ownBlock = some q → s.vl.ownBlock ≠ some q := fun q h1 h2 => h.ngl q h2 h1
  have hn' := where_ne h.otl hw hn
  exact ⟨hbx, hB.setCell h.gb _, h.prg, hbx.set23 v', h.gb, F (by decide) (own_grownT h.osrc h.osg hg (by decide)), F (by decide) (own_grownT h.oput h.osg hg (by decide)), F (by decide) ho, F (by decide) (own_grownB h.otl hg hn), h.nsp, fun q h1 h2 => hn' q h2 h1⟩
/-- ids more -/
theorem VM.tellG (h : VM w0 g p v s src put sg tl w) {v' : Value} {tl' : List Int} (ho : OwnI w0.heap.size 3 .i64 w' v' tl') (hg : w.grownBy w' s.vl.ownBlock) (hw : WhereD w s.vl v') :
    RnAt w' g p v s ∧ VM w0 g p v { s with vl := v' } src put sg tl' (w'.setCell ⟨g, 24, none⟩ v') := by
  have hB : Below w0.heap.size w0 w' := h.bel.grown hg h.bel.size fun q hq => h.otl.below hq
  have hbx : RnAt w' g p v s := grown_obj hg h.box (h.ne_g h.otl (by decide))
  have F : ∀ {e : TypeId} {kd : IntKind} {x : Value} {l : List Int}, e ≠ 92 → OwnI w0.heap.size e kd w' x l → OwnI w0.heap.size e kd (w'.setCell ⟨g, 24, none⟩ v') x l := fun {e kd x l} hne ho =>
    OwnC.block ho fun q hq => Below.heap_setCell _ _ _ _ (by
      obtain ⟨cs, fz, hc⟩ := own_typedV ho hq
      exact (ty_ne hbx hc (Ne.symm hne)))
  exact ⟨hbx, hB.setCell h.gb _, h.prg, hbx.set24 v', h.gb, F (by decide) (own_grownT h.osrc h.otl hg (by decide)), F (by decide) (own_grownT h.oput h.otl hg (by decide)), F (by decide) (own_grownB h.osg hg h.ngl), F (by decide) ho, h.nsp, where_ne h.osg hw h.ngl⟩
/-- the signs are gone -/
theorem VM.noSigns (h : VM w0 g p v s src put sg tl w) : VM w0 g p v { s with vg := .slice none 0 0 } src put [] tl (w.setCell ⟨g, 23, none⟩ (.slice none 0 0)) := by
  have F : ∀ {e : TypeId} {kd : IntKind} {x : Value} {l : List Int}, e ≠ 92 → OwnI w0.heap.size e kd w x l → OwnI w0.heap.size e kd (w.setCell ⟨g, 23, none⟩ (.slice none 0 0)) x l := fun {e kd x l} hne ho =>
    OwnC.block ho fun q hq => Below.heap_setCell _ _ _ _ (by
      obtain ⟨cs, fz, hc⟩ := own_typedV ho hq
      exact (ty_ne h.box hc (Ne.symm hne)))
  exact ⟨h.bel.setCell h.gb _, h.prg, h.box.set23 _, h.gb, F (by decide) h.osrc, F (by decide) h.oput, OwnI.nil _ _ _ _, F (by decide) h.otl, h.nsp, fun q _ h2 => by simp [Value.ownBlock] at h2⟩
end
end Go.Proofs.Ytkpdcejnanhgoaa
/- Walks: what is paid is done (vm.run.do): the instructions that end, load, move, jump. Conditions: the machine lies in memory. -/
namespace Go.Proofs.Ytkpdcejnanhgoaa
open Go.RowKit
/-- what doing an instruction comes to -/
def DoPost (w0 : World) (g : Nat) (p : Prg) (v : PV) (s : RS) (src put sg tl : List Int) (x : Nat → Int) (e : Ending) (w' : World) : Prop :=
  ∃ (en : Int) (c : Bool), e = .returned (.tuple #[.int .i64 en, .bool c]) ∧
    ((c = true ∧ VM w0 g p v s src put sg tl w' ∧ ((x 0 = 1 ∧ en = 0) ∨ (x 0 = 16 ∧ (en = 3 ∧ (¬ ∀ u ∈ p.hash.vals, ((u % 4294967296 : Nat) : Int) < sgnI p.signs) ∨ en = 1)))) ∨
      (c = false ∧ ∃ s' src' put' sg' tl', VM w0 g p v s' src' put' sg' tl' w' ∧ VI p s' src' put' sg' tl' ∧ s'.used = s.used ∧ s'.fuel = s.fuel ∧ s'.room = s.room ∧ nxtR p x s.rg s'.rg (s.pl - 1) s'.pl))
theorem VI.reg {p : Prg} {s : RS} {src put sg tl : List Int} (h : VI p s src put sg tl) (k : Nat) {u : Int} (hu : I64 u) : VI p { s with rg := updN s.rg k u } src put sg tl :=
  ⟨h.bsrc, h.bput, h.lsrc, h.lput, h.lsg, h.bsg, h.ltl, h.room, h.fuel, h.here, h.mark, fun j hj => by
    show I64 (updN s.rg k u j)
    by_cases e : j = k
    · subst e; rw [updN_same]; exact hu
    · rw [updN_ne _ _ e]; exact h.regs j hj⟩
theorem VI.plc {p : Prg} {s : RS} {src put sg tl : List Int} (h : VI p s src put sg tl) (u : Int) : VI p { s with pl := u } src put sg tl :=
  ⟨h.bsrc, h.bput, h.lsrc, h.lput, h.lsg, h.bsg, h.ltl, h.room, h.fuel, h.here, h.mark, h.regs⟩
theorem nxt_on {p : Prg} {x rg : Nat → Int} {i : Int} (h : x 0 = 9 ∨ x 0 = 10 ∨ x 0 = 12 ∨ x 0 = 13 ∨ x 0 = 14 ∨ x 0 = 15 ∨ x 0 = 16 ∨ x 0 = 17) : nxtR p x rg rg (i - 1) i := by
  unfold nxtR
  rw [if_neg (by omega), if_neg (by omega), if_neg (by omega), if_neg (by omega), if_neg (by omega), if_neg (by omega), if_neg (by omega), if_neg (by omega)]
  exact ⟨rfl, by omega⟩
section
variable {w0 w : World} {g : Nat} {p : Prg} {v : PV} {s : RS} {src put sg tl : List Int}
set_option maxRecDepth 100000 in
set_option maxHeartbeats 4000000 in
theorem do_1 (x : Nat → Int) (cell : Int) (text : ByteArray) (h : VM w0 g p v s src put sg tl w) (hi : VI p s src put sg tl) (hx : x 0 = 1) : Calls Try.prog 52 #[.pointer (some ⟨g, 0, none⟩), vI x, .int .i64 cell, .string text] w (DoPost w0 g p v s src put sg tl x) := by
  obtain ⟨wa, hwa⟩ : ∃ y, y = w.alloc (.cells (ic x) 85) := ⟨_, rfl⟩
  obtain ⟨g5, hg5⟩ : ∃ b, b = w.heap.size := ⟨_, rfl⟩
  obtain ⟨ka, hka, hand⟩ : ∃ k : Nat, k < 8 ∧ bits .and .i64 (x 1) 7 = (k : Int) := ⟨(x 1 % 8).toNat, by omega, by rw [i64_and7]; omega⟩
  have hkx : 0 ≤ x 1 → x 1 < 8 → (x 1).toNat = ka := fun a b => by rw [i64_and7] at hand; omega
  have Hkx := Lib.hid hkx
  have hkaI : (ka : Int) < 8 := by omega
  have HVa : Hid (VM w0 g p v s src put sg tl wa) := Lib.hid (by rw [hwa]; exact h.keep ((Below.refl _ _).alloc (Nat.le_refl _) _))
  have HNa : Hid (InsAt wa g5 x) := Lib.hid (by rw [hwa, hg5]; exact InsAt.new w x)
  have q1 : ∀ nq : WB wa, nq.1.cell? ⟨g5, 1, none⟩ = some (.int .i64 (x 1)) := fun nq => (HNa.out.keep nq.2).cell 1 (by decide)
  have HI := Lib.hid hi
  have Hx0 := Lib.hid hx
  clear h hi hkx hx
  go_enter Try.func52, Try.ntmps52
  repeat' (go_not_at_region 1; first | go_values | go_skip | go_guarded | go_step | go_upon)
  rw [← hwa, ← hg5]
  clear hwa hg5
  refine wp_region_anyC (by kernel_rfl) wa ?_
  refine tkC 0 rfl ?_
  refine tkC 1 rfl ?_
  refine tkC 2 rfl ?_
  refine tkC 3 rfl ?_
  refine tkC 4 rfl ?_
  refine tkC 5 rfl ?_
  refine tkC 6 rfl ?_
  refine tkC 7 rfl ?_
  refine genCk (fun W => Below wa.heap.size wa W) (Below.refl _ _).drew ?_
  intro w1 hb1
  refine wpAnyC_done (by kernel_rfl) (CW.of (hb1)) (by go_simp <;> with_reducible rfl) ?_
  have HV := Lib.hid (HVa.out.keep hb1)
  have HN := Lib.hid (HNa.out.keep hb1)
  clear q1 hb1 HVa HNa hand
  have c0 := HN.out.cell 0 (by decide)
  rw [Hx0.out] at c0
  repeat' (first | go_values | go_skip | go_guarded | go_step | go_upon)
  go_ret2
  exact ⟨0, true, rfl, .inl ⟨rfl, HV.out, .inl ⟨Hx0.out, rfl⟩⟩⟩
set_option maxRecDepth 100000 in
set_option maxHeartbeats 4000000 in
theorem do_2 (x : Nat → Int) (cell : Int) (text : ByteArray) (h : VM w0 g p v s src put sg tl w) (hi : VI p s src put sg tl) (hx : x 0 = 2) (h1 : 0 ≤ x 1 ∧ x 1 < 8) (h64 : I64 (x 2)) : Calls Try.prog 52 #[.pointer (some ⟨g, 0, none⟩), vI x, .int .i64 cell, .string text] w (DoPost w0 g p v s src put sg tl x) := by
  obtain ⟨wa, hwa⟩ : ∃ y, y = w.alloc (.cells (ic x) 85) := ⟨_, rfl⟩
  obtain ⟨g5, hg5⟩ : ∃ b, b = w.heap.size := ⟨_, rfl⟩
  obtain ⟨ka, hka, hand⟩ : ∃ k : Nat, k < 8 ∧ bits .and .i64 (x 1) 7 = (k : Int) := ⟨(x 1 % 8).toNat, by omega, by rw [i64_and7]; omega⟩
  have hkx : 0 ≤ x 1 → x 1 < 8 → (x 1).toNat = ka := fun a b => by rw [i64_and7] at hand; omega
  have Hkx := Lib.hid hkx
  have hkaI : (ka : Int) < 8 := by omega
  have HVa : Hid (VM w0 g p v s src put sg tl wa) := Lib.hid (by rw [hwa]; exact h.keep ((Below.refl _ _).alloc (Nat.le_refl _) _))
  have HNa : Hid (InsAt wa g5 x) := Lib.hid (by rw [hwa, hg5]; exact InsAt.new w x)
  have q1 : ∀ nq : WB wa, nq.1.cell? ⟨g5, 1, none⟩ = some (.int .i64 (x 1)) := fun nq => (HNa.out.keep nq.2).cell 1 (by decide)
  have HI := Lib.hid hi
  have Hx0 := Lib.hid hx
  clear h hi hkx hx
  go_enter Try.func52, Try.ntmps52
  repeat' (go_not_at_region 1; first | go_values | go_skip | go_guarded | go_step | go_upon)
  rw [← hwa, ← hg5]
  clear hwa hg5
  refine wp_region_anyC (by kernel_rfl) wa ?_
  refine tkC 0 rfl ?_
  refine tkC 1 rfl ?_
  refine tkC 2 rfl ?_
  refine tkC 3 rfl ?_
  refine tkC 4 rfl ?_
  refine tkC 5 rfl ?_
  refine tkC 6 rfl ?_
  refine tkC 7 rfl ?_
  refine genCk (fun W => Below wa.heap.size wa W) (Below.refl _ _).drew ?_
  intro w1 hb1
  refine wpAnyC_done (by kernel_rfl) (CW.of (hb1)) (by go_simp <;> with_reducible rfl) ?_
  have HV := Lib.hid (HVa.out.keep hb1)
  have HN := Lib.hid (HNa.out.keep hb1)
  clear q1 hb1 HVa HNa hand
  have c0 := HN.out.cell 0 (by decide)
  rw [Hx0.out] at c0
  have c2 := HN.out.cell 2 (by decide)
  have o := HV.out.box.reg hka
  have f := HV.out.box.free (10 + ka)
  repeat' (first | go_values | go_skip | go_guarded | go_step | go_upon)
  go_ret2
  refine ⟨0, false, rfl, .inr ⟨rfl, _, src, put, sg, tl, HV.out.set (HV.out.box.setReg hka (x 2)) rfl rfl rfl rfl, HI.out.reg _ h64, rfl, rfl, rfl, ?_⟩⟩
  unfold nxtR
  rw [if_pos Hx0.out, Hkx.out h1.1 h1.2]
  exact ⟨rfl, by dsimp only; omega⟩
set_option maxRecDepth 100000 in
set_option maxHeartbeats 4000000 in
theorem do_3 (x : Nat → Int) (cell : Int) (text : ByteArray) (h : VM w0 g p v s src put sg tl w) (hi : VI p s src put sg tl) (hx : x 0 = 3) (h1 : 0 ≤ x 1 ∧ x 1 < 8) (h2 : 0 ≤ x 2 ∧ x 2 < 8) : Calls Try.prog 52 #[.pointer (some ⟨g, 0, none⟩), vI x, .int .i64 cell, .string text] w (DoPost w0 g p v s src put sg tl x) := by
  obtain ⟨i2, e2⟩ : ∃ k : Nat, x 2 = (k : Int) := ⟨(x 2).toNat, by omega⟩
  have hi2 : i2 < 8 := by omega
  have hi2I : (i2 : Int) < 8 := by omega
  have He2 := Lib.hid e2
  clear e2
  obtain ⟨wa, hwa⟩ : ∃ y, y = w.alloc (.cells (ic x) 85) := ⟨_, rfl⟩
  obtain ⟨g5, hg5⟩ : ∃ b, b = w.heap.size := ⟨_, rfl⟩
  obtain ⟨ka, hka, hand⟩ : ∃ k : Nat, k < 8 ∧ bits .and .i64 (x 1) 7 = (k : Int) := ⟨(x 1 % 8).toNat, by omega, by rw [i64_and7]; omega⟩
  have hkx : 0 ≤ x 1 → x 1 < 8 → (x 1).toNat = ka := fun a b => by rw [i64_and7] at hand; omega
  have Hkx := Lib.hid hkx
  have hkaI : (ka : Int) < 8 := by omega
  have HVa : Hid (VM w0 g p v s src put sg tl wa) := Lib.hid (by rw [hwa]; exact h.keep ((Below.refl _ _).alloc (Nat.le_refl _) _))
  have HNa : Hid (InsAt wa g5 x) := Lib.hid (by rw [hwa, hg5]; exact InsAt.new w x)
  have q1 : ∀ nq : WB wa, nq.1.cell? ⟨g5, 1, none⟩ = some (.int .i64 (x 1)) := fun nq => (HNa.out.keep nq.2).cell 1 (by decide)
  have HI := Lib.hid hi
  have Hx0 := Lib.hid hx
  clear h hi hkx hx
  go_enter Try.func52, Try.ntmps52
  repeat' (go_not_at_region 1; first | go_values | go_skip | go_guarded | go_step | go_upon)
  rw [← hwa, ← hg5]
  clear hwa hg5
  refine wp_region_anyC (by kernel_rfl) wa ?_
  refine tkC 0 rfl ?_
  refine tkC 1 rfl ?_
  refine tkC 2 rfl ?_
  refine tkC 3 rfl ?_
  refine tkC 4 rfl ?_
  refine tkC 5 rfl ?_
  refine tkC 6 rfl ?_
  refine tkC 7 rfl ?_
  refine genCk (fun W => Below wa.heap.size wa W) (Below.refl _ _).drew ?_
  intro w1 hb1
  refine wpAnyC_done (by kernel_rfl) (CW.of (hb1)) (by go_simp <;> with_reducible rfl) ?_
  have HV := Lib.hid (HVa.out.keep hb1)
  have HN := Lib.hid (HNa.out.keep hb1)
  clear q1 hb1 HVa HNa hand
  have c0 := HN.out.cell 0 (by decide)
  rw [Hx0.out] at c0
  obtain ⟨C, hC⟩ : ∃ C : World → Prop, C = Below w1.heap.size w1 := ⟨_, rfl⟩
  have Hmk : Hid (∀ W, Below w1.heap.size w1 W → C W) := Lib.hid fun W h => by rw [hC]; exact h
  have hC' : ∀ W, C W → Below w1.heap.size w1 W := fun W h => by rw [hC] at h; exact h
  have q2 : ∀ nq : GW C, nq.1.cell? ⟨g5, 2, none⟩ = some (.int .i64 (i2 : Int)) := fun nq => by rw [← He2.out]; exact (HN.out.keep (hC' _ nq.2)).cell 2 (by decide)
  have q3 : ∀ nq : GW C, nq.1.cell? ⟨g, 10 + i2, none⟩ = some (.int .i64 (s.rg i2)) := fun nq => (HV.out.box.keep (hC' _ nq.2)).reg hi2
  clear hC hC'
  repeat' (go_not_at_region 8; first | go_values | go_skip | go_guarded | go_step | go_upon)
  refine wp_region_anyU (by kernel_rfl) C 9 ?_
  refine tkU 0 rfl ?_
  refine tkU 1 rfl ?_
  refine tkU 2 rfl ?_
  refine tkU 3 rfl ?_
  refine tkU 4 rfl ?_
  refine tkU 5 rfl ?_
  refine tkU 6 rfl ?_
  refine tkU 7 rfl ?_
  refine tkU 8 rfl ?_
  clear q2 q3
  refine genUv (fun W => Below w1.heap.size w1 W) ((Below.refl _ _).drew) ?_
  intro W0 hb0
  have HV0 := Lib.hid (HV.out.keep hb0)
  have o := HV0.out.box.reg hka
  have f := HV0.out.box.free (10 + ka)
  refine wpAnyU_ready (CG.of (Hmk.out _ hb0)) (rs := [9]) (by kernel_rfl) (by simp) ?_
  refine (AllReadyU.cons rfl (fun K hK => ?_) AllReadyU.nil)
  go_simp
  refine hK _ _ ?_
  clear hK K
  refine genUv (fun W => VM w0 g p v { s with rg := updN s.rg ka (s.rg i2) } src put sg tl W) (HV0.out.set (HV0.out.box.setReg hka (s.rg i2)) rfl rfl rfl rfl) ?_
  clear o f HV0 hb0 HV HN c0
  intro W1 hv1
  have HV := Lib.hid hv1
  clear hv1
  refine wpAnyU_done (by kernel_rfl) (by kernel_rfl) (by go_simp <;> with_reducible rfl) ?_
  repeat' (first | go_values | go_skip | go_guarded | go_step | go_upon)
  go_ret2
  refine ⟨0, false, rfl, .inr ⟨rfl, _, src, put, sg, tl, HV.out, HI.out.reg _ (HI.out.regs _ hi2), rfl, rfl, rfl, ?_⟩⟩
  unfold nxtR
  rw [if_neg (by have := Hx0.out; omega), if_pos Hx0.out, Hkx.out h1.1 h1.2, He2.out]
  exact ⟨rfl, by dsimp only; omega⟩
set_option maxRecDepth 100000 in
set_option maxHeartbeats 4000000 in
theorem do_4 (x : Nat → Int) (cell : Int) (text : ByteArray) (h : VM w0 g p v s src put sg tl w) (hi : VI p s src put sg tl) (hx : x 0 = 4) : Calls Try.prog 52 #[.pointer (some ⟨g, 0, none⟩), vI x, .int .i64 cell, .string text] w (DoPost w0 g p v s src put sg tl x) := by
  obtain ⟨wa, hwa⟩ : ∃ y, y = w.alloc (.cells (ic x) 85) := ⟨_, rfl⟩
  obtain ⟨g5, hg5⟩ : ∃ b, b = w.heap.size := ⟨_, rfl⟩
  obtain ⟨ka, hka, hand⟩ : ∃ k : Nat, k < 8 ∧ bits .and .i64 (x 1) 7 = (k : Int) := ⟨(x 1 % 8).toNat, by omega, by rw [i64_and7]; omega⟩
  have hkx : 0 ≤ x 1 → x 1 < 8 → (x 1).toNat = ka := fun a b => by rw [i64_and7] at hand; omega
  have Hkx := Lib.hid hkx
  have hkaI : (ka : Int) < 8 := by omega
  have HVa : Hid (VM w0 g p v s src put sg tl wa) := Lib.hid (by rw [hwa]; exact h.keep ((Below.refl _ _).alloc (Nat.le_refl _) _))
  have HNa : Hid (InsAt wa g5 x) := Lib.hid (by rw [hwa, hg5]; exact InsAt.new w x)
  have q1 : ∀ nq : WB wa, nq.1.cell? ⟨g5, 1, none⟩ = some (.int .i64 (x 1)) := fun nq => (HNa.out.keep nq.2).cell 1 (by decide)
  have HI := Lib.hid hi
  have Hx0 := Lib.hid hx
  clear h hi hkx hx
  go_enter Try.func52, Try.ntmps52
  repeat' (go_not_at_region 1; first | go_values | go_skip | go_guarded | go_step | go_upon)
  rw [← hwa, ← hg5]
  clear hwa hg5
  refine wp_region_anyC (by kernel_rfl) wa ?_
  refine tkC 0 rfl ?_
  refine tkC 1 rfl ?_
  refine tkC 2 rfl ?_
  refine tkC 3 rfl ?_
  refine tkC 4 rfl ?_
  refine tkC 5 rfl ?_
  refine tkC 6 rfl ?_
  refine tkC 7 rfl ?_
  refine genCk (fun W => Below wa.heap.size wa W) (Below.refl _ _).drew ?_
  intro w1 hb1
  refine wpAnyC_done (by kernel_rfl) (CW.of (hb1)) (by go_simp <;> with_reducible rfl) ?_
  have HV := Lib.hid (HVa.out.keep hb1)
  have HN := Lib.hid (HNa.out.keep hb1)
  clear q1 hb1 HVa HNa hand
  have c0 := HN.out.cell 0 (by decide)
  rw [Hx0.out] at c0
  have c3 := HN.out.cell 3 (by decide)
  have o := HV.out.box.cell 25
  have f := HV.out.box.free 25
  repeat' (first | go_values | go_skip | go_guarded | go_step | go_upon)
  go_ret2
  refine ⟨0, false, rfl, .inr ⟨rfl, _, src, put, sg, tl, HV.out.set (HV.out.box.set25 (x 3)) rfl rfl rfl rfl, HI.out.plc _, rfl, rfl, rfl, ?_⟩⟩
  unfold nxtR
  rw [if_neg (by have := Hx0.out; omega), if_neg (by have := Hx0.out; omega), if_pos Hx0.out]
  exact ⟨rfl, rfl⟩
end
end Go.Proofs.Ytkpdcejnanhgoaa
/- Walks: what is paid is done (vm.run.do): bytes, signs and ids more. Conditions: the machine lies in memory. -/
namespace Go.Proofs.Ytkpdcejnanhgoaa
open Go.RowKit
theorem info_u8V : (Try.prog.info? 5).map (fun i => (i.zero, i.size, i.bytes)) = some (some (.int .u8 0), 1, 1) := by kernel_rfl
theorem row_newK (k : IntKind) (w : World) (x : Int) (e : TypeId) : RowOf (kC k) 1 (w.alloc (.cells #[.int k x] e)) (.slice (some ⟨w.heap.size, 0, none⟩) 1 1) [x] := by
  refine ⟨some ⟨w.heap.size, 0, none⟩, 1, rfl, Nat.le_refl _, by unfold maxLen; omega, by simp [kC], .inr ⟨w.heap.size, 0, rfl, by simp, fun i hi => ?_⟩⟩
  rw [Nat.zero_add, cell_of_row _ w.heap.size i _ _ (0, 0) (Go.heap_alloc_new w _)]
  simp [kC]
section
variable {w0 w : World} {g : Nat} {p : Prg} {v : PV} {s : RS} {src put sg tl : List Int}
set_option maxRecDepth 100000 in
set_option maxHeartbeats 4000000 in
theorem do_12 (x : Nat → Int) (cell : Int) (text : ByteArray) (h : VM w0 g p v s src put sg tl w) (hi : VI p s src put sg tl) (hx : x 0 = 12) (h1 : 0 ≤ x 1 ∧ x 1 < 8) (hb : 0 ≤ s.rg (x 1).toNat ∧ s.rg (x 1).toNat < 256) (hl : put.length < 262144) : Calls Try.prog 52 #[.pointer (some ⟨g, 0, none⟩), vI x, .int .i64 cell, .string text] w (DoPost w0 g p v s src put sg tl x) := by
  obtain ⟨wa, hwa⟩ : ∃ y, y = w.alloc (.cells (ic x) 85) := ⟨_, rfl⟩
  obtain ⟨g5, hg5⟩ : ∃ b, b = w.heap.size := ⟨_, rfl⟩
  obtain ⟨ka, hka, hand⟩ : ∃ k : Nat, k < 8 ∧ bits .and .i64 (x 1) 7 = (k : Int) := ⟨(x 1 % 8).toNat, by omega, by rw [i64_and7]; omega⟩
  have hkx : 0 ≤ x 1 → x 1 < 8 → (x 1).toNat = ka := fun a b => by rw [i64_and7] at hand; omega
  have Hkx := Lib.hid hkx
  have hkaI : (ka : Int) < 8 := by omega
  have HVa : Hid (VM w0 g p v s src put sg tl wa) := Lib.hid (by rw [hwa]; exact h.keep ((Below.refl _ _).alloc (Nat.le_refl _) _))
  have HNa : Hid (InsAt wa g5 x) := Lib.hid (by rw [hwa, hg5]; exact InsAt.new w x)
  have q1 : ∀ nq : WB wa, nq.1.cell? ⟨g5, 1, none⟩ = some (.int .i64 (x 1)) := fun nq => (HNa.out.keep nq.2).cell 1 (by decide)
  have HI := Lib.hid hi
  have Hx0 := Lib.hid hx
  clear h hi hkx hx
  go_enter Try.func52, Try.ntmps52
  repeat' (go_not_at_region 1; first | go_values | go_skip | go_guarded | go_step | go_upon)
  rw [← hwa, ← hg5]
  clear hwa hg5
  refine wp_region_anyC (by kernel_rfl) wa ?_
  refine tkC 0 rfl ?_
  refine tkC 1 rfl ?_
  refine tkC 2 rfl ?_
  refine tkC 3 rfl ?_
  refine tkC 4 rfl ?_
  refine tkC 5 rfl ?_
  refine tkC 6 rfl ?_
  refine tkC 7 rfl ?_
  refine genCk (fun W => Below wa.heap.size wa W) (Below.refl _ _).drew ?_
  intro w1 hb1
  refine wpAnyC_done (by kernel_rfl) (CW.of (hb1)) (by go_simp <;> with_reducible rfl) ?_
  have HV := Lib.hid (HVa.out.keep hb1)
  have HN := Lib.hid (HNa.out.keep hb1)
  clear q1 hb1 HVa HNa hand
  have c0 := HN.out.cell 0 (by decide)
  rw [Hx0.out] at c0
  obtain ⟨al, cl, hvl⟩ := HV.out.oput.form
  have Hvl := Lib.hid hvl
  obtain ⟨r, hr⟩ : ∃ r, r = s.rg ka := ⟨_, rfl⟩
  have Hr := Lib.hid hr
  obtain ⟨C, hC⟩ : ∃ C : World → Prop, C = fun W => RnAt W g p v s := ⟨_, rfl⟩
  have Hmk : Hid (∀ W, RnAt W g p v s → C W) := Lib.hid fun W h => by rw [hC]; exact h
  have hC' : ∀ W, C W → RnAt W g p v s := fun W h => by rw [hC] at h; exact h
  have q1 : ∀ nq : GW C, nq.1.cell? ⟨g, 22, none⟩ = some (.slice al put.length cl) := fun nq => by rw [← hvl]; exact (hC' _ nq.2).cell 22
  have q2 : ∀ nq : GW C, nq.1.cell? ⟨g, 10 + ka, none⟩ = some (.int .i64 r) := fun nq => by rw [hr]; exact (hC' _ nq.2).reg hka
  have hbr : 0 ≤ r ∧ r < 256 := by rw [hr, ← Hkx.out h1.1 h1.2]; exact hb
  have hwr : IntKind.u8.wrap r = r := IntWalk.u8_in r (by omega)
  have Hbr := Lib.hid hbr
  clear hb hbr
  clear hC hC' hvl hr
  repeat' (go_not_at_region 32; first | go_values | go_skip | go_guarded | go_step | go_upon)
  refine wp_region_anyU (by kernel_rfl) C 13 ?_
  refine tkU 0 rfl ?_
  refine tkU 1 rfl ?_
  refine tkU 2 rfl ?_
  refine tkU 3 rfl ?_
  refine tkU 4 rfl ?_
  refine tkU 5 rfl ?_
  refine tkU 6 rfl ?_
  refine tkU 7 rfl ?_
  refine tkU 8 rfl ?_
  clear q1 q2
  refine genUv (fun W => Below w1.heap.size w1 W) ((Below.refl _ _).drew) ?_
  intro W0 hb0
  have HV0 := Lib.hid (HV.out.keep hb0)
  clear hb0 HV HN c0
  refine wpAnyU_ready (CG.of (Hmk.out _ HV0.out.box)) (rs := [9]) (by kernel_rfl) (by simp) ?_
  refine (AllReadyU.cons rfl (fun K hK => ?_) AllReadyU.nil)
  go_simp
  refine hK _ _ ?_
  clear hK K
  have hab : Below W0.heap.size W0 (W0.alloc (.cells #[.int .u8 r] 5)) := (Below.refl _ _).alloc (Nat.le_refl _) _
  refine genUv (fun W => VM w0 g p v s src put sg tl W ∧ RowOf (kC .u8) 1 W (.slice (some ⟨W0.heap.size, 0, none⟩) 1 1) [r]) ⟨HV0.out.keep hab, row_newK .u8 W0 r _⟩ ?_
  clear hab HV0
  rintro W1 ⟨hv1, hrow⟩
  have HV1 := Lib.hid hv1
  clear hv1
  refine wpAnyU_ready (CG.of (Hmk.out _ HV1.out.box)) (rs := [10]) (by kernel_rfl) (by simp) ?_
  refine (AllReadyU.cons rfl (fun K hK => ?_) AllReadyU.nil)
  refine step_of rfl (app_intD (k := .u8) (B := w0.heap.size) (l0 := put) (l1 := [r]) 1 Try.underlying87 info_u8V rfl (.tmp 175) (.tmp 180) rfl rfl hrow (by rw [← Hvl.out]; exact HV1.out.oput) HV1.out.bel.size (by simp; omega) (by unfold maxLen; simp; omega) ?_)
  intro v' W2 ho hg hw
  refine hK _ _ ?_
  clear hK K
  obtain ⟨hbx, hvm⟩ := HV1.out.putG ho (by rw [Hvl.out]; exact hg) (by rw [Hvl.out]; exact hw)
  obtain ⟨a5, c5, hv5⟩ := ho.form
  generalize (put ++ [r]).length = n5 at hv5
  subst hv5
  have o := hbx.cell 22
  have f := hbx.free 22
  have HVM := Lib.hid hvm
  clear ho hg hw hvm HV1 hrow
  refine tkP 11 rfl ?_
  refine tkP 12 rfl ?_
  refine wpAnyU_ready (CG.of (Hmk.out _ hbx)) (rs := [13]) (by kernel_rfl) (by simp) ?_
  refine (AllReadyU.cons rfl (fun K hK => ?_) AllReadyU.nil)
  go_simp
  refine hK _ _ ?_
  clear hK K
  refine genUv (fun W => VM w0 g p v { s with vp := .slice a5 n5 c5 } src (put ++ [r]) sg tl W) HVM.out ?_
  clear o f hbx HVM Hmk
  intro W3 hv3
  have HV3 := Lib.hid hv3
  clear hv3
  refine wpAnyU_done (by kernel_rfl) (by kernel_rfl) (by go_simp <;> with_reducible rfl) ?_
  repeat' (first | go_values | go_skip | go_guarded | go_step | go_upon)
  go_ret2
  exact ⟨0, false, rfl, .inr ⟨rfl, _, src, put ++ [r], sg, tl, HV3.out, ⟨HI.out.bsrc, fun y hy => by
    rcases List.mem_append.1 hy with hy | hy
    · exact HI.out.bput y hy
    · have := Hbr.out; simp at hy; omega, HI.out.lsrc, by simp; omega, HI.out.lsg, HI.out.bsg, HI.out.ltl, HI.out.room, HI.out.fuel, HI.out.here, HI.out.mark, HI.out.regs⟩, rfl, rfl, rfl, nxt_on (.inr (.inr (.inl Hx0.out)))⟩⟩
set_option maxRecDepth 100000 in
set_option maxHeartbeats 4000000 in
theorem do_15 (x : Nat → Int) (cell : Int) (text : ByteArray) (h : VM w0 g p v s src put sg tl w) (hi : VI p s src put sg tl) (hx : x 0 = 15) (h1 : 0 ≤ x 1 ∧ x 1 < 8) (hb : 0 ≤ s.rg (x 1).toNat ∧ s.rg (x 1).toNat < min p.signs 65536) (hl : sg.length < 262144) : Calls Try.prog 52 #[.pointer (some ⟨g, 0, none⟩), vI x, .int .i64 cell, .string text] w (DoPost w0 g p v s src put sg tl x) := by
  obtain ⟨wa, hwa⟩ : ∃ y, y = w.alloc (.cells (ic x) 85) := ⟨_, rfl⟩
  obtain ⟨g5, hg5⟩ : ∃ b, b = w.heap.size := ⟨_, rfl⟩
  obtain ⟨ka, hka, hand⟩ : ∃ k : Nat, k < 8 ∧ bits .and .i64 (x 1) 7 = (k : Int) := ⟨(x 1 % 8).toNat, by omega, by rw [i64_and7]; omega⟩
  have hkx : 0 ≤ x 1 → x 1 < 8 → (x 1).toNat = ka := fun a b => by rw [i64_and7] at hand; omega
  have Hkx := Lib.hid hkx
  have hkaI : (ka : Int) < 8 := by omega
  have HVa : Hid (VM w0 g p v s src put sg tl wa) := Lib.hid (by rw [hwa]; exact h.keep ((Below.refl _ _).alloc (Nat.le_refl _) _))
  have HNa : Hid (InsAt wa g5 x) := Lib.hid (by rw [hwa, hg5]; exact InsAt.new w x)
  have q1 : ∀ nq : WB wa, nq.1.cell? ⟨g5, 1, none⟩ = some (.int .i64 (x 1)) := fun nq => (HNa.out.keep nq.2).cell 1 (by decide)
  have HI := Lib.hid hi
  have Hx0 := Lib.hid hx
  clear h hi hkx hx
  go_enter Try.func52, Try.ntmps52
  repeat' (go_not_at_region 1; first | go_values | go_skip | go_guarded | go_step | go_upon)
  rw [← hwa, ← hg5]
  clear hwa hg5
  refine wp_region_anyC (by kernel_rfl) wa ?_
  refine tkC 0 rfl ?_
  refine tkC 1 rfl ?_
  refine tkC 2 rfl ?_
  refine tkC 3 rfl ?_
  refine tkC 4 rfl ?_
  refine tkC 5 rfl ?_
  refine tkC 6 rfl ?_
  refine tkC 7 rfl ?_
  refine genCk (fun W => Below wa.heap.size wa W) (Below.refl _ _).drew ?_
  intro w1 hb1
  refine wpAnyC_done (by kernel_rfl) (CW.of (hb1)) (by go_simp <;> with_reducible rfl) ?_
  have HV := Lib.hid (HVa.out.keep hb1)
  have HN := Lib.hid (HNa.out.keep hb1)
  clear q1 hb1 HVa HNa hand
  have c0 := HN.out.cell 0 (by decide)
  rw [Hx0.out] at c0
  obtain ⟨al, cl, hvl⟩ := HV.out.osg.form
  have Hvl := Lib.hid hvl
  obtain ⟨r, hr⟩ : ∃ r, r = s.rg ka := ⟨_, rfl⟩
  have Hr := Lib.hid hr
  obtain ⟨C, hC⟩ : ∃ C : World → Prop, C = fun W => RnAt W g p v s := ⟨_, rfl⟩
  have Hmk : Hid (∀ W, RnAt W g p v s → C W) := Lib.hid fun W h => by rw [hC]; exact h
  have hC' : ∀ W, C W → RnAt W g p v s := fun W h => by rw [hC] at h; exact h
  have q1 : ∀ nq : GW C, nq.1.cell? ⟨g, 23, none⟩ = some (.slice al sg.length cl) := fun nq => by rw [← hvl]; exact (hC' _ nq.2).cell 23
  have q2 : ∀ nq : GW C, nq.1.cell? ⟨g, 10 + ka, none⟩ = some (.int .i64 r) := fun nq => by rw [hr]; exact (hC' _ nq.2).reg hka
  have hbr : 0 ≤ r ∧ r < min p.signs 65536 := by rw [hr, ← Hkx.out h1.1 h1.2]; exact hb
  have Hbr := Lib.hid hbr
  clear hb hbr
  clear hC hC' hvl hr
  repeat' (go_not_at_region 38; first | go_values | go_skip | go_guarded | go_step | go_upon)
  refine wp_region_anyU (by kernel_rfl) C 12 ?_
  refine tkU 0 rfl ?_
  refine tkU 1 rfl ?_
  refine tkU 2 rfl ?_
  refine tkU 3 rfl ?_
  refine tkU 4 rfl ?_
  refine tkU 5 rfl ?_
  refine tkU 6 rfl ?_
  refine tkU 7 rfl ?_
  clear q1 q2
  refine genUv (fun W => Below w1.heap.size w1 W) ((Below.refl _ _).drew) ?_
  intro W0 hb0
  have HV0 := Lib.hid (HV.out.keep hb0)
  clear hb0 HV HN c0
  refine wpAnyU_ready (CG.of (Hmk.out _ HV0.out.box)) (rs := [8]) (by kernel_rfl) (by simp) ?_
  refine (AllReadyU.cons rfl (fun K hK => ?_) AllReadyU.nil)
  go_simp
  refine hK _ _ ?_
  clear hK K
  have hab : Below W0.heap.size W0 (W0.alloc (.cells #[.int .i64 r] 3)) := (Below.refl _ _).alloc (Nat.le_refl _) _
  refine genUv (fun W => VM w0 g p v s src put sg tl W ∧ RowOf (kC .i64) 1 W (.slice (some ⟨W0.heap.size, 0, none⟩) 1 1) [r]) ⟨HV0.out.keep hab, row_newK .i64 W0 r _⟩ ?_
  clear hab HV0
  rintro W1 ⟨hv1, hrow⟩
  have HV1 := Lib.hid hv1
  clear hv1
  refine wpAnyU_ready (CG.of (Hmk.out _ HV1.out.box)) (rs := [9]) (by kernel_rfl) (by simp) ?_
  refine (AllReadyU.cons rfl (fun K hK => ?_) AllReadyU.nil)
  refine step_of rfl (app_intD (k := .i64) (B := w0.heap.size) (l0 := sg) (l1 := [r]) 8 Try.underlying32 info_int rfl (.tmp 220) (.tmp 224) rfl rfl hrow (by rw [← Hvl.out]; exact HV1.out.osg) HV1.out.bel.size (by simp; omega) (by unfold maxLen; simp; omega) ?_)
  intro v' W2 ho hg hw
  refine hK _ _ ?_
  clear hK K
  obtain ⟨hbx, hvm⟩ := HV1.out.signG ho (by rw [Hvl.out]; exact hg) (by rw [Hvl.out]; exact hw)
  obtain ⟨a5, c5, hv5⟩ := ho.form
  generalize (sg ++ [r]).length = n5 at hv5
  subst hv5
  have o := hbx.cell 23
  have f := hbx.free 23
  have HVM := Lib.hid hvm
  clear ho hg hw hvm HV1 hrow
  refine tkP 10 rfl ?_
  refine tkP 11 rfl ?_
  refine wpAnyU_ready (CG.of (Hmk.out _ hbx)) (rs := [12]) (by kernel_rfl) (by simp) ?_
  refine (AllReadyU.cons rfl (fun K hK => ?_) AllReadyU.nil)
  go_simp
  refine hK _ _ ?_
  clear hK K
  refine genUv (fun W => VM w0 g p v { s with vg := .slice a5 n5 c5 } src put (sg ++ [r]) tl W) HVM.out ?_
  clear o f hbx HVM Hmk
  intro W3 hv3
  have HV3 := Lib.hid hv3
  clear hv3
  refine wpAnyU_done (by kernel_rfl) (by kernel_rfl) (by go_simp <;> with_reducible rfl) ?_
  repeat' (first | go_values | go_skip | go_guarded | go_step | go_upon)
  go_ret2
  exact ⟨0, false, rfl, .inr ⟨rfl, _, src, put, sg ++ [r], tl, HV3.out, ⟨HI.out.bsrc, HI.out.bput, HI.out.lsrc, HI.out.lput, by simp; omega, fun y hy => by
    rcases List.mem_append.1 hy with hy | hy
    · exact HI.out.bsg y hy
    · have := Hbr.out; simp at hy; omega, HI.out.ltl, HI.out.room, HI.out.fuel, HI.out.here, HI.out.mark, HI.out.regs⟩, rfl, rfl, rfl, nxt_on (by right; right; right; right; right; left; exact Hx0.out)⟩⟩
set_option maxRecDepth 100000 in
set_option maxHeartbeats 4000000 in
theorem do_17 (x : Nat → Int) (cell : Int) (text : ByteArray) (h : VM w0 g p v s src put sg tl w) (hi : VI p s src put sg tl) (hx : x 0 = 17) (h1 : 0 ≤ x 1 ∧ x 1 < 8) (hl : (tl.length : Int) < s.room) : Calls Try.prog 52 #[.pointer (some ⟨g, 0, none⟩), vI x, .int .i64 cell, .string text] w (DoPost w0 g p v s src put sg tl x) := by
  obtain ⟨wa, hwa⟩ : ∃ y, y = w.alloc (.cells (ic x) 85) := ⟨_, rfl⟩
  obtain ⟨g5, hg5⟩ : ∃ b, b = w.heap.size := ⟨_, rfl⟩
  obtain ⟨ka, hka, hand⟩ : ∃ k : Nat, k < 8 ∧ bits .and .i64 (x 1) 7 = (k : Int) := ⟨(x 1 % 8).toNat, by omega, by rw [i64_and7]; omega⟩
  have hkx : 0 ≤ x 1 → x 1 < 8 → (x 1).toNat = ka := fun a b => by rw [i64_and7] at hand; omega
  have Hkx := Lib.hid hkx
  have hkaI : (ka : Int) < 8 := by omega
  have HVa : Hid (VM w0 g p v s src put sg tl wa) := Lib.hid (by rw [hwa]; exact h.keep ((Below.refl _ _).alloc (Nat.le_refl _) _))
  have HNa : Hid (InsAt wa g5 x) := Lib.hid (by rw [hwa, hg5]; exact InsAt.new w x)
  have q1 : ∀ nq : WB wa, nq.1.cell? ⟨g5, 1, none⟩ = some (.int .i64 (x 1)) := fun nq => (HNa.out.keep nq.2).cell 1 (by decide)
  have HI := Lib.hid hi
  have Hx0 := Lib.hid hx
  clear h hi hkx hx
  go_enter Try.func52, Try.ntmps52
  repeat' (go_not_at_region 1; first | go_values | go_skip | go_guarded | go_step | go_upon)
  rw [← hwa, ← hg5]
  clear hwa hg5
  refine wp_region_anyC (by kernel_rfl) wa ?_
  refine tkC 0 rfl ?_
  refine tkC 1 rfl ?_
  refine tkC 2 rfl ?_
  refine tkC 3 rfl ?_
  refine tkC 4 rfl ?_
  refine tkC 5 rfl ?_
  refine tkC 6 rfl ?_
  refine tkC 7 rfl ?_
  refine genCk (fun W => Below wa.heap.size wa W) (Below.refl _ _).drew ?_
  intro w1 hb1
  refine wpAnyC_done (by kernel_rfl) (CW.of (hb1)) (by go_simp <;> with_reducible rfl) ?_
  have HV := Lib.hid (HVa.out.keep hb1)
  have HN := Lib.hid (HNa.out.keep hb1)
  clear q1 hb1 HVa HNa hand
  have c0 := HN.out.cell 0 (by decide)
  rw [Hx0.out] at c0
  obtain ⟨al, cl, hvl⟩ := HV.out.otl.form
  have Hvl := Lib.hid hvl
  obtain ⟨r, hr⟩ : ∃ r, r = s.rg ka := ⟨_, rfl⟩
  have Hr := Lib.hid hr
  obtain ⟨C, hC⟩ : ∃ C : World → Prop, C = fun W => RnAt W g p v s := ⟨_, rfl⟩
  have Hmk : Hid (∀ W, RnAt W g p v s → C W) := Lib.hid fun W h => by rw [hC]; exact h
  have hC' : ∀ W, C W → RnAt W g p v s := fun W h => by rw [hC] at h; exact h
  have q1 : ∀ nq : GW C, nq.1.cell? ⟨g, 24, none⟩ = some (.slice al tl.length cl) := fun nq => by rw [← hvl]; exact (hC' _ nq.2).cell 24
  have q2 : ∀ nq : GW C, nq.1.cell? ⟨g, 10 + ka, none⟩ = some (.int .i64 r) := fun nq => by rw [hr]; exact (hC' _ nq.2).reg hka
  have hro := HI.out.room.2
  clear hC hC' hvl hr
  repeat' (go_not_at_region 40; first | go_values | go_skip | go_guarded | go_step | go_upon)
  refine wp_region_anyU (by kernel_rfl) C 12 ?_
  refine tkU 0 rfl ?_
  refine tkU 1 rfl ?_
  refine tkU 2 rfl ?_
  refine tkU 3 rfl ?_
  refine tkU 4 rfl ?_
  refine tkU 5 rfl ?_
  refine tkU 6 rfl ?_
  refine tkU 7 rfl ?_
  clear q1 q2
  refine genUv (fun W => Below w1.heap.size w1 W) ((Below.refl _ _).drew) ?_
  intro W0 hb0
  have HV0 := Lib.hid (HV.out.keep hb0)
  clear hb0 HV HN c0
  refine wpAnyU_ready (CG.of (Hmk.out _ HV0.out.box)) (rs := [8]) (by kernel_rfl) (by simp) ?_
  refine (AllReadyU.cons rfl (fun K hK => ?_) AllReadyU.nil)
  go_simp
  refine hK _ _ ?_
  clear hK K
  have hab : Below W0.heap.size W0 (W0.alloc (.cells #[.int .i64 r] 3)) := (Below.refl _ _).alloc (Nat.le_refl _) _
  refine genUv (fun W => VM w0 g p v s src put sg tl W ∧ RowOf (kC .i64) 1 W (.slice (some ⟨W0.heap.size, 0, none⟩) 1 1) [r]) ⟨HV0.out.keep hab, row_newK .i64 W0 r _⟩ ?_
  clear hab HV0
  rintro W1 ⟨hv1, hrow⟩
  have HV1 := Lib.hid hv1
  clear hv1
  refine wpAnyU_ready (CG.of (Hmk.out _ HV1.out.box)) (rs := [9]) (by kernel_rfl) (by simp) ?_
  refine (AllReadyU.cons rfl (fun K hK => ?_) AllReadyU.nil)
  refine step_of rfl (app_intD (k := .i64) (B := w0.heap.size) (l0 := tl) (l1 := [r]) 8 Try.underlying32 info_int rfl (.tmp 234) (.tmp 238) rfl rfl hrow (by rw [← Hvl.out]; exact HV1.out.otl) HV1.out.bel.size (by simp; omega) (by unfold maxLen; simp; omega) ?_)
  intro v' W2 ho hg hw
  refine hK _ _ ?_
  clear hK K
  obtain ⟨hbx, hvm⟩ := HV1.out.tellG ho (by rw [Hvl.out]; exact hg) (by rw [Hvl.out]; exact hw)
  obtain ⟨a5, c5, hv5⟩ := ho.form
  generalize (tl ++ [r]).length = n5 at hv5
  subst hv5
  have o := hbx.cell 24
  have f := hbx.free 24
  have HVM := Lib.hid hvm
  clear ho hg hw hvm HV1 hrow
  refine tkP 10 rfl ?_
  refine tkP 11 rfl ?_
  refine wpAnyU_ready (CG.of (Hmk.out _ hbx)) (rs := [12]) (by kernel_rfl) (by simp) ?_
  refine (AllReadyU.cons rfl (fun K hK => ?_) AllReadyU.nil)
  go_simp
  refine hK _ _ ?_
  clear hK K
  refine genUv (fun W => VM w0 g p v { s with vl := .slice a5 n5 c5 } src put sg (tl ++ [r]) W) HVM.out ?_
  clear o f hbx HVM Hmk
  intro W3 hv3
  have HV3 := Lib.hid hv3
  clear hv3
  refine wpAnyU_done (by kernel_rfl) (by kernel_rfl) (by go_simp <;> with_reducible rfl) ?_
  repeat' (first | go_values | go_skip | go_guarded | go_step | go_upon)
  go_ret2
  exact ⟨0, false, rfl, .inr ⟨rfl, _, src, put, sg, tl ++ [r], HV3.out, ⟨HI.out.bsrc, HI.out.bput, HI.out.lsrc, HI.out.lput, HI.out.lsg, HI.out.bsg, by simp; omega, HI.out.room, HI.out.fuel, HI.out.here, HI.out.mark, HI.out.regs⟩, rfl, rfl, rfl, nxt_on (by right; right; right; right; right; right; right; exact Hx0.out)⟩⟩
end
end Go.Proofs.Ytkpdcejnanhgoaa
