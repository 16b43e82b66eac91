/- Walk: whether a tree may be (regex.shaped). No conditions. -/
import Derived.Test.YtnbfifmnigeolaaDoorReEvery
namespace Go.Proofs.YtnbfifmnigeolaaDoor
open Go.RowKit Go.Lib
theorem enters_shaped1 : ∀ args w, (callFunc 34 args).run Tryd.prog w = .ok (.enter 34 args) w := enters_of Tryd.func34 (by kernel_rfl) rfl
theorem enters_shaped2 : ∀ args w, (callFunc 35 args).run Tryd.prog w = .ok (.enter 35 args) w := enters_of Tryd.func35 (by kernel_rfl) rfl
set_option maxRecDepth 100000 in
theorem shaped_same (r : RN) (g : Nat) (K : Int) (w : World) (hg : g < w.heap.size) (hc : w.cell? ⟨g, 0, none⟩ = some (.int .i64 K)) :
    Calls Tryd.prog 34 (#[reV r] ++ #[.pointer (some ⟨g, 0, none⟩)]) w fun e w' => e = .returned (.bool (r.k == K)) ∧ Below w.heap.size w w' := by
  have HB : Hid (Below w.heap.size w (w.alloc (.cells (reC r).toArray 28))) := Lib.hid (re_box w r)
  have hc1 : (w.alloc (.cells (reC r).toArray 28)).cell? ⟨g, 0, none⟩ = some (.int .i64 K) := by rw [HB.out.cell hg]; exact hc
  clear hc
  obtain ⟨b, hb⟩ : ∃ b, (r.k == K) = b := ⟨_, rfl⟩
  rw [hb]
  simp only [reV, reC] at hc1 HB ⊢
  show Calls Tryd.prog 34 #[_, _] w _
  go_enter Tryd.func34, Tryd.ntmps34
  repeat' (first | go_values | go_skip | go_guarded | go_step | go_upon)
  go_ret
  exact ⟨rfl, HB.out⟩
set_option maxRecDepth 100000 in
theorem shaped_not {h : Nat} (IH : ∀ (r : RN) (t : Re) (w : World), ReAt w h r t → Calls Tryd.prog 20 #[reV r] w fun e w' => e = .returned (.bool (shp h t)) ∧ Below w.heap.size w w') (r : RN) (t : Re) (w : World) (hr : ReAt w h r t) :
    Calls Tryd.prog 35 (#[reV r] ++ #[]) w fun e w' => e = .returned (.bool (!shp h t)) ∧ Below w.heap.size w w' := by
  have HB : Hid (Below w.heap.size w (w.alloc (.cells (reC r).toArray 28))) := Lib.hid (re_box w r)
  have hcall := IH r t _ (hr.keep HB.out)
  clear IH hr
  obtain ⟨x, hx⟩ : ∃ x, shp h t = x := ⟨_, rfl⟩
  rw [hx] at hcall ⊢
  clear hx
  simp only [reV, reC] at hcall HB ⊢
  show Calls Tryd.prog 35 #[_] w _
  go_enter Tryd.func35, Tryd.ntmps35
  repeat' (first | go_values | go_skip | go_guarded | go_step | go_upon)
  refine Calls.mono (hcall) ?_
  rintro _ w1 ⟨rfl, hb1⟩
  dsimp only
  clear hcall
  repeat' (first | go_values | go_skip | go_guarded | go_step | go_upon)
  go_ret
  exact ⟨rfl, HB.out.trans (hb1.mono HB.out.size)⟩
/-- the kids asked, each: none that may not be? -/
def KidsSay (w : World) (v : Value) (bA : Bool) : Prop := ∀ W, Below w.heap.size w W → Calls Tryd.prog 31 #[v, .func (.func 35) #[] #[]] W fun e w' => e = .returned (.bool bA) ∧ Below W.heap.size W w'
section
variable {w : World} {a : Option Addr} {n cap : Nat} {bA B : Bool}
set_option maxRecDepth 100000 in
set_option maxHeartbeats 4000000 in
theorem shaped_1 (s : Nat × Nat × Nat × Nat) (mn mx : Int) (hK : KidsSay w (.slice a n cap) bA) (hB : Hid (B = true ↔ (mn = 0 ∧ mx = 0 ∧ (n : Int) = 0) ∧ bA = false)) :
    Calls Tryd.prog 20 #[reV ⟨1, s, mn, mx, .slice a n cap⟩] w fun e w' => e = .returned (.bool B) ∧ Below w.heap.size w w' := by
  have HK := Lib.hid hK
  clear hK
  simp only [reV, reC]
  rcases Nat.eq_zero_or_pos n with rfl | hn
  · simp only [Int.natCast_zero, and_true] at hB
    go_enter Tryd.func20, Tryd.ntmps20
    repeat' (first | go_values | go_skip | go_guarded | go_step | go_upon)
    all_goals first
      | (go_ret
         refine ⟨ret_bool ?_ hB.out, (Below.refl _ _).alloc (Nat.le_refl _) _⟩
         simp only [Bool.false_eq_true, false_iff]
         omega)
      | (refine Calls.mono (HK.out _ ((Below.refl _ _).alloc (Nat.le_refl _) _)) ?_
         rintro _ w1 ⟨rfl, hb1⟩
         dsimp only
         (repeat' (first | go_values | go_skip | go_guarded | go_step | go_upon))
         go_ret
         refine ⟨ret_bool ?_ hB.out, ((Below.refl _ _).alloc (Nat.le_refl _) _).trans (hb1.mono (by simp))⟩
         cases bA <;> simp [-Int.natCast_eq_zero] <;> omega)
  · have hn0 : ((n : Int) == 0) = false := beq_false_of_ne (by omega)
    clear HK
    go_enter Tryd.func20, Tryd.ntmps20
    repeat' (first | go_values | go_skip | go_guarded | go_step | go_upon)
    all_goals
      go_ret
      refine ⟨ret_bool ?_ hB.out, (Below.refl _ _).alloc (Nat.le_refl _) _⟩
      simp only [Bool.false_eq_true, false_iff]
      omega
set_option maxRecDepth 100000 in
set_option maxHeartbeats 4000000 in
theorem shaped_0 (k : Int) (hk : k ≠ 1 ∧ k ≠ 2 ∧ k ≠ 3 ∧ k ≠ 4) (s : Nat × Nat × Nat × Nat) (mn mx : Int) (v : Value) (w : World) :
    Calls Tryd.prog 20 #[reV ⟨k, s, mn, mx, v⟩] w fun e w' => e = .returned (.bool false) ∧ Below w.heap.size w w' := by
  obtain ⟨h1, h2, h3, h4⟩ := hk
  have e1 : (k == 1) = false := beq_false_of_ne h1
  have e2 : (k == 2) = false := beq_false_of_ne h2
  have e3 : (k == 3) = false := beq_false_of_ne h3
  have e4 : (k == 4) = false := beq_false_of_ne h4
  simp only [reV, reC]
  go_enter Tryd.func20, Tryd.ntmps20
  repeat' (first | go_values | go_skip | go_guarded | go_step | go_upon)
  go_ret
  exact ⟨rfl, (Below.refl _ _).alloc (Nat.le_refl _) _⟩
set_option maxRecDepth 100000 in
set_option maxHeartbeats 4000000 in
theorem shaped_bad (K : Int) (hK : K = 2 ∨ K = 3) (s0 s1 s2 s3 n : Nat) (mn mx : Int) (a : Option Addr) (cap : Nat) (w : World) (hl : n ≤ 9223372036854775807)
    (hF : ¬ (((s0 : Int) == 0 && ((s1 : Int) == 0 && ((s2 : Int) == 0 && (s3 : Int) == 0))) = true ∧ mn = 0 ∧ mx = 0 ∧ (2 ≤ (n : Int) ∨ (K = 2 ∧ (n : Int) = 0)))) :
    Calls Tryd.prog 20 #[reV ⟨K, (s0, s1, s2, s3), mn, mx, .slice a n cap⟩] w fun e w' => e = .returned (.bool false) ∧ Below w.heap.size w w' := by
  obtain ⟨bS, hS⟩ : ∃ b, ((s0 : Int) == 0 && ((s1 : Int) == 0 && ((s2 : Int) == 0 && (s3 : Int) == 0))) = b := ⟨_, rfl⟩
  rw [hS] at hF
  simp only [reV, reC]
  rcases hK with rfl | rfl
  all_goals
    cases bS with
    | false =>
      clear hF
      go_enter Tryd.func20, Tryd.ntmps20
      repeat' (first | go_values | go_skip | go_guarded | go_step | go_upon)
      all_goals
        go_ret
        exact ⟨rfl, (Below.refl _ _).alloc (Nat.le_refl _) _⟩
    | true =>
      simp only [true_and] at hF
      go_enter Tryd.func20, Tryd.ntmps20
      repeat' (first | go_values | go_skip | go_guarded | go_step | go_upon)
      all_goals
        go_ret
        exact ⟨rfl, (Below.refl _ _).alloc (Nat.le_refl _) _⟩
set_option maxRecDepth 100000 in
set_option maxHeartbeats 4000000 in
theorem shaped_ok2 (s0 s1 s2 s3 : Nat) (hn : 2 ≤ n) (hl : n ≤ 9223372036854775807) (hS : ((s0 : Int) == 0 && ((s1 : Int) == 0 && ((s2 : Int) == 0 && (s3 : Int) == 0))) = true) (bK : Bool) (hK : KidsSay w (.slice a n cap) bA)
    (hsame : Calls Tryd.prog 31 #[.slice a n cap, .func (.func 34) #[] #[.pointer (some ⟨w.heap.size, 0, none⟩)]] (w.alloc (.cells (reC ⟨2, (s0, s1, s2, s3), 0, 0, .slice a n cap⟩).toArray 28)) fun e w' => e = .returned (.bool bK) ∧ Below (w.alloc (.cells (reC ⟨2, (s0, s1, s2, s3), 0, 0, .slice a n cap⟩).toArray 28)).heap.size (w.alloc (.cells (reC ⟨2, (s0, s1, s2, s3), 0, 0, .slice a n cap⟩).toArray 28)) w') :
    Calls Tryd.prog 20 #[reV ⟨2, (s0, s1, s2, s3), 0, 0, .slice a n cap⟩] w fun e w' => e = .returned (.bool (!bK && !bA)) ∧ Below w.heap.size w w' := by
  have HK := Lib.hid hK
  clear hK
  have HB := Lib.hid (re_box w ⟨2, (s0, s1, s2, s3), 0, 0, .slice a n cap⟩)
  simp only [reV, reC] at hsame HB ⊢
  go_enter Tryd.func20, Tryd.ntmps20
  repeat' (first | go_values | go_skip | go_guarded | go_step | go_upon)
  refine Calls.mono (hsame) ?_
  rintro _ w0 ⟨rfl, hb0⟩
  dsimp only
  have H0 := Lib.hid (HB.out.trans (hb0.mono HB.out.size))
  have hx7 : w0.cell? ⟨w.heap.size, 7, none⟩ = some (.slice a n cap) := by
    rw [hb0.cell (show w.heap.size < _ by simp), cell_of_row _ _ _ _ _ _ (Go.heap_alloc_new _ _)]; rfl
  have HK0 := Lib.hid (HK.out w0 H0.out)
  clear hb0 HB hsame HK
  cases bK with
  | true =>
    repeat' (first | go_values | go_skip | go_guarded | go_step | go_upon)
    go_ret
    exact ⟨rfl, H0.out⟩
  | false =>
    repeat' (first | go_values | go_skip | go_guarded | go_step | go_upon)
    refine Calls.mono HK0.out ?_
    rintro _ w1 ⟨rfl, hb1⟩
    dsimp only
    repeat' (first | go_values | go_skip | go_guarded | go_step | go_upon)
    go_ret
    exact ⟨by cases bA <;> rfl, H0.out.trans (hb1.mono H0.out.size)⟩
set_option maxRecDepth 100000 in
set_option maxHeartbeats 4000000 in
theorem shaped_ok3 (s0 s1 s2 s3 : Nat) (hn : 2 ≤ n) (hl : n ≤ 9223372036854775807) (hS : ((s0 : Int) == 0 && ((s1 : Int) == 0 && ((s2 : Int) == 0 && (s3 : Int) == 0))) = true) (bK : Bool) (hK : KidsSay w (.slice a n cap) bA)
    (hsame : Calls Tryd.prog 31 #[.slice a n cap, .func (.func 34) #[] #[.pointer (some ⟨w.heap.size, 0, none⟩)]] (w.alloc (.cells (reC ⟨3, (s0, s1, s2, s3), 0, 0, .slice a n cap⟩).toArray 28)) fun e w' => e = .returned (.bool bK) ∧ Below (w.alloc (.cells (reC ⟨3, (s0, s1, s2, s3), 0, 0, .slice a n cap⟩).toArray 28)).heap.size (w.alloc (.cells (reC ⟨3, (s0, s1, s2, s3), 0, 0, .slice a n cap⟩).toArray 28)) w') :
    Calls Tryd.prog 20 #[reV ⟨3, (s0, s1, s2, s3), 0, 0, .slice a n cap⟩] w fun e w' => e = .returned (.bool (!bK && !bA)) ∧ Below w.heap.size w w' := by
  have HK := Lib.hid hK
  clear hK
  have HB := Lib.hid (re_box w ⟨3, (s0, s1, s2, s3), 0, 0, .slice a n cap⟩)
  simp only [reV, reC] at hsame HB ⊢
  go_enter Tryd.func20, Tryd.ntmps20
  repeat' (first | go_values | go_skip | go_guarded | go_step | go_upon)
  refine Calls.mono (hsame) ?_
  rintro _ w0 ⟨rfl, hb0⟩
  dsimp only
  have H0 := Lib.hid (HB.out.trans (hb0.mono HB.out.size))
  have hx7 : w0.cell? ⟨w.heap.size, 7, none⟩ = some (.slice a n cap) := by
    rw [hb0.cell (show w.heap.size < _ by simp), cell_of_row _ _ _ _ _ _ (Go.heap_alloc_new _ _)]; rfl
  have HK0 := Lib.hid (HK.out w0 H0.out)
  clear hb0 HB hsame HK
  cases bK with
  | true =>
    repeat' (first | go_values | go_skip | go_guarded | go_step | go_upon)
    go_ret
    exact ⟨rfl, H0.out⟩
  | false =>
    repeat' (first | go_values | go_skip | go_guarded | go_step | go_upon)
    refine Calls.mono HK0.out ?_
    rintro _ w1 ⟨rfl, hb1⟩
    dsimp only
    repeat' (first | go_values | go_skip | go_guarded | go_step | go_upon)
    go_ret
    exact ⟨by cases bA <;> rfl, H0.out.trans (hb1.mono H0.out.size)⟩
set_option maxRecDepth 100000 in
set_option maxHeartbeats 4000000 in
theorem shaped_empty (s0 s1 s2 s3 : Nat) (hS : ((s0 : Int) == 0 && ((s1 : Int) == 0 && ((s2 : Int) == 0 && (s3 : Int) == 0))) = true) (bK : Bool) (hK : KidsSay w (.slice a 0 cap) bA)
    (hsame : Calls Tryd.prog 31 #[.slice a 0 cap, .func (.func 34) #[] #[.pointer (some ⟨w.heap.size, 0, none⟩)]] (w.alloc (.cells (reC ⟨2, (s0, s1, s2, s3), 0, 0, .slice a 0 cap⟩).toArray 28)) fun e w' => e = .returned (.bool bK) ∧ Below (w.alloc (.cells (reC ⟨2, (s0, s1, s2, s3), 0, 0, .slice a 0 cap⟩).toArray 28)).heap.size (w.alloc (.cells (reC ⟨2, (s0, s1, s2, s3), 0, 0, .slice a 0 cap⟩).toArray 28)) w') :
    Calls Tryd.prog 20 #[reV ⟨2, (s0, s1, s2, s3), 0, 0, .slice a 0 cap⟩] w fun e w' => e = .returned (.bool (!bK && !bA)) ∧ Below w.heap.size w w' := by
  have HK := Lib.hid hK
  clear hK
  have HB := Lib.hid (re_box w ⟨2, (s0, s1, s2, s3), 0, 0, .slice a 0 cap⟩)
  simp only [reV, reC] at hsame HB ⊢
  go_enter Tryd.func20, Tryd.ntmps20
  repeat' (first | go_values | go_skip | go_guarded | go_step | go_upon)
  refine Calls.mono (hsame) ?_
  rintro _ w0 ⟨rfl, hb0⟩
  dsimp only
  have H0 := Lib.hid (HB.out.trans (hb0.mono HB.out.size))
  have hx7 : w0.cell? ⟨w.heap.size, 7, none⟩ = some (.slice a 0 cap) := by
    rw [hb0.cell (show w.heap.size < _ by simp), cell_of_row _ _ _ _ _ _ (Go.heap_alloc_new _ _)]; rfl
  have HK0 := Lib.hid (HK.out w0 H0.out)
  clear hb0 HB hsame HK
  cases bK with
  | true =>
    repeat' (first | go_values | go_skip | go_guarded | go_step | go_upon)
    go_ret
    exact ⟨rfl, H0.out⟩
  | false =>
    repeat' (first | go_values | go_skip | go_guarded | go_step | go_upon)
    refine Calls.mono HK0.out ?_
    rintro _ w1 ⟨rfl, hb1⟩
    dsimp only
    repeat' (first | go_values | go_skip | go_guarded | go_step | go_upon)
    go_ret
    exact ⟨by cases bA <;> rfl, H0.out.trans (hb1.mono H0.out.size)⟩
end
end Go.Proofs.YtnbfifmnigeolaaDoor
