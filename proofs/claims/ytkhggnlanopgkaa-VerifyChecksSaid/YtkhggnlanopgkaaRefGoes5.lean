/- Walk: what follows of a test for a number, by the reference. Conditions: the ranges lie in memory. -/
import Derived.Test.YtkhggnlanopgkaaRefGoes6
namespace Go.Proofs.Ytkhggnlanopgkaa
open Go.RowKit
/-- with one range more -/
structure G5 (w0 : World) (p : Prg) (v : PV) (x : Nat → Int) (A N : Int × Int) (w : World) : Prop where
  gq : GQ w0 p v x A w
  b : SpAt w (w0.heap.size + 1 + 1 + 1 + 1 + 1) N
theorem G5.start {w0 w : World} {p : Prg} {v : PV} {x : Nat → Int} {A : Int × Int} (h : GQ w0 p v x A w) (hs : w.heap.size = w0.heap.size + 1 + 1 + 1 + 1 + 1) (N : Int × Int) :
    G5 w0 p v x A N (w.alloc (.cells #[.int .i64 N.1, .int .i64 N.2] 97)) := by
  have h1 := SpAt.new w N
  rw [hs] at h1
  exact ⟨h.step ((Below.refl _ _).alloc (Nat.le_refl _) _), h1⟩
set_option maxRecDepth 100000 in
set_option maxHeartbeats 4000000 in
theorem ref_goes5 (p : Prg) (v : PV) (a b c d : Int) (vr : Value) (r : Rg) (w : World) (hr : RowOf spC 2 w vr r) (hr8 : r.length = 8) (ha : 0 ≤ a ∧ a ≤ 7) (hb0 : 0 ≤ b) (hb1 : b ≤ 1073741824) (A : Int × Int) (hA : A = rget r a.toNat) :
    Calls Try.prog 40 #[pgV p v, .agg #[.int .i64 5, .int .i64 a, .int .i64 b, .int .i64 c, .int .i64 d], vr] w fun e w' => e = .returned (.tuple #[.bool (decide ((sameB A b).1 ≤ (sameB A b).2)), spV (sameB A b), .bool (decide (A.1 ≤ b) && decide (b ≤ A.2)), spV (b, b)]) ∧ Below w.heap.size w w' := by
  obtain ⟨ar, cr, rfl, hcr, hmr, hcell⟩ := hr.open spC_len
  rw [hr8] at hcr hcell ⊢
  rcases hcell with h0 | ⟨br, or', rfl, hbr, hcell⟩
  · omega
  obtain ⟨ka, hka⟩ : ∃ k : Nat, a = (k : Int) := ⟨a.toNat, by omega⟩
  subst hka
  have hka8 : ka < 8 := by omega
  rw [Int.toNat_natCast] at hA
  obtain ⟨ea0, ea1⟩ := sp_cells hcell ka (by omega)
  rw [← hA] at ea0 ea1
  clear hcell hr hr8 ha hA
  obtain ⟨A1, A2⟩ := A
  dsimp only at ea0 ea1 ⊢
  have hb4 : Below w.heap.size w ((((w.alloc (.cells (pgC p v) 30)).alloc (.cells #[.int .i64 5, .int .i64 (ka : Int), .int .i64 b, .int .i64 c, .int .i64 d] 39)).alloc (.cells #[.int .i64 0, .int .i64 0] 97)).alloc (.cells #[.int .i64 0, .int .i64 0] 97)) := ((((Below.refl _ _).alloc (Nat.le_refl _) _).alloc (by simp) _).alloc (by simp; omega) _).alloc (by simp; omega) _
  have f0 := ea0
  have f1 := ea1
  rw [← hb4.cell (show br < w.heap.size from hbr)] at f0 f1
  have HG0 := Lib.hid (G5.start (GQ.start w p v (mk5 5 (ka : Int) b c d) (A1, A2)) (size_start w p v (mk5 5 (ka : Int) b c d) (A1, A2)))
  clear hb4
  have hlo : (A1 < b ∧ (A1 == b) = false) ∨ ((A1 == b) = true ∧ A1 = b) ∨ (b < A1 ∧ (A1 == b) = false) := by
    rcases Int.lt_trichotomy A1 b with h | h | h
    · exact .inl ⟨h, beq_false_of_ne (by omega)⟩
    · exact .inr (.inl ⟨by rw [beq_iff_eq]; exact h, h⟩)
    · exact .inr (.inr ⟨h, beq_false_of_ne (by omega)⟩)
  have hhi : ((A2 == b) = true ∧ A2 = b) ∨ ((A2 == b) = false ∧ A2 ≠ b) := by
    by_cases h : A2 = b
    · exact .inl ⟨by rw [beq_iff_eq]; exact h, h⟩
    · exact .inr ⟨beq_false_of_ne h, h⟩
  rcases hlo with h1 | h1 | h1
  · rcases hhi with h2 | h2
    · have hA1 : A1 ≠ b := by omega
      have hle : A1 ≤ b := by omega
      have es : sameB (A1, A2) b = (A1, (A2 - 1)) := by unfold sameB; dsimp only; rw [if_neg hA1, if_pos h2.2]
      have ef : (decide (A1 ≤ b) && decide (b ≤ A2)) = (decide (b ≤ A2)) := by simp [hle]
      rw [es, ef]
      have q1 := h1.2
      have q2 := h2.1
      have hw2 : -9223372036854775808 ≤ A2 - 1 ∧ A2 - 1 ≤ 9223372036854775807 := by omega
      have hl := h1.1
      clear h1 h2 es ef hA1 hle
      go_enter Try.func40, Try.ntmps40
      repeat' (first | go_values | go_skip | go_guarded | go_step | go_upon)
      refine gen_world (G5 w p v (mk5 5 (ka : Int) b c d) (A1, A2) (A1, (A2 - 1))) (HG0.out (A1, (A2 - 1))) ?_
      clear ea0 ea1 f0 f1 HG0
      intro wa hG
      have HG := Lib.hid hG
      obtain ⟨c0, c1⟩ := hG.b.two
      have n0 := hG.gq.n.free 0
      have n1 := hG.gq.n.free 1
      have m0 := hG.gq.f.free 0
      have m1 := hG.gq.f.free 1
      obtain ⟨x0, x1⟩ := hG.gq.n.two
      obtain ⟨y0, y1⟩ := hG.gq.f.two
      have i2 : wa.cell? ⟨w.heap.size + 1, 2, none⟩ = some (.int .i64 b) := hG.gq.sq.ins.cell 2 (by decide)
      clear hG q1 q2
      go_region
      repeat' (first | go_values | go_skip | go_guarded | go_step | go_upon)
      obtain ⟨k1, k2, k3⟩ := goes_fin HG.out.gq (A1, (A2 - 1)) (b, b)
      refine bodyPost_ret (v := .tuple #[.bool (decide (A1 ≤ (A2 - 1))), spV (A1, (A2 - 1)), .bool (decide (b ≤ A2)), spV (b, b)]) (results_goes rfl _ _ (w.heap.size + 1 + 1) (w.heap.size + 1 + 1 + 1) (.bool (decide (A1 ≤ (A2 - 1)))) (.bool (decide (b ≤ A2))) (A1, (A2 - 1)) (b, b) rfl rfl rfl rfl k1 k2) rfl ⟨rfl, k3⟩
    · have hA1 : A1 ≠ b := by omega
      have hle : A1 ≤ b := by omega
      have es : sameB (A1, A2) b = (A1, A2) := by unfold sameB; dsimp only; rw [if_neg hA1, if_neg h2.2]
      have ef : (decide (A1 ≤ b) && decide (b ≤ A2)) = (decide (b ≤ A2)) := by simp [hle]
      rw [es, ef]
      have q1 := h1.2
      have q2 := h2.1
      have hl := h1.1
      clear h1 h2 es ef hA1 hle
      go_enter Try.func40, Try.ntmps40
      repeat' (first | go_values | go_skip | go_guarded | go_step | go_upon)
      refine gen_world (G5 w p v (mk5 5 (ka : Int) b c d) (A1, A2) (A1, A2)) (HG0.out (A1, A2)) ?_
      clear ea0 ea1 f0 f1 HG0
      intro wa hG
      have HG := Lib.hid hG
      obtain ⟨c0, c1⟩ := hG.b.two
      have n0 := hG.gq.n.free 0
      have n1 := hG.gq.n.free 1
      have m0 := hG.gq.f.free 0
      have m1 := hG.gq.f.free 1
      obtain ⟨x0, x1⟩ := hG.gq.n.two
      obtain ⟨y0, y1⟩ := hG.gq.f.two
      have i2 : wa.cell? ⟨w.heap.size + 1, 2, none⟩ = some (.int .i64 b) := hG.gq.sq.ins.cell 2 (by decide)
      clear hG q1 q2
      go_region
      repeat' (first | go_values | go_skip | go_guarded | go_step | go_upon)
      obtain ⟨k1, k2, k3⟩ := goes_fin HG.out.gq (A1, A2) (b, b)
      refine bodyPost_ret (v := .tuple #[.bool (decide (A1 ≤ A2)), spV (A1, A2), .bool (decide (b ≤ A2)), spV (b, b)]) (results_goes rfl _ _ (w.heap.size + 1 + 1) (w.heap.size + 1 + 1 + 1) (.bool (decide (A1 ≤ A2))) (.bool (decide (b ≤ A2))) (A1, A2) (b, b) rfl rfl rfl rfl k1 k2) rfl ⟨rfl, k3⟩
  · rcases hhi with h2 | h2
    · have hA1 := h1.2
      have hle : A1 ≤ b := by omega
      have es : sameB (A1, A2) b = ((A1 + 1), (A2 - 1)) := by unfold sameB; dsimp only; rw [if_pos hA1, if_pos h2.2]
      have ef : (decide (A1 ≤ b) && decide (b ≤ A2)) = (decide (b ≤ A2)) := by simp [hle]
      rw [es, ef]
      have q1 := h1.1
      have q2 := h2.1
      have hw1 : -9223372036854775808 ≤ A1 + 1 ∧ A1 + 1 ≤ 9223372036854775807 := by omega
      have hw2 : -9223372036854775808 ≤ A2 - 1 ∧ A2 - 1 ≤ 9223372036854775807 := by omega
      have hl : A1 ≤ b := hle
      clear h1 h2 es ef hA1 hle
      go_enter Try.func40, Try.ntmps40
      repeat' (first | go_values | go_skip | go_guarded | go_step | go_upon)
      refine gen_world (G5 w p v (mk5 5 (ka : Int) b c d) (A1, A2) ((A1 + 1), (A2 - 1))) (HG0.out ((A1 + 1), (A2 - 1))) ?_
      clear ea0 ea1 f0 f1 HG0
      intro wa hG
      have HG := Lib.hid hG
      obtain ⟨c0, c1⟩ := hG.b.two
      have n0 := hG.gq.n.free 0
      have n1 := hG.gq.n.free 1
      have m0 := hG.gq.f.free 0
      have m1 := hG.gq.f.free 1
      obtain ⟨x0, x1⟩ := hG.gq.n.two
      obtain ⟨y0, y1⟩ := hG.gq.f.two
      have i2 : wa.cell? ⟨w.heap.size + 1, 2, none⟩ = some (.int .i64 b) := hG.gq.sq.ins.cell 2 (by decide)
      clear hG q1 q2
      go_region
      repeat' (first | go_values | go_skip | go_guarded | go_step | go_upon)
      obtain ⟨k1, k2, k3⟩ := goes_fin HG.out.gq ((A1 + 1), (A2 - 1)) (b, b)
      refine bodyPost_ret (v := .tuple #[.bool (decide ((A1 + 1) ≤ (A2 - 1))), spV ((A1 + 1), (A2 - 1)), .bool (decide (b ≤ A2)), spV (b, b)]) (results_goes rfl _ _ (w.heap.size + 1 + 1) (w.heap.size + 1 + 1 + 1) (.bool (decide ((A1 + 1) ≤ (A2 - 1)))) (.bool (decide (b ≤ A2))) ((A1 + 1), (A2 - 1)) (b, b) rfl rfl rfl rfl k1 k2) rfl ⟨rfl, k3⟩
    · have hA1 := h1.2
      have hle : A1 ≤ b := by omega
      have es : sameB (A1, A2) b = ((A1 + 1), A2) := by unfold sameB; dsimp only; rw [if_pos hA1, if_neg h2.2]
      have ef : (decide (A1 ≤ b) && decide (b ≤ A2)) = (decide (b ≤ A2)) := by simp [hle]
      rw [es, ef]
      have q1 := h1.1
      have q2 := h2.1
      have hw1 : -9223372036854775808 ≤ A1 + 1 ∧ A1 + 1 ≤ 9223372036854775807 := by omega
      have hl : A1 ≤ b := hle
      clear h1 h2 es ef hA1 hle
      go_enter Try.func40, Try.ntmps40
      repeat' (first | go_values | go_skip | go_guarded | go_step | go_upon)
      refine gen_world (G5 w p v (mk5 5 (ka : Int) b c d) (A1, A2) ((A1 + 1), A2)) (HG0.out ((A1 + 1), A2)) ?_
      clear ea0 ea1 f0 f1 HG0
      intro wa hG
      have HG := Lib.hid hG
      obtain ⟨c0, c1⟩ := hG.b.two
      have n0 := hG.gq.n.free 0
      have n1 := hG.gq.n.free 1
      have m0 := hG.gq.f.free 0
      have m1 := hG.gq.f.free 1
      obtain ⟨x0, x1⟩ := hG.gq.n.two
      obtain ⟨y0, y1⟩ := hG.gq.f.two
      have i2 : wa.cell? ⟨w.heap.size + 1, 2, none⟩ = some (.int .i64 b) := hG.gq.sq.ins.cell 2 (by decide)
      clear hG q1 q2
      go_region
      repeat' (first | go_values | go_skip | go_guarded | go_step | go_upon)
      obtain ⟨k1, k2, k3⟩ := goes_fin HG.out.gq ((A1 + 1), A2) (b, b)
      refine bodyPost_ret (v := .tuple #[.bool (decide ((A1 + 1) ≤ A2)), spV ((A1 + 1), A2), .bool (decide (b ≤ A2)), spV (b, b)]) (results_goes rfl _ _ (w.heap.size + 1 + 1) (w.heap.size + 1 + 1 + 1) (.bool (decide ((A1 + 1) ≤ A2))) (.bool (decide (b ≤ A2))) ((A1 + 1), A2) (b, b) rfl rfl rfl rfl k1 k2) rfl ⟨rfl, k3⟩
  · rcases hhi with h2 | h2
    · have hA1 : A1 ≠ b := by omega
      have hle : ¬ A1 ≤ b := by omega
      have es : sameB (A1, A2) b = (A1, (A2 - 1)) := by unfold sameB; dsimp only; rw [if_neg hA1, if_pos h2.2]
      have ef : (decide (A1 ≤ b) && decide (b ≤ A2)) = false := by simp [hle]
      rw [es, ef]
      have q1 := h1.2
      have q2 := h2.1
      have hw2 : -9223372036854775808 ≤ A2 - 1 ∧ A2 - 1 ≤ 9223372036854775807 := by omega
      have hl := h1.1
      clear h1 h2 es ef hA1 hle
      go_enter Try.func40, Try.ntmps40
      repeat' (first | go_values | go_skip | go_guarded | go_step | go_upon)
      refine gen_world (G5 w p v (mk5 5 (ka : Int) b c d) (A1, A2) (A1, (A2 - 1))) (HG0.out (A1, (A2 - 1))) ?_
      clear ea0 ea1 f0 f1 HG0
      intro wa hG
      have HG := Lib.hid hG
      obtain ⟨c0, c1⟩ := hG.b.two
      have n0 := hG.gq.n.free 0
      have n1 := hG.gq.n.free 1
      have m0 := hG.gq.f.free 0
      have m1 := hG.gq.f.free 1
      obtain ⟨x0, x1⟩ := hG.gq.n.two
      obtain ⟨y0, y1⟩ := hG.gq.f.two
      have i2 : wa.cell? ⟨w.heap.size + 1, 2, none⟩ = some (.int .i64 b) := hG.gq.sq.ins.cell 2 (by decide)
      clear hG q1 q2
      go_region
      repeat' (first | go_values | go_skip | go_guarded | go_step | go_upon)
      obtain ⟨k1, k2, k3⟩ := goes_fin HG.out.gq (A1, (A2 - 1)) (b, b)
      refine bodyPost_ret (v := .tuple #[.bool (decide (A1 ≤ (A2 - 1))), spV (A1, (A2 - 1)), .bool false, spV (b, b)]) (results_goes rfl _ _ (w.heap.size + 1 + 1) (w.heap.size + 1 + 1 + 1) (.bool (decide (A1 ≤ (A2 - 1)))) (.bool false) (A1, (A2 - 1)) (b, b) rfl rfl rfl rfl k1 k2) rfl ⟨rfl, k3⟩
    · have hA1 : A1 ≠ b := by omega
      have hle : ¬ A1 ≤ b := by omega
      have es : sameB (A1, A2) b = (A1, A2) := by unfold sameB; dsimp only; rw [if_neg hA1, if_neg h2.2]
      have ef : (decide (A1 ≤ b) && decide (b ≤ A2)) = false := by simp [hle]
      rw [es, ef]
      have q1 := h1.2
      have q2 := h2.1
      have hl := h1.1
      clear h1 h2 es ef hA1 hle
      go_enter Try.func40, Try.ntmps40
      repeat' (first | go_values | go_skip | go_guarded | go_step | go_upon)
      refine gen_world (G5 w p v (mk5 5 (ka : Int) b c d) (A1, A2) (A1, A2)) (HG0.out (A1, A2)) ?_
      clear ea0 ea1 f0 f1 HG0
      intro wa hG
      have HG := Lib.hid hG
      obtain ⟨c0, c1⟩ := hG.b.two
      have n0 := hG.gq.n.free 0
      have n1 := hG.gq.n.free 1
      have m0 := hG.gq.f.free 0
      have m1 := hG.gq.f.free 1
      obtain ⟨x0, x1⟩ := hG.gq.n.two
      obtain ⟨y0, y1⟩ := hG.gq.f.two
      have i2 : wa.cell? ⟨w.heap.size + 1, 2, none⟩ = some (.int .i64 b) := hG.gq.sq.ins.cell 2 (by decide)
      clear hG q1 q2
      go_region
      repeat' (first | go_values | go_skip | go_guarded | go_step | go_upon)
      obtain ⟨k1, k2, k3⟩ := goes_fin HG.out.gq (A1, A2) (b, b)
      refine bodyPost_ret (v := .tuple #[.bool (decide (A1 ≤ A2)), spV (A1, A2), .bool false, spV (b, b)]) (results_goes rfl _ _ (w.heap.size + 1 + 1) (w.heap.size + 1 + 1 + 1) (.bool (decide (A1 ≤ A2))) (.bool false) (A1, A2) (b, b) rfl rfl rfl rfl k1 k2) rfl ⟨rfl, k3⟩
end Go.Proofs.Ytkhggnlanopgkaa
