/- Walks: what follows of simple instructions, by the reference. Conditions: the ranges lie in memory. -/
import Derived.Test.YtkhggnlanopgkaaRefGoes
namespace Go.Proofs.Ytkhggnlanopgkaa
open Go.RowKit
set_option maxRecDepth 100000 in
set_option maxHeartbeats 4000000 in
theorem ref_goes1 (p : Prg) (v : PV) (a b c d : Int) (vr : Value) (r : Rg) (w : World) (hr : RowOf spC 2 w vr r) (hr8 : r.length = 8) (ha : 0 ≤ a ∧ a ≤ 7) :
    Calls Try.prog 40 #[pgV p v, .agg #[.int .i64 1, .int .i64 a, .int .i64 b, .int .i64 c, .int .i64 d], vr] w fun e w' => e = .returned (.tuple #[.bool false, spV (rget r a.toNat), .bool false, spV (rget r a.toNat)]) ∧ Below w.heap.size w w' := by
  obtain ⟨ar, cr, rfl, hcr, hmr, hcell⟩ := hr.open spC_len
  rw [hr8] at hcr hcell ⊢
  rcases hcell with h0 | ⟨br, or', rfl, hbr, hcell⟩
  · omega
  obtain ⟨ka, hka⟩ : ∃ k : Nat, a = (k : Int) := ⟨a.toNat, by omega⟩
  subst hka
  have hka8 : ka < 8 := by omega
  rw [Int.toNat_natCast]
  obtain ⟨ea0, ea1⟩ := sp_cells hcell ka (by omega)
  clear hcell hr hr8 ha
  generalize rget r ka = A at ea0 ea1 ⊢
  have hb4 : Below w.heap.size w ((((w.alloc (.cells (pgC p v) 30)).alloc (.cells #[.int .i64 1, .int .i64 (ka : Int), .int .i64 b, .int .i64 c, .int .i64 d] 39)).alloc (.cells #[.int .i64 0, .int .i64 0] 97)).alloc (.cells #[.int .i64 0, .int .i64 0] 97)) := ((((Below.refl _ _).alloc (Nat.le_refl _) _).alloc (by simp) _).alloc (by simp; omega) _).alloc (by simp; omega) _
  have f0 := ea0
  have f1 := ea1
  rw [← hb4.cell (show br < w.heap.size from hbr)] at f0 f1
  go_enter Try.func40, Try.ntmps40
  repeat' (first | go_values | go_skip | go_guarded | go_step | go_upon)
  refine gen_world (GQ w p v (mk5 1 (ka : Int) b c d) A) (GQ.start w p v (mk5 1 (ka : Int) b c d) A) ?_
  clear ea0 ea1 f0 f1 hb4
  intro wa hG
  have HG := Lib.hid hG
  obtain ⟨c0, c1⟩ := hG.t.two
  have n0 := hG.n.free 0
  have n1 := hG.n.free 1
  have m0 := hG.f.free 0
  have m1 := hG.f.free 1
  obtain ⟨x0, x1⟩ := hG.n.two
  obtain ⟨y0, y1⟩ := hG.f.two
  have i2 := hG.sq.ins.cell 2 (by decide)
  have i2' : wa.cell? ⟨w.heap.size + 1, 2, none⟩ = some (.int .i64 b) := i2
  clear hG i2
  go_region
  repeat' (first | go_values | go_skip | go_guarded | go_step | go_upon)
  obtain ⟨k1, k2, k3⟩ := goes_fin HG.out A A
  refine bodyPost_ret (v := .tuple #[.bool false, spV A, .bool false, spV A]) (results_goes rfl _ _ (w.heap.size + 1 + 1) (w.heap.size + 1 + 1 + 1) (.bool false) (.bool false) A A rfl rfl rfl rfl k1 k2) rfl ⟨rfl, k3⟩

set_option maxRecDepth 100000 in
set_option maxHeartbeats 4000000 in
theorem ref_goes2 (p : Prg) (v : PV) (a b c d : Int) (vr : Value) (r : Rg) (w : World) (hr : RowOf spC 2 w vr r) (hr8 : r.length = 8) (ha : 0 ≤ a ∧ a ≤ 7) :
    Calls Try.prog 40 #[pgV p v, .agg #[.int .i64 2, .int .i64 a, .int .i64 b, .int .i64 c, .int .i64 d], vr] w fun e w' => e = .returned (.tuple #[.bool true, spV (b, b), .bool false, spV (rget r a.toNat)]) ∧ Below w.heap.size w w' := by
  obtain ⟨ar, cr, rfl, hcr, hmr, hcell⟩ := hr.open spC_len
  rw [hr8] at hcr hcell ⊢
  rcases hcell with h0 | ⟨br, or', rfl, hbr, hcell⟩
  · omega
  obtain ⟨ka, hka⟩ : ∃ k : Nat, a = (k : Int) := ⟨a.toNat, by omega⟩
  subst hka
  have hka8 : ka < 8 := by omega
  rw [Int.toNat_natCast]
  obtain ⟨ea0, ea1⟩ := sp_cells hcell ka (by omega)
  clear hcell hr hr8 ha
  generalize rget r ka = A at ea0 ea1 ⊢
  have hb4 : Below w.heap.size w ((((w.alloc (.cells (pgC p v) 30)).alloc (.cells #[.int .i64 2, .int .i64 (ka : Int), .int .i64 b, .int .i64 c, .int .i64 d] 39)).alloc (.cells #[.int .i64 0, .int .i64 0] 97)).alloc (.cells #[.int .i64 0, .int .i64 0] 97)) := ((((Below.refl _ _).alloc (Nat.le_refl _) _).alloc (by simp) _).alloc (by simp; omega) _).alloc (by simp; omega) _
  have f0 := ea0
  have f1 := ea1
  rw [← hb4.cell (show br < w.heap.size from hbr)] at f0 f1
  go_enter Try.func40, Try.ntmps40
  repeat' (first | go_values | go_skip | go_guarded | go_step | go_upon)
  refine gen_world (GQ w p v (mk5 2 (ka : Int) b c d) A) (GQ.start w p v (mk5 2 (ka : Int) b c d) A) ?_
  clear ea0 ea1 f0 f1 hb4
  intro wa hG
  have HG := Lib.hid hG
  obtain ⟨c0, c1⟩ := hG.t.two
  have n0 := hG.n.free 0
  have n1 := hG.n.free 1
  have m0 := hG.f.free 0
  have m1 := hG.f.free 1
  obtain ⟨x0, x1⟩ := hG.n.two
  obtain ⟨y0, y1⟩ := hG.f.two
  have i2 := hG.sq.ins.cell 2 (by decide)
  have i2' : wa.cell? ⟨w.heap.size + 1, 2, none⟩ = some (.int .i64 b) := i2
  clear hG i2
  go_region
  repeat' (first | go_values | go_skip | go_guarded | go_step | go_upon)
  obtain ⟨k1, k2, k3⟩ := goes_fin HG.out (b, b) A
  refine bodyPost_ret (v := .tuple #[.bool true, spV (b, b), .bool false, spV A]) (results_goes rfl _ _ (w.heap.size + 1 + 1) (w.heap.size + 1 + 1 + 1) (.bool true) (.bool false) (b, b) A rfl rfl rfl rfl k1 k2) rfl ⟨rfl, k3⟩

set_option maxRecDepth 100000 in
set_option maxHeartbeats 4000000 in
theorem ref_goes4 (p : Prg) (v : PV) (a b c d : Int) (vr : Value) (r : Rg) (w : World) (hr : RowOf spC 2 w vr r) (hr8 : r.length = 8) (ha : 0 ≤ a ∧ a ≤ 7) :
    Calls Try.prog 40 #[pgV p v, .agg #[.int .i64 4, .int .i64 a, .int .i64 b, .int .i64 c, .int .i64 d], vr] w fun e w' => e = .returned (.tuple #[.bool false, spV (rget r a.toNat), .bool true, spV (rget r a.toNat)]) ∧ Below w.heap.size w w' := by
  obtain ⟨ar, cr, rfl, hcr, hmr, hcell⟩ := hr.open spC_len
  rw [hr8] at hcr hcell ⊢
  rcases hcell with h0 | ⟨br, or', rfl, hbr, hcell⟩
  · omega
  obtain ⟨ka, hka⟩ : ∃ k : Nat, a = (k : Int) := ⟨a.toNat, by omega⟩
  subst hka
  have hka8 : ka < 8 := by omega
  rw [Int.toNat_natCast]
  obtain ⟨ea0, ea1⟩ := sp_cells hcell ka (by omega)
  clear hcell hr hr8 ha
  generalize rget r ka = A at ea0 ea1 ⊢
  have hb4 : Below w.heap.size w ((((w.alloc (.cells (pgC p v) 30)).alloc (.cells #[.int .i64 4, .int .i64 (ka : Int), .int .i64 b, .int .i64 c, .int .i64 d] 39)).alloc (.cells #[.int .i64 0, .int .i64 0] 97)).alloc (.cells #[.int .i64 0, .int .i64 0] 97)) := ((((Below.refl _ _).alloc (Nat.le_refl _) _).alloc (by simp) _).alloc (by simp; omega) _).alloc (by simp; omega) _
  have f0 := ea0
  have f1 := ea1
  rw [← hb4.cell (show br < w.heap.size from hbr)] at f0 f1
  go_enter Try.func40, Try.ntmps40
  repeat' (first | go_values | go_skip | go_guarded | go_step | go_upon)
  refine gen_world (GQ w p v (mk5 4 (ka : Int) b c d) A) (GQ.start w p v (mk5 4 (ka : Int) b c d) A) ?_
  clear ea0 ea1 f0 f1 hb4
  intro wa hG
  have HG := Lib.hid hG
  obtain ⟨c0, c1⟩ := hG.t.two
  have n0 := hG.n.free 0
  have n1 := hG.n.free 1
  have m0 := hG.f.free 0
  have m1 := hG.f.free 1
  obtain ⟨x0, x1⟩ := hG.n.two
  obtain ⟨y0, y1⟩ := hG.f.two
  have i2 := hG.sq.ins.cell 2 (by decide)
  have i2' : wa.cell? ⟨w.heap.size + 1, 2, none⟩ = some (.int .i64 b) := i2
  clear hG i2
  go_region
  repeat' (first | go_values | go_skip | go_guarded | go_step | go_upon)
  obtain ⟨k1, k2, k3⟩ := goes_fin HG.out A A
  refine bodyPost_ret (v := .tuple #[.bool false, spV A, .bool true, spV A]) (results_goes rfl _ _ (w.heap.size + 1 + 1) (w.heap.size + 1 + 1 + 1) (.bool false) (.bool true) A A rfl rfl rfl rfl k1 k2) rfl ⟨rfl, k3⟩

set_option maxRecDepth 100000 in
set_option maxHeartbeats 4000000 in
theorem ref_goes7 (p : Prg) (v : PV) (a b c d : Int) (vr : Value) (r : Rg) (w : World) (hr : RowOf spC 2 w vr r) (hr8 : r.length = 8) (ha : 0 ≤ a ∧ a ≤ 7) :
    Calls Try.prog 40 #[pgV p v, .agg #[.int .i64 7, .int .i64 a, .int .i64 b, .int .i64 c, .int .i64 d], vr] w fun e w' => e = .returned (.tuple #[.bool true, spV (0, 255), .bool true, spV (rget r a.toNat)]) ∧ Below w.heap.size w w' := by
  obtain ⟨ar, cr, rfl, hcr, hmr, hcell⟩ := hr.open spC_len
  rw [hr8] at hcr hcell ⊢
  rcases hcell with h0 | ⟨br, or', rfl, hbr, hcell⟩
  · omega
  obtain ⟨ka, hka⟩ : ∃ k : Nat, a = (k : Int) := ⟨a.toNat, by omega⟩
  subst hka
  have hka8 : ka < 8 := by omega
  rw [Int.toNat_natCast]
  obtain ⟨ea0, ea1⟩ := sp_cells hcell ka (by omega)
  clear hcell hr hr8 ha
  generalize rget r ka = A at ea0 ea1 ⊢
  have hb4 : Below w.heap.size w ((((w.alloc (.cells (pgC p v) 30)).alloc (.cells #[.int .i64 7, .int .i64 (ka : Int), .int .i64 b, .int .i64 c, .int .i64 d] 39)).alloc (.cells #[.int .i64 0, .int .i64 0] 97)).alloc (.cells #[.int .i64 0, .int .i64 0] 97)) := ((((Below.refl _ _).alloc (Nat.le_refl _) _).alloc (by simp) _).alloc (by simp; omega) _).alloc (by simp; omega) _
  have f0 := ea0
  have f1 := ea1
  rw [← hb4.cell (show br < w.heap.size from hbr)] at f0 f1
  go_enter Try.func40, Try.ntmps40
  repeat' (first | go_values | go_skip | go_guarded | go_step | go_upon)
  refine gen_world (GQ w p v (mk5 7 (ka : Int) b c d) A) (GQ.start w p v (mk5 7 (ka : Int) b c d) A) ?_
  clear ea0 ea1 f0 f1 hb4
  intro wa hG
  have HG := Lib.hid hG
  obtain ⟨c0, c1⟩ := hG.t.two
  have n0 := hG.n.free 0
  have n1 := hG.n.free 1
  have m0 := hG.f.free 0
  have m1 := hG.f.free 1
  obtain ⟨x0, x1⟩ := hG.n.two
  obtain ⟨y0, y1⟩ := hG.f.two
  have i2 := hG.sq.ins.cell 2 (by decide)
  have i2' : wa.cell? ⟨w.heap.size + 1, 2, none⟩ = some (.int .i64 b) := i2
  clear hG i2
  go_region
  repeat' (first | go_values | go_skip | go_guarded | go_step | go_upon)
  obtain ⟨k1, k2, k3⟩ := goes_fin HG.out (0, 255) A
  refine bodyPost_ret (v := .tuple #[.bool true, spV (0, 255), .bool true, spV A]) (results_goes rfl _ _ (w.heap.size + 1 + 1) (w.heap.size + 1 + 1 + 1) (.bool true) (.bool true) (0, 255) A rfl rfl rfl rfl k1 k2) rfl ⟨rfl, k3⟩

set_option maxRecDepth 100000 in
set_option maxHeartbeats 4000000 in
theorem ref_goes11 (p : Prg) (v : PV) (a b c d : Int) (vr : Value) (r : Rg) (w : World) (hr : RowOf spC 2 w vr r) (hr8 : r.length = 8) (ha : 0 ≤ a ∧ a ≤ 7) :
    Calls Try.prog 40 #[pgV p v, .agg #[.int .i64 11, .int .i64 a, .int .i64 b, .int .i64 c, .int .i64 d], vr] w fun e w' => e = .returned (.tuple #[.bool true, spV (rget r a.toNat), .bool true, spV (rget r a.toNat)]) ∧ Below w.heap.size w w' := by
  obtain ⟨ar, cr, rfl, hcr, hmr, hcell⟩ := hr.open spC_len
  rw [hr8] at hcr hcell ⊢
  rcases hcell with h0 | ⟨br, or', rfl, hbr, hcell⟩
  · omega
  obtain ⟨ka, hka⟩ : ∃ k : Nat, a = (k : Int) := ⟨a.toNat, by omega⟩
  subst hka
  have hka8 : ka < 8 := by omega
  rw [Int.toNat_natCast]
  obtain ⟨ea0, ea1⟩ := sp_cells hcell ka (by omega)
  clear hcell hr hr8 ha
  generalize rget r ka = A at ea0 ea1 ⊢
  have hb4 : Below w.heap.size w ((((w.alloc (.cells (pgC p v) 30)).alloc (.cells #[.int .i64 11, .int .i64 (ka : Int), .int .i64 b, .int .i64 c, .int .i64 d] 39)).alloc (.cells #[.int .i64 0, .int .i64 0] 97)).alloc (.cells #[.int .i64 0, .int .i64 0] 97)) := ((((Below.refl _ _).alloc (Nat.le_refl _) _).alloc (by simp) _).alloc (by simp; omega) _).alloc (by simp; omega) _
  have f0 := ea0
  have f1 := ea1
  rw [← hb4.cell (show br < w.heap.size from hbr)] at f0 f1
  go_enter Try.func40, Try.ntmps40
  repeat' (first | go_values | go_skip | go_guarded | go_step | go_upon)
  refine gen_world (GQ w p v (mk5 11 (ka : Int) b c d) A) (GQ.start w p v (mk5 11 (ka : Int) b c d) A) ?_
  clear ea0 ea1 f0 f1 hb4
  intro wa hG
  have HG := Lib.hid hG
  obtain ⟨c0, c1⟩ := hG.t.two
  have n0 := hG.n.free 0
  have n1 := hG.n.free 1
  have m0 := hG.f.free 0
  have m1 := hG.f.free 1
  obtain ⟨x0, x1⟩ := hG.n.two
  obtain ⟨y0, y1⟩ := hG.f.two
  have i2 := hG.sq.ins.cell 2 (by decide)
  have i2' : wa.cell? ⟨w.heap.size + 1, 2, none⟩ = some (.int .i64 b) := i2
  clear hG i2
  go_region
  repeat' (first | go_values | go_skip | go_guarded | go_step | go_upon)
  obtain ⟨k1, k2, k3⟩ := goes_fin HG.out A A
  refine bodyPost_ret (v := .tuple #[.bool true, spV A, .bool true, spV A]) (results_goes rfl _ _ (w.heap.size + 1 + 1) (w.heap.size + 1 + 1 + 1) (.bool true) (.bool true) A A rfl rfl rfl rfl k1 k2) rfl ⟨rfl, k3⟩

set_option maxRecDepth 100000 in
set_option maxHeartbeats 4000000 in
theorem ref_goesElse (p : Prg) (v : PV) (o : Int) (ho : o ≠ 1 ∧ o ≠ 2 ∧ o ≠ 3 ∧ o ≠ 4 ∧ o ≠ 5 ∧ o ≠ 6 ∧ o ≠ 7 ∧ o ≠ 8 ∧ o ≠ 11) (a b c d : Int) (vr : Value) (r : Rg) (w : World) (hr : RowOf spC 2 w vr r) (hr8 : r.length = 8) (ha : 0 ≤ a ∧ a ≤ 7) :
    Calls Try.prog 40 #[pgV p v, .agg #[.int .i64 o, .int .i64 a, .int .i64 b, .int .i64 c, .int .i64 d], vr] w fun e w' => e = .returned (.tuple #[.bool true, spV (rget r a.toNat), .bool false, spV (rget r a.toNat)]) ∧ Below w.heap.size w w' := by
  obtain ⟨ar, cr, rfl, hcr, hmr, hcell⟩ := hr.open spC_len
  rw [hr8] at hcr hcell ⊢
  rcases hcell with h0 | ⟨br, or', rfl, hbr, hcell⟩
  · omega
  obtain ⟨ka, hka⟩ : ∃ k : Nat, a = (k : Int) := ⟨a.toNat, by omega⟩
  subst hka
  have hka8 : ka < 8 := by omega
  rw [Int.toNat_natCast]
  obtain ⟨ea0, ea1⟩ := sp_cells hcell ka (by omega)
  clear hcell hr hr8 ha
  generalize rget r ka = A at ea0 ea1 ⊢
  have hb4 : Below w.heap.size w ((((w.alloc (.cells (pgC p v) 30)).alloc (.cells #[.int .i64 o, .int .i64 (ka : Int), .int .i64 b, .int .i64 c, .int .i64 d] 39)).alloc (.cells #[.int .i64 0, .int .i64 0] 97)).alloc (.cells #[.int .i64 0, .int .i64 0] 97)) := ((((Below.refl _ _).alloc (Nat.le_refl _) _).alloc (by simp) _).alloc (by simp; omega) _).alloc (by simp; omega) _
  have f0 := ea0
  have f1 := ea1
  rw [← hb4.cell (show br < w.heap.size from hbr)] at f0 f1
  have e1 : (o == 1) = false := beq_false_of_ne ho.1
  have e2 : (o == 2) = false := beq_false_of_ne ho.2.1
  have e3 : (o == 3) = false := beq_false_of_ne ho.2.2.1
  have e4 : (o == 4) = false := beq_false_of_ne ho.2.2.2.1
  have e5 : (o == 5) = false := beq_false_of_ne ho.2.2.2.2.1
  have e6 : (o == 6) = false := beq_false_of_ne ho.2.2.2.2.2.1
  have e7 : (o == 7) = false := beq_false_of_ne ho.2.2.2.2.2.2.1
  have e8 : (o == 8) = false := beq_false_of_ne ho.2.2.2.2.2.2.2.1
  have e11 : (o == 11) = false := beq_false_of_ne ho.2.2.2.2.2.2.2.2
  clear ho
  go_enter Try.func40, Try.ntmps40
  repeat' (first | go_values | go_skip | go_guarded | go_step | go_upon)
  refine gen_world (GQ w p v (mk5 o (ka : Int) b c d) A) (GQ.start w p v (mk5 o (ka : Int) b c d) A) ?_
  clear ea0 ea1 f0 f1 hb4
  intro wa hG
  have HG := Lib.hid hG
  obtain ⟨c0, c1⟩ := hG.t.two
  have n0 := hG.n.free 0
  have n1 := hG.n.free 1
  have m0 := hG.f.free 0
  have m1 := hG.f.free 1
  obtain ⟨x0, x1⟩ := hG.n.two
  obtain ⟨y0, y1⟩ := hG.f.two
  have i2 := hG.sq.ins.cell 2 (by decide)
  have i2' : wa.cell? ⟨w.heap.size + 1, 2, none⟩ = some (.int .i64 b) := i2
  clear hG i2
  go_region
  repeat' (first | go_values | go_skip | go_guarded | go_step | go_upon)
  obtain ⟨k1, k2, k3⟩ := goes_fin HG.out A A
  refine bodyPost_ret (v := .tuple #[.bool true, spV A, .bool false, spV A]) (results_goes rfl _ _ (w.heap.size + 1 + 1) (w.heap.size + 1 + 1 + 1) (.bool true) (.bool false) A A rfl rfl rfl rfl k1 k2) rfl ⟨rfl, k3⟩
end Go.Proofs.Ytkhggnlanopgkaa
