/- Walks: what follows of a move and of a comparison, by the reference. Conditions: the ranges lie in memory. -/
import Derived.Test.YtkhggnlanopgkaaRefGoes
namespace Go.Proofs.Ytkhggnlanopgkaa
open Go.RowKit
theorem SpAt.put0 {w : World} {g : Nat} {z : Int × Int} (h : SpAt w g z) (x : Int) : SpAt (w.setCell ⟨g, 0, none⟩ (.int .i64 x)) g (x, z.2) := by
  unfold SpAt at h ⊢
  rw [setCell_eq_setRow w g 0 _ _ _ (.int .i64 x) h, setRow_heap _ _ _ _ _ _ h]; simp
theorem SpAt.put1 {w : World} {g : Nat} {z : Int × Int} (h : SpAt w g z) (x : Int) : SpAt (w.setCell ⟨g, 1, none⟩ (.int .i64 x)) g (z.1, x) := by
  unfold SpAt at h ⊢
  rw [setCell_eq_setRow w g 1 _ _ _ (.int .i64 x) h, setRow_heap _ _ _ _ _ _ h]; simp
theorem SpAt.oth {w : World} {g g' k : Nat} {z : Int × Int} {x : Value} (h : SpAt w g z) (hg : g ≠ g') : SpAt (w.setCell ⟨g', k, none⟩ x) g z := by
  unfold SpAt at h ⊢
  rw [heap_setCell_other _ _ _ _ (by exact hg)]; exact h
theorem SQ.oth {w0 w : World} {p : Prg} {v : PV} {x : Nat → Int} {g k : Nat} {u : Value} (h : SQ w0 p v x w) (hg : w0.heap.size + 1 < g) : SQ w0 p v x (w.setCell ⟨g, k, none⟩ u) := by
  refine ⟨h.bel.setCell (by simp; omega) _, ?_, h.ins.other (by omega)⟩
  have := h.pg
  unfold PBox at this ⊢
  rw [heap_setCell_other _ _ _ _ (by dsimp only; omega)]; exact this
theorem GQ.oth {w0 w : World} {p : Prg} {v : PV} {x : Nat → Int} {A : Int × Int} {g k : Nat} {u : Value} (h : GQ w0 p v x A w) (hg : w0.heap.size + 1 + 1 + 1 + 1 < g) : GQ w0 p v x A (w.setCell ⟨g, k, none⟩ u) :=
  ⟨h.sq.oth (by omega), h.n.oth (by omega), h.f.oth (by omega), h.t.oth (by omega)⟩
theorem GQ.step {w0 w w' : World} {p : Prg} {v : PV} {x : Nat → Int} {A : Int × Int} (h : GQ w0 p v x A w) (hb : Below w.heap.size w w') : GQ w0 p v x A w' := ⟨h.sq.step hb, h.n.keep hb, h.f.keep hb, h.t.keep hb⟩
/-- with two ranges more -/
structure G6 (w0 : World) (p : Prg) (v : PV) (x : Nat → Int) (A N F : Int × Int) (w : World) : Prop where
  gq : GQ w0 p v x A w
  b : SpAt w (w0.heap.size + 1 + 1 + 1 + 1 + 1) N
  c : SpAt w (w0.heap.size + 1 + 1 + 1 + 1 + 1 + 1) F
theorem G6.start {w0 w : World} {p : Prg} {v : PV} {x : Nat → Int} {A : Int × Int} (h : GQ w0 p v x A w) (hs : w.heap.size = w0.heap.size + 1 + 1 + 1 + 1 + 1) (N F : Int × Int) :
    G6 w0 p v x A N F ((w.alloc (.cells #[.int .i64 N.1, .int .i64 N.2] 97)).alloc (.cells #[.int .i64 F.1, .int .i64 F.2] 97)) := by
  have al : ∀ (w : World) (o : Obj), Below w.heap.size w (w.alloc o) := fun w o => (Below.refl _ _).alloc (Nat.le_refl _) _
  have h1 := SpAt.new w N
  have h2 := SpAt.new (w.alloc (.cells #[.int .i64 N.1, .int .i64 N.2] 97)) F
  rw [World.size_alloc] at h2
  rw [hs] at h1 h2
  exact ⟨(h.step (al _ _)).step (al _ _), h1.keep (al _ _), h2⟩
theorem size_start (w : World) (p : Prg) (v : PV) (x : Nat → Int) (A : Int × Int) : (((((w.alloc (.cells (pgC p v) 30)).alloc (.cells (ic x) 39)).alloc (.cells #[.int .i64 0, .int .i64 0] 97)).alloc (.cells #[.int .i64 0, .int .i64 0] 97)).alloc (.cells #[.int .i64 A.1, .int .i64 A.2] 97)).heap.size = w.heap.size + 1 + 1 + 1 + 1 + 1 := by simp
set_option maxRecDepth 100000 in
set_option maxHeartbeats 4000000 in
theorem ref_goes6 (p : Prg) (v : PV) (a b c d : Int) (vr : Value) (r : Rg) (w : World) (hr : RowOf spC 2 w vr r) (hr8 : r.length = 8) (ha : 0 ≤ a ∧ a ≤ 7) (hb0 : 0 ≤ b) (hb1 : b ≤ 1073741824) (A : Int × Int) (hA : A = rget r a.toNat) :
    Calls Try.prog 40 #[pgV p v, .agg #[.int .i64 6, .int .i64 a, .int .i64 b, .int .i64 c, .int .i64 d], vr] w fun e w' => e = .returned (.tuple #[.bool (decide (max A.1 b ≤ A.2)), spV (max A.1 b, A.2), .bool (decide (A.1 ≤ min A.2 (b - 1))), spV (A.1, min A.2 (b - 1))]) ∧ Below w.heap.size w w' := by
  obtain ⟨ar, cr, rfl, hcr, hmr, hcell⟩ := hr.open spC_len
  rw [hr8] at hcr hcell ⊢
  rcases hcell with h0 | ⟨br, or', rfl, hbr, hcell⟩
  · omega
  obtain ⟨ka, hka⟩ : ∃ k : Nat, a = (k : Int) := ⟨a.toNat, by omega⟩
  subst hka
  have hka8 : ka < 8 := by omega
  rw [Int.toNat_natCast] at hA
  obtain ⟨ea0, ea1⟩ := sp_cells hcell ka (by omega)
  rw [← hA] at ea0 ea1
  clear hcell hr hr8 ha hA
  obtain ⟨A1, A2⟩ := A
  dsimp only at ea0 ea1 ⊢
  have hb4 : Below w.heap.size w ((((w.alloc (.cells (pgC p v) 30)).alloc (.cells #[.int .i64 6, .int .i64 (ka : Int), .int .i64 b, .int .i64 c, .int .i64 d] 39)).alloc (.cells #[.int .i64 0, .int .i64 0] 97)).alloc (.cells #[.int .i64 0, .int .i64 0] 97)) := ((((Below.refl _ _).alloc (Nat.le_refl _) _).alloc (by simp) _).alloc (by simp; omega) _).alloc (by simp; omega) _
  have f0 := ea0
  have f1 := ea1
  rw [← hb4.cell (show br < w.heap.size from hbr)] at f0 f1
  have HG0 := Lib.hid (G6.start (GQ.start w p v (mk5 6 (ka : Int) b c d) (A1, A2)) (size_start w p v (mk5 6 (ka : Int) b c d) (A1, A2)))
  clear hb4
  have hcase : (A1 < b ∧ max A1 b = b) ∨ (b ≤ A1 ∧ max A1 b = A1) := by omega
  have hcase2 : (b - 1 < A2 ∧ min A2 (b - 1) = b - 1) ∨ (A2 ≤ b - 1 ∧ min A2 (b - 1) = A2) := by omega
  rcases hcase with ⟨h1, hm⟩ | ⟨h1, hm⟩
  · rcases hcase2 with ⟨h2, hn⟩ | ⟨h2, hn⟩
    · rw [hm, hn]
      clear hm hn
      go_enter Try.func40, Try.ntmps40
      repeat' (first | go_values | go_skip | go_guarded | go_step | go_upon)
      refine gen_world (G6 w p v (mk5 6 (ka : Int) b c d) (A1, A2) (b, A2) (A1, b - 1)) (HG0.out (b, A2) (A1, b - 1)) ?_
      clear ea0 ea1 f0 f1 HG0
      intro wa hG
      have HG := Lib.hid hG
      obtain ⟨c0, c1⟩ := hG.b.two
      obtain ⟨d0, d1⟩ := hG.c.two
      have n0 := hG.gq.n.free 0
      have n1 := hG.gq.n.free 1
      have m0 := hG.gq.f.free 0
      have m1 := hG.gq.f.free 1
      obtain ⟨x0, x1⟩ := hG.gq.n.two
      obtain ⟨y0, y1⟩ := hG.gq.f.two
      have i2 : wa.cell? ⟨w.heap.size + 1, 2, none⟩ = some (.int .i64 b) := hG.gq.sq.ins.cell 2 (by decide)
      clear hG
      go_region
      repeat' (first | go_values | go_skip | go_guarded | go_step | go_upon)
      obtain ⟨k1, k2, k3⟩ := goes_fin HG.out.gq (b, A2) (A1, b - 1)
      refine bodyPost_ret (v := .tuple #[.bool (decide (b ≤ A2)), spV (b, A2), .bool (decide (A1 ≤ b - 1)), spV (A1, b - 1)]) (results_goes rfl _ _ (w.heap.size + 1 + 1) (w.heap.size + 1 + 1 + 1) (.bool (decide (b ≤ A2))) (.bool (decide (A1 ≤ b - 1))) (b, A2) (A1, b - 1) rfl rfl rfl rfl k1 k2) rfl ⟨rfl, k3⟩
    · rw [hm, hn]
      clear hm hn
      go_enter Try.func40, Try.ntmps40
      repeat' (first | go_values | go_skip | go_guarded | go_step | go_upon)
      refine gen_world (G6 w p v (mk5 6 (ka : Int) b c d) (A1, A2) (b, A2) (A1, A2)) (HG0.out (b, A2) (A1, A2)) ?_
      clear ea0 ea1 f0 f1 HG0
      intro wa hG
      have HG := Lib.hid hG
      obtain ⟨c0, c1⟩ := hG.b.two
      obtain ⟨d0, d1⟩ := hG.c.two
      have n0 := hG.gq.n.free 0
      have n1 := hG.gq.n.free 1
      have m0 := hG.gq.f.free 0
      have m1 := hG.gq.f.free 1
      obtain ⟨x0, x1⟩ := hG.gq.n.two
      obtain ⟨y0, y1⟩ := hG.gq.f.two
      have i2 : wa.cell? ⟨w.heap.size + 1, 2, none⟩ = some (.int .i64 b) := hG.gq.sq.ins.cell 2 (by decide)
      clear hG
      go_region
      repeat' (first | go_values | go_skip | go_guarded | go_step | go_upon)
      obtain ⟨k1, k2, k3⟩ := goes_fin HG.out.gq (b, A2) (A1, A2)
      refine bodyPost_ret (v := .tuple #[.bool (decide (b ≤ A2)), spV (b, A2), .bool (decide (A1 ≤ A2)), spV (A1, A2)]) (results_goes rfl _ _ (w.heap.size + 1 + 1) (w.heap.size + 1 + 1 + 1) (.bool (decide (b ≤ A2))) (.bool (decide (A1 ≤ A2))) (b, A2) (A1, A2) rfl rfl rfl rfl k1 k2) rfl ⟨rfl, k3⟩
  · rcases hcase2 with ⟨h2, hn⟩ | ⟨h2, hn⟩
    · rw [hm, hn]
      clear hm hn
      go_enter Try.func40, Try.ntmps40
      repeat' (first | go_values | go_skip | go_guarded | go_step | go_upon)
      refine gen_world (G6 w p v (mk5 6 (ka : Int) b c d) (A1, A2) (A1, A2) (A1, b - 1)) (HG0.out (A1, A2) (A1, b - 1)) ?_
      clear ea0 ea1 f0 f1 HG0
      intro wa hG
      have HG := Lib.hid hG
      obtain ⟨c0, c1⟩ := hG.b.two
      obtain ⟨d0, d1⟩ := hG.c.two
      have n0 := hG.gq.n.free 0
      have n1 := hG.gq.n.free 1
      have m0 := hG.gq.f.free 0
      have m1 := hG.gq.f.free 1
      obtain ⟨x0, x1⟩ := hG.gq.n.two
      obtain ⟨y0, y1⟩ := hG.gq.f.two
      have i2 : wa.cell? ⟨w.heap.size + 1, 2, none⟩ = some (.int .i64 b) := hG.gq.sq.ins.cell 2 (by decide)
      clear hG
      go_region
      repeat' (first | go_values | go_skip | go_guarded | go_step | go_upon)
      obtain ⟨k1, k2, k3⟩ := goes_fin HG.out.gq (A1, A2) (A1, b - 1)
      refine bodyPost_ret (v := .tuple #[.bool (decide (A1 ≤ A2)), spV (A1, A2), .bool (decide (A1 ≤ b - 1)), spV (A1, b - 1)]) (results_goes rfl _ _ (w.heap.size + 1 + 1) (w.heap.size + 1 + 1 + 1) (.bool (decide (A1 ≤ A2))) (.bool (decide (A1 ≤ b - 1))) (A1, A2) (A1, b - 1) rfl rfl rfl rfl k1 k2) rfl ⟨rfl, k3⟩
    · rw [hm, hn]
      clear hm hn
      go_enter Try.func40, Try.ntmps40
      repeat' (first | go_values | go_skip | go_guarded | go_step | go_upon)
      refine gen_world (G6 w p v (mk5 6 (ka : Int) b c d) (A1, A2) (A1, A2) (A1, A2)) (HG0.out (A1, A2) (A1, A2)) ?_
      clear ea0 ea1 f0 f1 HG0
      intro wa hG
      have HG := Lib.hid hG
      obtain ⟨c0, c1⟩ := hG.b.two
      obtain ⟨d0, d1⟩ := hG.c.two
      have n0 := hG.gq.n.free 0
      have n1 := hG.gq.n.free 1
      have m0 := hG.gq.f.free 0
      have m1 := hG.gq.f.free 1
      obtain ⟨x0, x1⟩ := hG.gq.n.two
      obtain ⟨y0, y1⟩ := hG.gq.f.two
      have i2 : wa.cell? ⟨w.heap.size + 1, 2, none⟩ = some (.int .i64 b) := hG.gq.sq.ins.cell 2 (by decide)
      clear hG
      go_region
      repeat' (first | go_values | go_skip | go_guarded | go_step | go_upon)
      obtain ⟨k1, k2, k3⟩ := goes_fin HG.out.gq (A1, A2) (A1, A2)
      refine bodyPost_ret (v := .tuple #[.bool (decide (A1 ≤ A2)), spV (A1, A2), .bool (decide (A1 ≤ A2)), spV (A1, A2)]) (results_goes rfl _ _ (w.heap.size + 1 + 1) (w.heap.size + 1 + 1 + 1) (.bool (decide (A1 ≤ A2))) (.bool (decide (A1 ≤ A2))) (A1, A2) (A1, A2) rfl rfl rfl rfl k1 k2) rfl ⟨rfl, k3⟩
end Go.Proofs.Ytkhggnlanopgkaa
