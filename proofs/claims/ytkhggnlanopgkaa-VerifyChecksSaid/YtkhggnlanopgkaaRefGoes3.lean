/- Walk: what follows of a move, by the reference. Conditions: the ranges lie in memory. -/
import Derived.Test.YtkhggnlanopgkaaRefGoes
namespace Go.Proofs.Ytkhggnlanopgkaa
open Go.RowKit
set_option maxRecDepth 100000 in
set_option maxHeartbeats 4000000 in
theorem ref_goes3 (p : Prg) (v : PV) (a b c d : Int) (vr : Value) (r : Rg) (w : World) (hr : RowOf spC 2 w vr r) (hr8 : r.length = 8) (ha : 0 ≤ a ∧ a ≤ 7) (hbb : 0 ≤ b ∧ b ≤ 7) :
    Calls Try.prog 40 #[pgV p v, .agg #[.int .i64 3, .int .i64 a, .int .i64 b, .int .i64 c, .int .i64 d], vr] w fun e w' => e = .returned (.tuple #[.bool true, spV (rget r b.toNat), .bool false, spV (rget r a.toNat)]) ∧ Below w.heap.size w w' := by
  obtain ⟨ar, cr, rfl, hcr, hmr, hcell⟩ := hr.open spC_len
  rw [hr8] at hcr hcell ⊢
  rcases hcell with h0 | ⟨br, or', rfl, hbr, hcell⟩
  · omega
  obtain ⟨ka, hka⟩ : ∃ k : Nat, a = (k : Int) := ⟨a.toNat, by omega⟩
  subst hka
  have hka8 : ka < 8 := by omega
  obtain ⟨kb, hkb⟩ : ∃ k : Nat, b = (k : Int) := ⟨b.toNat, by omega⟩
  subst hkb
  have hkb8 : kb < 8 := by omega
  rw [Int.toNat_natCast, Int.toNat_natCast]
  obtain ⟨ea0, ea1⟩ := sp_cells hcell ka (by omega)
  obtain ⟨eb0, eb1⟩ := sp_cells hcell kb (by omega)
  clear hcell hr hr8 ha hbb
  generalize rget r ka = A at ea0 ea1 ⊢
  generalize rget r kb = B at eb0 eb1 ⊢
  have Heb : Hid (∀ w', Below w.heap.size w w' → w'.cell? ⟨br, or' + kb * 2, none⟩ = some (.int .i64 B.1) ∧ w'.cell? ⟨br, or' + kb * 2 + 1, none⟩ = some (.int .i64 B.2)) := Lib.hid fun w' hb => by
    rw [hb.cell (show br < w.heap.size from hbr), hb.cell (show br < w.heap.size from hbr)]; exact ⟨eb0, eb1⟩
  have hb4 : Below w.heap.size w ((((w.alloc (.cells (pgC p v) 30)).alloc (.cells #[.int .i64 3, .int .i64 (ka : Int), .int .i64 (kb : Int), .int .i64 c, .int .i64 d] 39)).alloc (.cells #[.int .i64 0, .int .i64 0] 97)).alloc (.cells #[.int .i64 0, .int .i64 0] 97)) := ((((Below.refl _ _).alloc (Nat.le_refl _) _).alloc (by simp) _).alloc (by simp; omega) _).alloc (by simp; omega) _
  have f0 := ea0
  have f1 := ea1
  rw [← hb4.cell (show br < w.heap.size from hbr)] at f0 f1
  go_enter Try.func40, Try.ntmps40
  repeat' (first | go_values | go_skip | go_guarded | go_step | go_upon)
  refine gen_world (GQ w p v (mk5 3 (ka : Int) (kb : Int) c d) A) (GQ.start w p v (mk5 3 (ka : Int) (kb : Int) c d) A) ?_
  clear ea0 ea1 eb0 eb1 f0 f1 hb4
  intro wa hG
  have HG := Lib.hid hG
  obtain ⟨c0, c1⟩ := hG.t.two
  have n0 := hG.n.free 0
  have n1 := hG.n.free 1
  have m0 := hG.f.free 0
  have m1 := hG.f.free 1
  obtain ⟨x0, x1⟩ := hG.n.two
  obtain ⟨y0, y1⟩ := hG.f.two
  have i2 := hG.sq.ins.cell 2 (by decide)
  have i2' : wa.cell? ⟨w.heap.size + 1, 2, none⟩ = some (.int .i64 (kb : Int)) := i2
  obtain ⟨b0, b1⟩ := Heb.out wa HG.out.sq.bel
  clear hG i2
  go_region
  repeat' (first | go_values | go_skip | go_guarded | go_step | go_upon)
  obtain ⟨k1, k2, k3⟩ := goes_fin HG.out B A
  refine bodyPost_ret (v := .tuple #[.bool true, spV B, .bool false, spV A]) (results_goes rfl _ _ (w.heap.size + 1 + 1) (w.heap.size + 1 + 1 + 1) (.bool true) (.bool false) B A rfl rfl rfl rfl k1 k2) rfl ⟨rfl, k3⟩
end Go.Proofs.Ytkhggnlanopgkaa
