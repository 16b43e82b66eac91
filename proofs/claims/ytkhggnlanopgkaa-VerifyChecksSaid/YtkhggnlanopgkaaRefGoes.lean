/- Walk: what follows of an instruction, by the reference. Conditions: program and ranges lie in memory, the program is whole. -/
import Derived.Test.YtkhggnlanopgkaaRefSafe
namespace Go.Proofs.Ytkhggnlanopgkaa
open Go.RowKit
/-- a variable that holds a range -/
def SpAt (w : World) (g : Nat) (s : Int × Int) : Prop := w.heap[g]? = some (.cells #[.int .i64 s.1, .int .i64 s.2] 97 (0, 0))
theorem SpAt.lt {w : World} {g : Nat} {s : Int × Int} (h : SpAt w g s) : g < w.heap.size := (Array.getElem?_eq_some_iff.1 h).1
theorem SpAt.keep {w w' : World} {g : Nat} {s : Int × Int} (h : SpAt w g s) (hb : Below w.heap.size w w') : SpAt w' g s := by
  unfold SpAt; rw [hb.block g h.lt]; exact h
theorem SpAt.two {w : World} {g : Nat} {s : Int × Int} (h : SpAt w g s) : w.cell? ⟨g, 0, none⟩ = some (.int .i64 s.1) ∧ w.cell? ⟨g, 1, none⟩ = some (.int .i64 s.2) := ⟨cell_of_row w g 0 _ _ _ h, cell_of_row w g 1 _ _ _ h⟩
theorem SpAt.free {w : World} {g : Nat} {s : Int × Int} (h : SpAt w g s) (k : Nat) : w.frozen? ⟨g, k, none⟩ = false := frozen_of_row _ _ _ _ _ h
theorem SpAt.new (w : World) (s : Int × Int) : SpAt (w.alloc (.cells #[.int .i64 s.1, .int .i64 s.2] 97)) w.heap.size s := Go.heap_alloc_new _ _
/-- program, instruction and ranges in the call's own variables -/
structure GQ (w0 : World) (p : Prg) (v : PV) (x : Nat → Int) (A : Int × Int) (w : World) : Prop where
  sq : SQ w0 p v x w
  n : SpAt w (w0.heap.size + 1 + 1) (0, 0)
  f : SpAt w (w0.heap.size + 1 + 1 + 1) (0, 0)
  t : SpAt w (w0.heap.size + 1 + 1 + 1 + 1) A
theorem GQ.start (w : World) (p : Prg) (v : PV) (x : Nat → Int) (A : Int × Int) : GQ w p v x A (((((w.alloc (.cells (pgC p v) 30)).alloc (.cells (ic x) 39)).alloc (.cells #[.int .i64 0, .int .i64 0] 97)).alloc (.cells #[.int .i64 0, .int .i64 0] 97)).alloc (.cells #[.int .i64 A.1, .int .i64 A.2] 97)) := by
  have al : ∀ (w : World) (o : Obj), Below w.heap.size w (w.alloc o) := fun w o => (Below.refl _ _).alloc (Nat.le_refl _) _
  have h0 := SQ.start w p v x
  generalize hwq : (w.alloc (.cells (pgC p v) 30)).alloc (.cells (ic x) 39) = wq at h0 ⊢
  have hs : wq.heap.size = w.heap.size + 1 + 1 := by rw [← hwq, World.size_alloc, World.size_alloc]
  have h1 := SpAt.new wq (0, 0)
  have h2 := SpAt.new (wq.alloc (.cells #[.int .i64 0, .int .i64 0] 97)) (0, 0)
  have h3 := SpAt.new ((wq.alloc (.cells #[.int .i64 0, .int .i64 0] 97)).alloc (.cells #[.int .i64 0, .int .i64 0] 97)) A
  rw [World.size_alloc] at h2
  rw [World.size_alloc, World.size_alloc] at h3
  rw [hs] at h1 h2 h3
  exact ⟨((h0.step (al _ _)).step (al _ _)).step (al _ _), (h1.keep (al _ _)).keep (al _ _), h2.keep (al _ _), h3⟩
/-- a range stored whole -/
abbrev put2 (w : World) (g : Nat) (s : Int × Int) : World := (w.setCell ⟨g, 0, none⟩ (.int .i64 s.1)).setCell ⟨g, 1, none⟩ (.int .i64 s.2)
theorem SpAt.put {w : World} {g : Nat} {z : Int × Int} (h : SpAt w g z) (s : Int × Int) : SpAt (put2 w g s) g s := by
  unfold SpAt at h ⊢
  have h1 : (w.setCell ⟨g, 0, none⟩ (.int .i64 s.1)).heap[g]? = some (.cells #[.int .i64 s.1, .int .i64 z.2] 97 (0, 0)) := by
    rw [setCell_eq_setRow w g 0 _ _ _ (.int .i64 s.1) h, setRow_heap _ _ _ _ _ _ h]; simp
  show ((w.setCell ⟨g, 0, none⟩ (.int .i64 s.1)).setCell ⟨g, 1, none⟩ (.int .i64 s.2)).heap[g]? = _
  rw [setCell_eq_setRow _ g 1 _ _ _ (.int .i64 s.2) h1, setRow_heap _ _ _ _ _ _ h1]; simp
theorem SpAt.other {w : World} {g g' : Nat} {z s : Int × Int} (h : SpAt w g z) (hg : g ≠ g') : SpAt (put2 w g' s) g z := by
  unfold SpAt at h ⊢
  rw [heap_setCell_other _ _ _ _ (by exact hg), heap_setCell_other _ _ _ _ (by exact hg)]; exact h
theorem goes_fin {w wa : World} {p : Prg} {v : PV} {x : Nat → Int} {A : Int × Int} (h : GQ w p v x A wa) (N F : Int × Int) :
    SpAt (put2 (put2 wa (w.heap.size + 1 + 1) N) (w.heap.size + 1 + 1 + 1) F).drew (w.heap.size + 1 + 1) N ∧ SpAt (put2 (put2 wa (w.heap.size + 1 + 1) N) (w.heap.size + 1 + 1 + 1) F).drew (w.heap.size + 1 + 1 + 1) F ∧ Below w.heap.size w (put2 (put2 wa (w.heap.size + 1 + 1) N) (w.heap.size + 1 + 1 + 1) F).drew :=
  ⟨(h.n.put N).other (by omega), (h.f.other (by omega)).put F, ((((h.sq.bel.setCell (by simp; omega) _).setCell (by simp; omega) _).setCell (by simp; omega) _).setCell (by simp; omega) _).drew⟩
theorem info_sp : (Try.prog.info? 97).map (fun i => i.size) = some 2 := by kernel_rfl
theorem results_goes {fn : Func} (h : fn.results = #[.tmp 6, .cell 7 97, .tmp 8, .cell 9 97]) (tmps : Array Value) (w : World) (g7 g9 : Nat) (n f : Value) (N F : Int × Int)
    (h6 : tmps.getD 6 undef = n) (h7 : tmps.getD 7 undef = .pointer (some ⟨g7, 0, none⟩)) (h8 : tmps.getD 8 undef = f) (h9 : tmps.getD 9 undef = .pointer (some ⟨g9, 0, none⟩)) (hN : SpAt w g7 N) (hF : SpAt w g9 F) :
    (results fn tmps).run Try.prog w = .ok (.tuple #[n, spV N, f, spV F]) w := by
  have h6' : tmps[6]?.getD undef = n := by simpa using h6
  have h7' : tmps[7]?.getD undef = .pointer (some ⟨g7, 0, none⟩) := by simpa using h7
  have h8' : tmps[8]?.getD undef = f := by simpa using h8
  have h9' : tmps[9]?.getD undef = .pointer (some ⟨g9, 0, none⟩) := by simpa using h9
  have r1 := run_loadVar_row (P := Try.prog) w g7 97 97 #[.int .i64 N.1, .int .i64 N.2] (0, 0) _ hN Try.underlying97 rfl info_sp
  have r2 := run_loadVar_row (P := Try.prog) w g9 97 97 #[.int .i64 F.1, .int .i64 F.2] (0, 0) _ hF Try.underlying97 rfl info_sp
  simp [results, h, h6', h7', h8', h9', asAddr, r1, r2]
end Go.Proofs.Ytkhggnlanopgkaa
