/- Walks: the reference's fields of instructions, and which may be (P21.1). No conditions. -/
import Derived.Test.YtkhggnlanopgkaaIsaRefFld
namespace Go.Proofs.Ytkhggnlanopgkaa
open Go.RowKit
set_option maxRecDepth 100000 in
theorem ref_Value (v : Nat → Int) (x : Nat) (hx : IsL x) (w : World) : Calls Try.prog 37 #[vI v, .int .u8 (rlet x : Nat)] w fun e w' => e = .returned (.int .i64 (v (pos x))) ∧ Below w.heap.size w w' := by
  rcases hx with rfl | rfl | rfl | rfl | rfl | rfl
  all_goals
    go_enter Try.func37, Try.ntmps37
    repeat' (first | go_values | go_skip | go_guarded | go_step | go_upon)
    go_ret
    exact ⟨rfl, (Below.refl _ _).alloc (Nat.le_refl _) _⟩
set_option maxRecDepth 100000 in
theorem ref_Most (x : Nat) (hx : IsL x) (w : World) : Calls Try.prog 38 #[.int .u8 (rlet x : Nat)] w fun e w' => e = .returned (.int .i64 (mst x : Nat)) ∧ w = w' := by
  rcases hx with rfl | rfl | rfl | rfl | rfl | rfl
  all_goals
    go_enter Try.func38, Try.ntmps38
    repeat' (first | go_values | go_skip | go_guarded | go_step | go_upon)
    go_ret
    exact ⟨rfl, rfl⟩
theorem InsAt.new1 (w : World) (o : Obj) (u : Nat → Int) : InsAt ((w.alloc o).alloc (.cells (ic u) 39)) (w.heap.size + 1) u := by
  have h := InsAt.new (w.alloc o) u
  rwa [World.size_alloc] at h
theorem new1_heap (w : World) (o : Obj) (cs : Array Value) (t : TypeId) : ((w.alloc o).alloc (.cells cs t)).heap[w.heap.size + 1]? = some (.cells cs t (0, 0)) := by
  have h := Go.heap_alloc_new (w.alloc o) (.cells cs t)
  rwa [World.size_alloc] at h
set_option maxRecDepth 100000 in
theorem ref_With (u : Nat → Int) (x : Nat) (hx : IsL x) (a : Int) (w : World) : Calls Try.prog 39 #[vI u, .int .u8 (rlet x : Nat), .int .i64 a] w fun e w' => e = .returned (vI (upd u (pos x) a)) ∧ Below w.heap.size w w' := by
  rcases hx with rfl | rfl | rfl | rfl | rfl | rfl
  all_goals
    go_enter Try.func39, Try.ntmps39
    repeat' (first | go_values | go_skip | go_guarded | go_step | go_upon)
    refine bodyPost_ret (v := .agg #[_, _, _, _, _]) (results_cell_row rfl _ _ (w.heap.size + 1) 39 #[_, _, _, _, _] (0, 0) _ rfl (new1_heap _ _ _ _) Try.underlying39 rfl info_ins) rfl ⟨by simp [upd, pos], ((Below.refl _ _).alloc (Nat.le_refl _) _).alloc (by simp) _⟩
end Go.Proofs.Ytkhggnlanopgkaa
