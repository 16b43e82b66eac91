/- Walks: which operations there are, their words and fields, where a field stands (isa.known, isa.forms, isa.field). No conditions. -/
import Derived.Test.YtkhggnlanopgkaaIsaSpec
import Derived.Test.YtkhggnlanopgkaaTail
import Derived.Test.YtkhggnlanopgkaaProg
import Derived.Deep.WholeRow
import Derived.Laws.StructEq
import Derived.Lib.OthersKept
import Derived.WalkSmall
namespace Go.Proofs.Ytkhggnlanopgkaa
open Go.RowKit
theorem Below.row {B g : Nat} {w0 w : World} (hb : Below B w0 w) (hBg : B ≤ g) (cs : Array Value) : Below B w0 (w.setRow g cs) :=
  hb.trans ⟨rfl, rfl, rfl, by simp, fun k hk => setRow_other _ _ _ _ (by omega)⟩
theorem isa_known (a : Int) (w : World) : Calls Try.prog 58 #[.int .i64 a] w fun e w' => e = .returned (.bool (decide (1 ≤ a) && decide (a ≤ 17))) ∧ w = w' := by
  by_cases h1 : 1 ≤ a
  · by_cases h2 : a ≤ 17
    · go_enter Try.func58, Try.ntmps58
      repeat' (first | go_values | go_skip | go_guarded | go_step | go_upon)
      go_ret
      exact ⟨ret_b (by simp [h1, h2]), rfl⟩
    · go_enter Try.func58, Try.ntmps58
      repeat' (first | go_values | go_skip | go_guarded | go_step | go_upon)
      go_ret
      exact ⟨ret_b (by simp [h1, h2]), rfl⟩
  · go_enter Try.func58, Try.ntmps58
    repeat' (first | go_values | go_skip | go_guarded | go_step | go_upon)
    go_ret
    exact ⟨ret_b (by simp [h1]), rfl⟩
set_option maxRecDepth 100000 in
theorem isa_field (x : Nat) (hx : IsL x) (g : Nat) (w : World) : Calls Try.prog 60 #[.pointer (some ⟨g, 0, none⟩), .int .i32 (x : Int)] w fun e w' =>
    e = .returned (.tuple #[.pointer (some ⟨g, pos x, none⟩), .int .i64 (mst x : Nat), .string (bsT (sgn x))]) ∧ w = w' := by
  rcases hx with rfl | rfl | rfl | rfl | rfl | rfl
  all_goals
    go_enter Try.func60, Try.ntmps60
    repeat' (first | go_values | go_skip | go_guarded | go_step | go_upon)
    go_ret3
    exact ⟨rfl, rfl⟩
theorem info_forms : (Try.prog.info? 112).map (fun i => i.size) = some 36 := by kernel_rfl
/-- what isa.forms hands back -/
def formsC : Array Value := #[.string ⟨#[]⟩, .string ⟨#[]⟩, .string ⟨#[104, 97, 108, 116]⟩, .string ⟨#[]⟩, .string ⟨#[108, 111, 97, 100]⟩, .string ⟨#[114, 110]⟩, .string ⟨#[109, 111, 118, 101]⟩, .string ⟨#[114, 82]⟩, .string ⟨#[106, 117, 109, 112]⟩, .string ⟨#[64]⟩, .string ⟨#[115, 97, 109, 101]⟩, .string ⟨#[114, 110, 64]⟩, .string ⟨#[108, 101, 115, 115]⟩, .string ⟨#[114, 110, 64]⟩, .string ⟨#[110, 101, 120, 116]⟩, .string ⟨#[114, 64]⟩, .string ⟨#[108, 111, 111, 107]⟩, .string ⟨#[114, 82, 116]⟩, .string ⟨#[109, 97, 114, 107]⟩, .string ⟨#[109]⟩, .string ⟨#[98, 97, 99, 107]⟩, .string ⟨#[109]⟩, .string ⟨#[104, 101, 114, 101]⟩, .string ⟨#[109, 64]⟩, .string ⟨#[99, 111, 112, 121]⟩, .string ⟨#[114]⟩, .string ⟨#[116, 101, 120, 116]⟩, .string ⟨#[114, 82]⟩, .string ⟨#[116, 117, 114, 110]⟩, .string ⟨#[]⟩, .string ⟨#[115, 105, 103, 110]⟩, .string ⟨#[114]⟩, .string ⟨#[106, 111, 105, 110]⟩, .string ⟨#[]⟩, .string ⟨#[101, 109, 105, 116]⟩, .string ⟨#[114]⟩]
theorem forms_at (o : Nat) (h1 : 1 ≤ o) (h2 : o ≤ 17) (w : World) : (Instr.index 112 (.agg formsC) (.int .i64 (o : Int))).run Try.prog w = .ok (.agg #[.string (bsT (wrd o)), .string (bsT (letr o))]) w := by
  rcases (by omega : o = 1 ∨ o = 2 ∨ o = 3 ∨ o = 4 ∨ o = 5 ∨ o = 6 ∨ o = 7 ∨ o = 8 ∨ o = 9 ∨ o = 10 ∨ o = 11 ∨ o = 12 ∨ o = 13 ∨ o = 14 ∨ o = 15 ∨ o = 16 ∨ o = 17) with rfl | rfl | rfl | rfl | rfl | rfl | rfl | rfl | rfl | rfl | rfl | rfl | rfl | rfl | rfl | rfl | rfl
  all_goals kernel_rfl
theorem field_form (a b : ByteArray) (w : World) : (Instr.field 111 (.agg #[.string a, .string b]) 1).run Try.prog w = .ok (.string b) w := by kernel_rfl
abbrev zeroF : Array Value := #[.string ⟨#[]⟩, .string ⟨#[]⟩, .string ⟨#[]⟩, .string ⟨#[]⟩, .string ⟨#[]⟩, .string ⟨#[]⟩, .string ⟨#[]⟩, .string ⟨#[]⟩, .string ⟨#[]⟩, .string ⟨#[]⟩, .string ⟨#[]⟩, .string ⟨#[]⟩, .string ⟨#[]⟩, .string ⟨#[]⟩, .string ⟨#[]⟩, .string ⟨#[]⟩, .string ⟨#[]⟩, .string ⟨#[]⟩, .string ⟨#[]⟩, .string ⟨#[]⟩, .string ⟨#[]⟩, .string ⟨#[]⟩, .string ⟨#[]⟩, .string ⟨#[]⟩, .string ⟨#[]⟩, .string ⟨#[]⟩, .string ⟨#[]⟩, .string ⟨#[]⟩, .string ⟨#[]⟩, .string ⟨#[]⟩, .string ⟨#[]⟩, .string ⟨#[]⟩, .string ⟨#[]⟩, .string ⟨#[]⟩, .string ⟨#[]⟩, .string ⟨#[]⟩]
theorem forms_one : formsC.all (·.oneCell') = true := by kernel_rfl
theorem store_forms {o : Oper} {a : Act} {w : World} {K : Act → World → Prop} {Q : Exit → Act → World → Prop} (x y : Operand) (ho : o.op = .store 112 x y)
    (hx : a.eval x = .pointer (some ⟨w.heap.size, 0, none⟩)) (hy : a.eval y = .agg formsC) (h : K (a.put o.dst undef) ((w.alloc (.cells zeroF 112)).setRow w.heap.size formsC)) : o.wp Try.prog a (w.alloc (.cells zeroF 112)) K Q :=
  wp_store_row _ x y ho w.heap.size formsC hx hy 112 zeroF (Go.heap_alloc_new _ _) info_forms rfl forms_one h
set_option maxRecDepth 100000 in
set_option maxHeartbeats 1000000 in
theorem isa_forms (w : World) : Calls Try.prog 59 #[] w fun e w' => e = .returned (.agg formsC) ∧ Below w.heap.size w w' := by
  go_enter Try.func59, Try.ntmps59
  repeat' (first | (refine store_forms _ _ rfl rfl rfl ?_) | go_values | go_skip | go_guarded | go_step | go_upon)
  refine bodyPost_ret (v := .agg formsC) (results_cell_row rfl _ _ w.heap.size 112 formsC (0, 0) _ rfl (setRow_heap _ _ _ _ _ _ (Go.heap_alloc_new _ _)) Try.underlying112 rfl info_forms) rfl ⟨rfl, ?_⟩
  exact Below.row ((Below.refl _ _).alloc (Nat.le_refl _) _) (Nat.le_refl _) _
end Go.Proofs.Ytkhggnlanopgkaa
