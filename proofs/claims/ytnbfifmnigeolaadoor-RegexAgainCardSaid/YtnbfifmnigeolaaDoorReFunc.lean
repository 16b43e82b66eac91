/- Walk: slices.IndexFunc and slices.ContainsFunc over a row of trees, whatever the predicate. No conditions. -/
import Derived.Test.YtnbfifmnigeolaaDoorReSpec
import Derived.Laws.Cells
import Derived.Shelf.Abstract
namespace Go.Proofs.YtnbfifmnigeolaaDoor
open Go.RowKit Go.Lib
def reV (r : RN) : Value := .agg (reC r).toArray
/-- an element's cells -/
def Cells8 (w : World) (b n : Nat) (r : RN) : Prop :=
  w.cell? ⟨b, n, none⟩ = some (.int .i64 r.k) ∧ w.cell? ⟨b, n + 1, none⟩ = some (.int .u64 (r.s.1 : Nat)) ∧ w.cell? ⟨b, n + 2, none⟩ = some (.int .u64 (r.s.2.1 : Nat)) ∧ w.cell? ⟨b, n + 3, none⟩ = some (.int .u64 (r.s.2.2.1 : Nat)) ∧
    w.cell? ⟨b, n + 4, none⟩ = some (.int .u64 (r.s.2.2.2 : Nat)) ∧ w.cell? ⟨b, n + 5, none⟩ = some (.int .i64 r.mn) ∧ w.cell? ⟨b, n + 6, none⟩ = some (.int .i64 r.mx) ∧ w.cell? ⟨b, n + 7, none⟩ = some r.v
theorem row_load {w : World} {b off : Nat} {rs : List RN} (h : ∀ (i : Nat) (x : RN) (j : Nat), rs[i]? = some x → j < 8 → w.cell? ⟨b, off + (i * 8 + j), none⟩ = (reC x)[j]?) {i : Nat} {r : RN} (hi : rs[i]? = some r) : Cells8 w b (off + i * 8) r := by
  have hj := fun j (hj : j < 8) => h i r j hi hj
  simp only [← Nat.add_assoc] at hj
  exact ⟨hj 0 (by omega), hj 1 (by omega), hj 2 (by omega), hj 3 (by omega), hj 4 (by omega), hj 5 (by omega), hj 6 (by omega), hj 7 (by omega)⟩
theorem Cells8.keep {w w' : World} {B b n : Nat} {r : RN} (h : Cells8 w b n r) (hb : Below B w w') (hB : b < B) : Cells8 w' b n r := by
  obtain ⟨c0, c1, c2, c3, c4, c5, c6, c7⟩ := h
  have hc : ∀ k, w'.cell? ⟨b, k, none⟩ = w.cell? ⟨b, k, none⟩ := fun k => hb.cell (p := ⟨b, k, none⟩) hB
  exact ⟨by rw [hc]; exact c0, by rw [hc]; exact c1, by rw [hc]; exact c2, by rw [hc]; exact c3, by rw [hc]; exact c4, by rw [hc]; exact c5, by rw [hc]; exact c6, by rw [hc]; exact c7⟩
theorem alloc_setRow (w : World) (old cs : Array Value) (t : TypeId) (fr : Nat × Nat) : (w.alloc (.cells old t fr)).setRow w.heap.size cs = w.alloc (.cells cs t fr) := by
  unfold World.setRow World.alloc
  congr 1
  apply Array.ext_getElem?
  intro i
  rw [Array.getElem?_modify]
  by_cases h : w.heap.size = i
  · subst h; simp
  · rw [if_neg h, Array.getElem?_push, Array.getElem?_push, if_neg (by omega), if_neg (by omega)]
/-- a store of a whole value into a variable just laid -/
theorem store_new {P : Program} {o : Oper} {a : Act} {w : World} {K : Act → World → Prop} {Q : Exit → Act → World → Prop} (ty : TypeId) (x y : Operand) (cells : Array Value) {old : Array Value} (ho : o.op = .store ty x y)
    (hx : a.eval x = .pointer (some ⟨w.heap.size, 0, none⟩)) (hy : a.eval y = .agg cells) (hi : (P.info? ty).map (·.size) = some cells.size) (hold : old.size = cells.size) (h1 : cells.all (·.oneCell') = true)
    (h : K (a.put o.dst undef) (w.alloc (.cells cells ty))) : o.wp P a (w.alloc (.cells old ty)) K Q :=
  wp_store_row ty x y ho w.heap.size cells hx hy ty old (Go.heap_alloc_new _ _) hi hold h1 (by rw [alloc_setRow]; exact h)
theorem info_re : (Tryd.prog.info? 28).map (·.size) = some 8 := by kernel_rfl
theorem RowOf.one {w : World} {v : Value} {rs : List RN} (h : RowOf reC 8 w v rs) : v.oneCell' = true := by
  obtain ⟨a, cap, rfl, _⟩ := h.open reC_length
  rfl
theorem ReAt.one {w : World} {h : Nat} {r : RN} {t : Re} (hr : ReAt w h r t) : r.v.oneCell' = true := by
  cases h with
  | zero => exact hr.elim
  | succ h =>
    obtain ⟨k, s, mn, mx, kids⟩ := t
    obtain ⟨_, _, _, rs, h4, _⟩ := hr
    exact h4.one
theorem one_int (k : IntKind) (n : Int) : (Value.int k n).oneCell' = true := rfl
theorem re_one {r : RN} (h : r.v.oneCell' = true) : (reC r).toArray.all (·.oneCell') = true := by simp [reC, h, one_int]
/-- a tree stored into a variable just laid -/
theorem store_re {o : Oper} {a : Act} {w : World} {K : Act → World → Prop} {Q : Exit → Act → World → Prop} {r : RN} (hr : r.v.oneCell' = true) (x y : Operand) {old : Array Value} (ho : o.op = .store 28 x y)
    (hx : a.eval x = .pointer (some ⟨w.heap.size, 0, none⟩)) (hy : a.eval y = reV r) (hold : old.size = 8)
    (h : K (a.put o.dst undef) (w.alloc (.cells (reC r).toArray 28))) : o.wp Tryd.prog a (w.alloc (.cells old 28)) K Q :=
  store_new 28 x y _ ho hx hy info_re hold (re_one hr) h
theorem RowOf.lenOk {w : World} {v : Value} {rs : List RN} (h : RowOf reC 8 w v rs) : rs.length ≤ 9223372036854775807 := by
  obtain ⟨a, cap, _, h1, h2, _⟩ := h.open reC_length
  unfold maxLen at h2
  omega
section
variable (p : Nat → Bool) (g : Nat) (lb : Array Value)
set_option maxRecDepth 100000 in
theorem index_re (eg : ∀ args w, (callFunc g args).run Tryd.prog w = .ok (.enter g args) w) (rs : List RN) (v : Value) (w : World) (hrow : RowOf reC 8 w v rs)
    (hp : ∀ W, Below w.heap.size w W → ∀ (i : Nat) r, rs[i]? = some r → Calls Tryd.prog g (#[reV r] ++ lb) W fun e w' => e = .returned (.bool (p i)) ∧ Below W.heap.size W w') :
    Calls Tryd.prog 52 #[v, .func (.func g) #[] lb] w fun e w' => (∃ n : Int, e = .returned (.int .i64 n) ∧ (0 ≤ n ↔ ∃ i, i < rs.length ∧ p i = true)) ∧ Below w.heap.size w w' := by
  have hlen := hrow.lenOk
  obtain ⟨a, cap, rfl, _, _, hc⟩ := hrow.open reC_length
  go_enter Tryd.func52, Tryd.ntmps52
  repeat' (first | go_values | go_skip | go_guarded | go_step | go_upon)
  go_loopw [5, 8] (fun _ s8 w' => ∃ k : Nat, s8 = .int .i64 k ∧ k ≤ rs.length ∧ Hid (∀ j, j < k → p j = false) ∧ Hid (Below w.heap.size w w')) (fun _ s8 _ => rs.length - (intOf s8).toNat)
  case atStart => exact ⟨0, rfl, Nat.zero_le _, Lib.hid (fun j hj => absurd hj (Nat.not_lt_zero _)), Lib.hid (Below.refl _ _)⟩
  case round =>
    obtain ⟨k, rfl, hk, HA, HB⟩ := hrel
    by_cases hlt : k < rs.length
    · have hlt' : (k : Int) < rs.length := by omega
      rcases hc with hc | ⟨b, off, rfl, hb, hc⟩
      · omega
      obtain ⟨r, hr⟩ : ∃ r, rs[k]? = some r := ⟨_, List.getElem?_eq_getElem hlt⟩
      obtain ⟨c0, c1, c2, c3, c4, c5, c6, c7⟩ := (row_load hc hr).keep HB.out hb
      have hcall := hp _ HB.out k r hr
      simp only [reV, reC] at hcall
      obtain ⟨x, hx⟩ : ∃ x, p k = x := ⟨_, rfl⟩
      rw [hx] at hcall
      have Hx := Lib.hid hx
      clear hp hc hx
      cases x with
      | true =>
        repeat' (first | (go_at_fn g; refine hcall.mono ?_; rintro e w1 ⟨rfl, hb1⟩; dsimp only) | go_values | go_skip | go_guarded | go_step | go_upon)
        go_ret
        exact ⟨⟨k, rfl, by simp only [Int.natCast_nonneg, true_iff]; exact ⟨k, hlt, Hx.out⟩⟩, HB.out.trans (hb1.mono HB.out.size)⟩
      | false =>
        repeat' (first | (go_at_fn g; refine hcall.mono ?_; rintro e w1 ⟨rfl, hb1⟩; dsimp only) | go_values | go_skip | go_guarded | go_step | go_upon)
        go_roundw
        · exact ⟨k + 1, by go_num, by omega, Lib.hid (fun j hj => by
            rcases Nat.lt_or_ge j k with h | h
            · exact HA.out j h
            · rw [show j = k by omega]; exact Hx.out), Lib.hid (HB.out.trans (hb1.mono HB.out.size))⟩
        · simp [intOf]; omega
    · have hlt' : ¬ (k : Int) < rs.length := by omega
      have Hk : Hid (k = rs.length) := Lib.hid (by omega)
      repeat' (first | go_values | go_skip | go_guarded | go_step | go_upon)
      go_ret
      refine ⟨⟨-1, rfl, ?_⟩, HB.out⟩
      constructor
      · intro h; omega
      · rintro ⟨i, hi, h⟩
        rw [HA.out i (by have := Hk.out; omega)] at h; cases h
set_option maxRecDepth 100000 in
theorem contains_re (eg : ∀ args w, (callFunc g args).run Tryd.prog w = .ok (.enter g args) w) (rs : List RN) (v : Value) (w : World) (hrow : RowOf reC 8 w v rs)
    (hp : ∀ W, Below w.heap.size w W → ∀ (i : Nat) r, rs[i]? = some r → Calls Tryd.prog g (#[reV r] ++ lb) W fun e w' => e = .returned (.bool (p i)) ∧ Below W.heap.size W w') :
    Calls Tryd.prog 31 #[v, .func (.func g) #[] lb] w fun e w' => e = .returned (.bool ((List.range rs.length).any p)) ∧ Below w.heap.size w w' := by
  have hidx := index_re p g lb eg rs v w hrow hp
  clear hp hrow
  obtain ⟨B, hB⟩ : ∃ B, (List.range rs.length).any p = B := ⟨_, rfl⟩
  rw [hB]
  have HB := Lib.hid hB
  clear hB
  go_enter Tryd.func31, Tryd.ntmps31
  repeat' (first | go_values | go_skip | go_guarded | go_step | go_upon)
  refine Calls.mono (hidx) ?_
  rintro _ w1 ⟨⟨n, rfl, hn⟩, hb1⟩
  dsimp only
  have e : B = decide (0 ≤ n) := by
    rw [← HB.out, Bool.eq_iff_iff, List.any_eq_true, decide_eq_true_iff, hn]
    exact ⟨fun ⟨i, hi, h⟩ => ⟨i, List.mem_range.1 hi, h⟩, fun ⟨i, hi, h⟩ => ⟨i, List.mem_range.2 hi, h⟩⟩
  have He := Lib.hid e
  clear hn e HB
  repeat' (first | go_values | go_skip | go_guarded | go_step | go_upon)
  go_ret
  exact ⟨by rw [He.out]; rfl, hb1⟩
end
end Go.Proofs.YtnbfifmnigeolaaDoor
