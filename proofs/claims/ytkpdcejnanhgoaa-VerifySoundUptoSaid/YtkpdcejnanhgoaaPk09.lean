/- Walks: slices.IndexFunc and slices.ContainsFunc over rows of numbers and of texts, whatever the predicate. No conditions. -/
import Derived.Test.YtkpdcejnanhgoaaPk04
import Derived.Test.YtkpdcejnanhgoaaPk03
import Derived.Test.YtkpdcejnanhgoaaProg
import Derived.Laws.Cells
import Derived.Shelf.Abstract
namespace Go.Proofs.Ytkpdcejnanhgoaa
open Go.RowKit Go.Lib
set_option maxRecDepth 100000 in
theorem index_int {α : Type} (c : α → Value) (p : Nat → Bool) (g : Nat) (lb : Array Value) (eg : ∀ args w, (callFunc g args).run Try.prog w = .ok (.enter g args) w) (l : List α) (v : Value) (w : World) (hrow : RowOf (fun x => [c x]) 1 w v l)
    (hp : ∀ W, Below w.heap.size w W → ∀ (i : Nat) x, l[i]? = some x → Calls Try.prog g (#[c x] ++ lb) W fun e w' => e = .returned (.bool (p i)) ∧ Below W.heap.size W w') :
    Calls Try.prog 39 #[v, .func (.func g) #[] lb] w fun e w' => (∃ n : Int, e = .returned (.int .i64 n) ∧ (0 ≤ n ↔ ∃ i, i < l.length ∧ p i = true)) ∧ Below w.heap.size w w' := by
  obtain ⟨a, cap, rfl, hcp, hmx, hc⟩ := hrow.open (f := fun x => [c x]) (sz := 1) (fun _ => rfl)
  unfold maxLen at hmx
  go_enter Try.func39, Try.ntmps39
  repeat' (first | go_values | go_skip | go_guarded | go_step | go_upon)
  go_loopw [5, 8] (fun _ s8 w' => ∃ k : Nat, s8 = .int .i64 k ∧ k ≤ l.length ∧ Hid (∀ j, j < k → p j = false) ∧ Hid (Below w.heap.size w w')) (fun _ s8 _ => l.length - (intOf s8).toNat)
  case atStart => exact ⟨0, rfl, Nat.zero_le _, Lib.hid (fun j hj => absurd hj (Nat.not_lt_zero _)), Lib.hid (Below.refl _ _)⟩
  case round =>
    obtain ⟨k, rfl, hk, HA, HB⟩ := hrel
    by_cases hlt : k < l.length
    · have hlt' : (k : Int) < l.length := by omega
      rcases hc with hc | ⟨b, off, rfl, hb, hc⟩
      · omega
      obtain ⟨x, hr⟩ : ∃ x, l[k]? = some x := ⟨_, List.getElem?_eq_getElem hlt⟩
      have c0 := hc k x 0 hr (by decide)
      rw [Nat.mul_one, Nat.add_zero, ← HB.out.cell (show b < w.heap.size from hb)] at c0
      have c0 : wr.cell? ⟨b, off + k, none⟩ = some (c x) := c0
      have hcall := hp _ HB.out k x hr
      obtain ⟨y, hy⟩ : ∃ y, p k = y := ⟨_, rfl⟩
      rw [hy] at hcall
      have Hx := Lib.hid hy
      clear hp hc hy
      cases y with
      | true =>
        repeat' (first | (go_at_fn g; refine hcall.mono ?_; rintro e w1 ⟨rfl, hb1⟩; dsimp only) | go_values | go_skip | go_guarded | go_step | go_upon)
        go_ret
        exact ⟨⟨k, rfl, by simp only [Int.natCast_nonneg, true_iff]; exact ⟨k, hlt, Hx.out⟩⟩, HB.out.trans (hb1.mono HB.out.size)⟩
      | false =>
        repeat' (first | (go_at_fn g; refine hcall.mono ?_; rintro e w1 ⟨rfl, hb1⟩; dsimp only) | go_values | go_skip | go_guarded | go_step | go_upon)
        go_roundw
        · exact ⟨k + 1, by go_num, by omega, Lib.hid (fun j hj => by
            rcases Nat.lt_or_ge j k with h | h
            · exact HA.out j h
            · rw [show j = k by omega]; exact Hx.out), Lib.hid (HB.out.trans (hb1.mono HB.out.size))⟩
        · simp [intOf]; omega
    · have hlt' : ¬ (k : Int) < l.length := by omega
      have Hk : Hid (k = l.length) := Lib.hid (by omega)
      repeat' (first | go_values | go_skip | go_guarded | go_step | go_upon)
      go_ret
      refine ⟨⟨-1, rfl, ?_⟩, HB.out⟩
      constructor
      · intro h; omega
      · rintro ⟨i, hi, h⟩
        rw [HA.out i (by have := Hk.out; omega)] at h; cases h
set_option maxRecDepth 100000 in
theorem contains_int {α : Type} (c : α → Value) (p : Nat → Bool) (g : Nat) (lb : Array Value) (eg : ∀ args w, (callFunc g args).run Try.prog w = .ok (.enter g args) w) (l : List α) (v : Value) (w : World) (hrow : RowOf (fun x => [c x]) 1 w v l)
    (hp : ∀ W, Below w.heap.size w W → ∀ (i : Nat) x, l[i]? = some x → Calls Try.prog g (#[c x] ++ lb) W fun e w' => e = .returned (.bool (p i)) ∧ Below W.heap.size W w') :
    Calls Try.prog 16 #[v, .func (.func g) #[] lb] w fun e w' => e = .returned (.bool ((List.range l.length).any p)) ∧ Below w.heap.size w w' := by
  have hidx := index_int c p g lb eg l v w hrow hp
  clear hp hrow
  obtain ⟨B, hB⟩ : ∃ B, (List.range l.length).any p = B := ⟨_, rfl⟩
  rw [hB]
  have HB := Lib.hid hB
  clear hB
  go_enter Try.func16, Try.ntmps16
  repeat' (first | go_values | go_skip | go_guarded | go_step | go_upon)
  refine Calls.mono (hidx) ?_
  rintro _ w1 ⟨⟨n, rfl, hn⟩, hb1⟩
  dsimp only
  have e : B = decide (0 ≤ n) := by
    rw [← HB.out, Bool.eq_iff_iff, List.any_eq_true, decide_eq_true_iff, hn]
    exact ⟨fun ⟨i, hi, h⟩ => ⟨i, List.mem_range.1 hi, h⟩, fun ⟨i, hi, h⟩ => ⟨i, List.mem_range.2 hi, h⟩⟩
  have He := Lib.hid e
  clear hn e HB
  repeat' (first | go_values | go_skip | go_guarded | go_step | go_upon)
  go_ret
  exact ⟨by rw [He.out]; rfl, hb1⟩
set_option maxRecDepth 100000 in
theorem index_str {α : Type} (c : α → Value) (p : Nat → Bool) (g : Nat) (lb : Array Value) (eg : ∀ args w, (callFunc g args).run Try.prog w = .ok (.enter g args) w) (l : List α) (v : Value) (w : World) (hrow : RowOf (fun x => [c x]) 1 w v l)
    (hp : ∀ W, Below w.heap.size w W → ∀ (i : Nat) x, l[i]? = some x → Calls Try.prog g (#[c x] ++ lb) W fun e w' => e = .returned (.bool (p i)) ∧ Below W.heap.size W w') :
    Calls Try.prog 73 #[v, .func (.func g) #[] lb] w fun e w' => (∃ n : Int, e = .returned (.int .i64 n) ∧ (0 ≤ n ↔ ∃ i, i < l.length ∧ p i = true)) ∧ Below w.heap.size w w' := by
  obtain ⟨a, cap, rfl, hcp, hmx, hc⟩ := hrow.open (f := fun x => [c x]) (sz := 1) (fun _ => rfl)
  unfold maxLen at hmx
  go_enter Try.func73, Try.ntmps73
  repeat' (first | go_values | go_skip | go_guarded | go_step | go_upon)
  go_loopw [5, 8] (fun _ s8 w' => ∃ k : Nat, s8 = .int .i64 k ∧ k ≤ l.length ∧ Hid (∀ j, j < k → p j = false) ∧ Hid (Below w.heap.size w w')) (fun _ s8 _ => l.length - (intOf s8).toNat)
  case atStart => exact ⟨0, rfl, Nat.zero_le _, Lib.hid (fun j hj => absurd hj (Nat.not_lt_zero _)), Lib.hid (Below.refl _ _)⟩
  case round =>
    obtain ⟨k, rfl, hk, HA, HB⟩ := hrel
    by_cases hlt : k < l.length
    · have hlt' : (k : Int) < l.length := by omega
      rcases hc with hc | ⟨b, off, rfl, hb, hc⟩
      · omega
      obtain ⟨x, hr⟩ : ∃ x, l[k]? = some x := ⟨_, List.getElem?_eq_getElem hlt⟩
      have c0 := hc k x 0 hr (by decide)
      rw [Nat.mul_one, Nat.add_zero, ← HB.out.cell (show b < w.heap.size from hb)] at c0
      have c0 : wr.cell? ⟨b, off + k, none⟩ = some (c x) := c0
      have hcall := hp _ HB.out k x hr
      obtain ⟨y, hy⟩ : ∃ y, p k = y := ⟨_, rfl⟩
      rw [hy] at hcall
      have Hx := Lib.hid hy
      clear hp hc hy
      cases y with
      | true =>
        repeat' (first | (go_at_fn g; refine hcall.mono ?_; rintro e w1 ⟨rfl, hb1⟩; dsimp only) | go_values | go_skip | go_guarded | go_step | go_upon)
        go_ret
        exact ⟨⟨k, rfl, by simp only [Int.natCast_nonneg, true_iff]; exact ⟨k, hlt, Hx.out⟩⟩, HB.out.trans (hb1.mono HB.out.size)⟩
      | false =>
        repeat' (first | (go_at_fn g; refine hcall.mono ?_; rintro e w1 ⟨rfl, hb1⟩; dsimp only) | go_values | go_skip | go_guarded | go_step | go_upon)
        go_roundw
        · exact ⟨k + 1, by go_num, by omega, Lib.hid (fun j hj => by
            rcases Nat.lt_or_ge j k with h | h
            · exact HA.out j h
            · rw [show j = k by omega]; exact Hx.out), Lib.hid (HB.out.trans (hb1.mono HB.out.size))⟩
        · simp [intOf]; omega
    · have hlt' : ¬ (k : Int) < l.length := by omega
      have Hk : Hid (k = l.length) := Lib.hid (by omega)
      repeat' (first | go_values | go_skip | go_guarded | go_step | go_upon)
      go_ret
      refine ⟨⟨-1, rfl, ?_⟩, HB.out⟩
      constructor
      · intro h; omega
      · rintro ⟨i, hi, h⟩
        rw [HA.out i (by have := Hk.out; omega)] at h; cases h
set_option maxRecDepth 100000 in
theorem contains_str {α : Type} (c : α → Value) (p : Nat → Bool) (g : Nat) (lb : Array Value) (eg : ∀ args w, (callFunc g args).run Try.prog w = .ok (.enter g args) w) (l : List α) (v : Value) (w : World) (hrow : RowOf (fun x => [c x]) 1 w v l)
    (hp : ∀ W, Below w.heap.size w W → ∀ (i : Nat) x, l[i]? = some x → Calls Try.prog g (#[c x] ++ lb) W fun e w' => e = .returned (.bool (p i)) ∧ Below W.heap.size W w') :
    Calls Try.prog 62 #[v, .func (.func g) #[] lb] w fun e w' => e = .returned (.bool ((List.range l.length).any p)) ∧ Below w.heap.size w w' := by
  have hidx := index_str c p g lb eg l v w hrow hp
  clear hp hrow
  obtain ⟨B, hB⟩ : ∃ B, (List.range l.length).any p = B := ⟨_, rfl⟩
  rw [hB]
  have HB := Lib.hid hB
  clear hB
  go_enter Try.func62, Try.ntmps62
  repeat' (first | go_values | go_skip | go_guarded | go_step | go_upon)
  refine Calls.mono (hidx) ?_
  rintro _ w1 ⟨⟨n, rfl, hn⟩, hb1⟩
  dsimp only
  have e : B = decide (0 ≤ n) := by
    rw [← HB.out, Bool.eq_iff_iff, List.any_eq_true, decide_eq_true_iff, hn]
    exact ⟨fun ⟨i, hi, h⟩ => ⟨i, List.mem_range.1 hi, h⟩, fun ⟨i, hi, h⟩ => ⟨i, List.mem_range.2 hi, h⟩⟩
  have He := Lib.hid e
  clear hn e HB
  repeat' (first | go_values | go_skip | go_guarded | go_step | go_upon)
  go_ret
  exact ⟨by rw [He.out]; rfl, hb1⟩
set_option maxRecDepth 100000 in
theorem index_u64 {α : Type} (c : α → Value) (p : Nat → Bool) (g : Nat) (lb : Array Value) (eg : ∀ args w, (callFunc g args).run Try.prog w = .ok (.enter g args) w) (l : List α) (v : Value) (w : World) (hrow : RowOf (fun x => [c x]) 1 w v l)
    (hp : ∀ W, Below w.heap.size w W → ∀ (i : Nat) x, l[i]? = some x → Calls Try.prog g (#[c x] ++ lb) W fun e w' => e = .returned (.bool (p i)) ∧ Below W.heap.size W w') :
    Calls Try.prog 74 #[v, .func (.func g) #[] lb] w fun e w' => (∃ n : Int, e = .returned (.int .i64 n) ∧ (0 ≤ n ↔ ∃ i, i < l.length ∧ p i = true)) ∧ Below w.heap.size w w' := by
  obtain ⟨a, cap, rfl, hcp, hmx, hc⟩ := hrow.open (f := fun x => [c x]) (sz := 1) (fun _ => rfl)
  unfold maxLen at hmx
  go_enter Try.func74, Try.ntmps74
  repeat' (first | go_values | go_skip | go_guarded | go_step | go_upon)
  go_loopw [5, 8] (fun _ s8 w' => ∃ k : Nat, s8 = .int .i64 k ∧ k ≤ l.length ∧ Hid (∀ j, j < k → p j = false) ∧ Hid (Below w.heap.size w w')) (fun _ s8 _ => l.length - (intOf s8).toNat)
  case atStart => exact ⟨0, rfl, Nat.zero_le _, Lib.hid (fun j hj => absurd hj (Nat.not_lt_zero _)), Lib.hid (Below.refl _ _)⟩
  case round =>
    obtain ⟨k, rfl, hk, HA, HB⟩ := hrel
    by_cases hlt : k < l.length
    · have hlt' : (k : Int) < l.length := by omega
      rcases hc with hc | ⟨b, off, rfl, hb, hc⟩
      · omega
      obtain ⟨x, hr⟩ : ∃ x, l[k]? = some x := ⟨_, List.getElem?_eq_getElem hlt⟩
      have c0 := hc k x 0 hr (by decide)
      rw [Nat.mul_one, Nat.add_zero, ← HB.out.cell (show b < w.heap.size from hb)] at c0
      have c0 : wr.cell? ⟨b, off + k, none⟩ = some (c x) := c0
      have hcall := hp _ HB.out k x hr
      obtain ⟨y, hy⟩ : ∃ y, p k = y := ⟨_, rfl⟩
      rw [hy] at hcall
      have Hx := Lib.hid hy
      clear hp hc hy
      cases y with
      | true =>
        repeat' (first | (go_at_fn g; refine hcall.mono ?_; rintro e w1 ⟨rfl, hb1⟩; dsimp only) | go_values | go_skip | go_guarded | go_step | go_upon)
        go_ret
        exact ⟨⟨k, rfl, by simp only [Int.natCast_nonneg, true_iff]; exact ⟨k, hlt, Hx.out⟩⟩, HB.out.trans (hb1.mono HB.out.size)⟩
      | false =>
        repeat' (first | (go_at_fn g; refine hcall.mono ?_; rintro e w1 ⟨rfl, hb1⟩; dsimp only) | go_values | go_skip | go_guarded | go_step | go_upon)
        go_roundw
        · exact ⟨k + 1, by go_num, by omega, Lib.hid (fun j hj => by
            rcases Nat.lt_or_ge j k with h | h
            · exact HA.out j h
            · rw [show j = k by omega]; exact Hx.out), Lib.hid (HB.out.trans (hb1.mono HB.out.size))⟩
        · simp [intOf]; omega
    · have hlt' : ¬ (k : Int) < l.length := by omega
      have Hk : Hid (k = l.length) := Lib.hid (by omega)
      repeat' (first | go_values | go_skip | go_guarded | go_step | go_upon)
      go_ret
      refine ⟨⟨-1, rfl, ?_⟩, HB.out⟩
      constructor
      · intro h; omega
      · rintro ⟨i, hi, h⟩
        rw [HA.out i (by have := Hk.out; omega)] at h; cases h
set_option maxRecDepth 100000 in
theorem contains_u64 {α : Type} (c : α → Value) (p : Nat → Bool) (g : Nat) (lb : Array Value) (eg : ∀ args w, (callFunc g args).run Try.prog w = .ok (.enter g args) w) (l : List α) (v : Value) (w : World) (hrow : RowOf (fun x => [c x]) 1 w v l)
    (hp : ∀ W, Below w.heap.size w W → ∀ (i : Nat) x, l[i]? = some x → Calls Try.prog g (#[c x] ++ lb) W fun e w' => e = .returned (.bool (p i)) ∧ Below W.heap.size W w') :
    Calls Try.prog 64 #[v, .func (.func g) #[] lb] w fun e w' => e = .returned (.bool ((List.range l.length).any p)) ∧ Below w.heap.size w w' := by
  have hidx := index_u64 c p g lb eg l v w hrow hp
  clear hp hrow
  obtain ⟨B, hB⟩ : ∃ B, (List.range l.length).any p = B := ⟨_, rfl⟩
  rw [hB]
  have HB := Lib.hid hB
  clear hB
  go_enter Try.func64, Try.ntmps64
  repeat' (first | go_values | go_skip | go_guarded | go_step | go_upon)
  refine Calls.mono (hidx) ?_
  rintro _ w1 ⟨⟨n, rfl, hn⟩, hb1⟩
  dsimp only
  have e : B = decide (0 ≤ n) := by
    rw [← HB.out, Bool.eq_iff_iff, List.any_eq_true, decide_eq_true_iff, hn]
    exact ⟨fun ⟨i, hi, h⟩ => ⟨i, List.mem_range.1 hi, h⟩, fun ⟨i, hi, h⟩ => ⟨i, List.mem_range.2 hi, h⟩⟩
  have He := Lib.hid e
  clear hn e HB
  repeat' (first | go_values | go_skip | go_guarded | go_step | go_upon)
  go_ret
  exact ⟨by rw [He.out]; rfl, hb1⟩
end Go.Proofs.Ytkpdcejnanhgoaa
