/- Walks: is a word too long (slices.ContainsFunc, slices.IndexFunc at words). Conditions: the list can be read. -/
import Derived.Test.YtndekogkfbhabaaTriFew
import Derived.Laws.Cells
import Derived.Shelf.Abstract
namespace Go.Proofs.Ytndekogkfbhabaa
open Go.RowKit
theorem tree_long (x : List UInt8) (w : World) : Calls Try.prog 21 #[.string ⟨x.toArray⟩] w fun e w' => e = .returned (.bool (decide (64 < x.length))) ∧ w' = w := by
  have hx : ((⟨x.toArray⟩ : ByteArray).size : Int) = x.length := rfl
  go_enter Try.func21, Try.ntmps21
  repeat' (first | go_values | go_skip | go_guarded | go_step | go_upon)
  go_ret
  refine ⟨?_, rfl⟩
  show Ending.returned (.bool (decide _)) = _
  congr 3
  simp
  omega
theorem eg_long : ∀ args w, (callFunc 21 args).run Try.prog w = .ok (.enter 21 args) w := fun _ _ => rfl
set_option maxRecDepth 100000 in
theorem index_long (l : List (List UInt8)) (v : Value) (w : World) (hrow : RowOf strC 1 w v l) :
    Calls Try.prog 24 #[v, .func (.func 21) #[] #[]] w fun e w' => (∃ n : Int, e = .returned (.int .i64 n) ∧ (0 ≤ n ↔ ∃ x ∈ l, 64 < x.length)) ∧ Below w.heap.size w w' := by
  obtain ⟨a, cap, rfl, hcap, hmx, hc⟩ := hrow.open strC_lenT
  obtain ⟨n, hn⟩ : ∃ n, n = l.length := ⟨_, rfl⟩
  have Hn := Lib.hid hn
  have eg := eg_long
  rw [← hn] at hc hcap ⊢
  unfold maxLen at hmx
  clear hn hrow
  go_enter Try.func24, Try.ntmps24
  repeat' (first | go_values | go_skip | go_guarded | go_step | go_upon)
  go_loopw [5, 8] (fun _ s8 w' => ∃ k : Nat, s8 = .int .i64 k ∧ k ≤ n ∧ Hid (∀ j y, j < k → l[j]? = some y → y.length ≤ 64) ∧ Hid (Below w.heap.size w w')) (fun _ s8 _ => n - (intOf s8).toNat)
  case atStart => exact ⟨0, rfl, Nat.zero_le _, Lib.hid (fun j _ hj => absurd hj (Nat.not_lt_zero _)), Lib.hid (Below.refl _ _)⟩
  case round =>
    obtain ⟨k, rfl, hk, HA, HB⟩ := hrel
    by_cases hlt : k < n
    · have hlt' : (k : Int) < n := by omega
      obtain ⟨y, hy⟩ : ∃ y, l[k]? = some y := ⟨_, List.getElem?_eq_getElem (by rw [← Hn.out]; exact hlt)⟩
      rcases hc with hc | ⟨b, off, rfl, hb, hc⟩
      · omega
      have c0 := str_cellT hc hy
      rw [← HB.out.cell (show b < w.heap.size from hb)] at c0
      have Hy := Lib.hid hy
      have hcall := tree_long y wr
      clear hc hy
      by_cases he : 64 < y.length
      · rw [decide_eq_true he] at hcall
        repeat' (first | (go_at_fn 21; refine hcall.mono ?_; rintro e w1 ⟨rfl, rfl⟩; dsimp only) | go_values | go_skip | go_guarded | go_step | go_upon)
        go_ret
        exact ⟨⟨k, rfl, by simp only [Int.natCast_nonneg, true_iff]; exact ⟨y, List.mem_of_getElem? Hy.out, he⟩⟩, HB.out⟩
      · rw [decide_eq_false he] at hcall
        repeat' (first | (go_at_fn 21; refine hcall.mono ?_; rintro e w1 ⟨rfl, rfl⟩; dsimp only) | go_values | go_skip | go_guarded | go_step | go_upon)
        go_roundw
        · exact ⟨k + 1, by go_num, by omega, Lib.hid (fun j z hj hz => by
            by_cases e : j = k
            · subst e
              rw [Hy.out] at hz
              simp only [Option.some.injEq] at hz
              subst hz
              omega
            · exact HA.out j z (by omega) hz), HB⟩
        · simp [intOf]; omega
    · have hlt' : ¬ (k : Int) < n := by omega
      have Hk : Hid (k = n) := Lib.hid (by omega)
      repeat' (first | go_values | go_skip | go_guarded | go_step | go_upon)
      go_ret
      refine ⟨⟨-1, rfl, ?_⟩, HB.out⟩
      constructor
      · intro h; omega
      · rintro ⟨x, hx, h⟩
        obtain ⟨j, hj⟩ := List.getElem?_of_mem hx
        have h1 := HA.out j x (by have := (List.getElem?_eq_some_iff.1 hj).1; have := Hk.out; have := Hn.out; omega) hj
        omega
set_option maxRecDepth 100000 in
/-- is a word too long? -/
theorem contains_long (l : List (List UInt8)) (v : Value) (w : World) (hrow : RowOf strC 1 w v l) :
    Calls Try.prog 20 #[v, .func (.func 21) #[] #[]] w fun e w' => e = .returned (.bool (l.any fun x => decide (64 < x.length))) ∧ Below w.heap.size w w' := by
  have hidx := index_long l v w hrow
  clear hrow
  obtain ⟨B, hB⟩ : ∃ B, (l.any fun x => decide (64 < x.length)) = B := ⟨_, rfl⟩
  rw [hB]
  have HB := Lib.hid hB
  clear hB
  go_enter Try.func20, Try.ntmps20
  repeat' (first | go_values | go_skip | go_guarded | go_step | go_upon)
  refine Calls.mono (hidx) ?_
  rintro _ w1 ⟨⟨n, rfl, hn⟩, hb1⟩
  dsimp only
  have e : B = decide (0 ≤ n) := by
    rw [← HB.out, Bool.eq_iff_iff, List.any_eq_true, decide_eq_true_iff, hn]
    exact ⟨fun ⟨i, hi, h⟩ => ⟨i, hi, by simpa using h⟩, fun ⟨i, hi, h⟩ => ⟨i, hi, by simpa using h⟩⟩
  have He := Lib.hid e
  clear hn e HB
  repeat' (first | go_values | go_skip | go_guarded | go_step | go_upon)
  go_ret
  exact ⟨by rw [He.out]; rfl, hb1⟩
end Go.Proofs.Ytndekogkfbhabaa
