/- Walk: a word's place in a list (the document's At). Conditions: the list can be read. -/
import Derived.Test.YtndekogkfbhabaaTriRoot
import Derived.Test.YtndekogkfbhabaaStrC
import Derived.Test.YtndekogkfbhabaaOwnRows
import Derived.Test.YtndekogkfbhabaaBase
namespace Go.Proofs.Ytndekogkfbhabaa
open Go.RowKit
theorem strC_lenT (l : List UInt8) : (strC l).length = 1 := rfl
theorem atW_at {words : List (List UInt8)} {x : List UInt8} {k : Nat} (hk : words[k]? = some x) (hn : ∀ j y, j < k → words[j]? = some y → y ≠ x) : atW words x = k := by
  have : words.idxOf? x = some k := by
    unfold List.idxOf?
    rw [List.findIdx?_eq_some_iff_getElem]
    obtain ⟨h1, h2⟩ := List.getElem?_eq_some_iff.1 hk
    refine ⟨h1, by rw [h2]; simp, fun j hj => ?_⟩
    have := hn j _ hj (List.getElem?_eq_getElem (by omega))
    simpa using this
  unfold atW
  rw [this]
theorem atW_no {words : List (List UInt8)} {x : List UInt8} (hn : ∀ (j : Nat) y, words[j]? = some y → y ≠ x) : atW words x = -1 := by
  have : words.idxOf? x = none := by
    unfold List.idxOf?
    rw [List.findIdx?_eq_none_iff]
    intro y hy
    obtain ⟨j, hj⟩ := List.getElem?_of_mem hy
    simpa using hn j y hj
  unfold atW
  rw [this]
theorem str_cellT {w : World} {b off : Nat} {l : List (List UInt8)} (h : ∀ (i : Nat) (x : List UInt8) (j : Nat), l[i]? = some x → j < 1 → w.cell? ⟨b, off + (i * 1 + j), none⟩ = (strC x)[j]?) {k : Nat} {x : List UInt8} (hx : l[k]? = some x) : w.cell? ⟨b, off + k, none⟩ = some (.string ⟨x.toArray⟩) := by
  have := h k x 0 hx (by decide)
  rw [Nat.mul_one, Nat.add_zero] at this
  exact this
set_option maxRecDepth 100000 in
theorem ref_At (l : List (List UInt8)) (v : Value) (x : List UInt8) (w : World) (hrow : RowOf strC 1 w v l) :
    Calls Try.prog 10 #[v, .string ⟨x.toArray⟩] w fun e w' => e = .returned (.int .i64 (atW l x)) ∧ Below w.heap.size w w' := by
  obtain ⟨a, cap, rfl, hcap, hmx, hc⟩ := hrow.open strC_lenT
  obtain ⟨n, hn⟩ : ∃ n, n = l.length := ⟨_, rfl⟩
  have Hn := Lib.hid hn
  rw [← hn] at hc hcap ⊢
  unfold maxLen at hmx
  clear hn hrow
  go_enter Try.func10, Try.ntmps10
  repeat' (first | go_values | go_skip | go_guarded | go_step | go_upon)
  go_loopw [9] (fun s9 wr => ∃ k : Nat, s9 = .int .i64 k ∧ k ≤ n ∧ Hid (∀ j y, j < k → l[j]? = some y → y ≠ x) ∧ Hid (Below w.heap.size w wr)) (fun s9 _ => n - (intOf s9).toNat)
  case atStart => exact ⟨0, rfl, by omega, Lib.hid (fun j _ hj => absurd hj (Nat.not_lt_zero _)), Lib.hid (Below.refl _ _)⟩
  case round =>
    obtain ⟨k, rfl, hk, HA, HB⟩ := hrel
    by_cases hlt : k < n
    · obtain ⟨y, hy⟩ : ∃ y, l[k]? = some y := ⟨_, List.getElem?_eq_getElem (by rw [← Hn.out]; exact hlt)⟩
      rcases hc with hc | ⟨b, off, rfl, hb, hc⟩
      · omega
      have c0 := str_cellT hc hy
      rw [← HB.out.cell (show b < w.heap.size from hb)] at c0
      have Hy := Lib.hid hy
      clear hc hy
      by_cases he : y = x
      · subst he
        repeat' (first | go_values | go_skip | go_guarded | go_step | go_upon)
        go_ret
        exact ⟨by rw [atW_at Hy.out HA.out]; rfl, HB.out⟩
      · have heb : (y == x) = false := beq_false_of_ne he
        repeat' (first | go_values | go_skip | go_guarded | go_step | go_upon)
        go_roundw
        case rel => exact ⟨k + 1, by go_num, by omega, Lib.hid (fun j z hj hz => by
          by_cases e : j = k
          · subst e
            rw [Hy.out] at hz
            simp only [Option.some.injEq] at hz
            exact fun h => he (by rw [hz, h])
          · exact HA.out j z (by omega) hz), HB⟩
        case measure => simp [intOf]; omega
    · obtain rfl : n = k := by omega
      repeat' (first | go_values | go_skip | go_guarded | go_step | go_upon)
      go_ret
      refine ⟨?_, HB.out⟩
      rw [atW_no fun j y hy => HA.out j y (by have := (List.getElem?_eq_some_iff.1 hy).1; have := Hn.out; omega) hy]
      rfl
end Go.Proofs.Ytndekogkfbhabaa
