/- Walk: so many words at most (few). Conditions: the list can be read. -/
import Derived.Test.YtndekogkfbhabaaTriAt
namespace Go.Proofs.Ytndekogkfbhabaa
open Go.RowKit
theorem flat_one : ∀ l : List (List UInt8), (l.flatMap strC) = l.map fun x => Value.string ⟨x.toArray⟩
  | [] => rfl
  | x :: l => by rw [List.flatMap_cons, flat_one l]; rfl
theorem row_take {w : World} {b off n cap : Nat} {l : List (List UInt8)} (h : RowOf strC 1 w (.slice (some ⟨b, off, none⟩) n cap) l) (k : Nat) (hk : k ≤ n) : RowOf strC 1 w (.slice (some ⟨b, off, none⟩) k cap) (l.take k) := by
  obtain ⟨a, c, e, h1, h2, h3, h4⟩ := h
  simp only [Value.slice.injEq] at e
  obtain ⟨rfl, e2, rfl⟩ := e
  have hl : (l.take k).length = k := by rw [List.length_take]; omega
  refine ⟨_, _, by rw [hl], by omega, h2, by rw [flat_one, List.length_map, Nat.mul_one], ?_⟩
  by_cases h0 : k = 0
  · exact .inl (by rw [hl, h0])
  · right
    rcases h4 with h4 | ⟨b', off', e3, hb, hc⟩
    · omega
    simp only [Option.some.injEq, Addr.mk.injEq, and_true] at e3
    obtain ⟨rfl, rfl⟩ := e3
    refine ⟨_, _, rfl, hb, fun i hi => ?_⟩
    rw [hl] at hi
    have h5 := hc i (by omega)
    rw [h5, flat_one, flat_one, List.getElem?_map, List.getElem?_map, List.getElem?_take_of_lt (by omega)]
set_option maxRecDepth 100000 in
theorem law_few (l : List (List UInt8)) (v : Value) (w : World) (hrow : RowOf strC 1 w v l) :
    Calls Try.prog 6 #[v] w fun e w' => ∃ v', e = .returned v' ∧ w' = w ∧ RowOf strC 1 w v' (l.take 120) := by
  have hrow2 := hrow
  obtain ⟨a, cap, rfl, hcap, hmx, hc⟩ := hrow.open strC_lenT
  obtain ⟨n, hn⟩ : ∃ n, n = l.length := ⟨_, rfl⟩
  have Hn := Lib.hid hn
  rw [← hn] at hc hcap hrow2 ⊢
  unfold maxLen at hmx
  clear hn hrow
  by_cases h : 120 < n
  · obtain ⟨b, off, rfl, hb, _⟩ := hc.resolve_left (by omega)
    have HR := Lib.hid (row_take hrow2 120 (by omega))
    clear hrow2 hc
    go_enter Try.func6, Try.ntmps6
    repeat' (first | go_values | go_skip | go_guarded | go_step | go_upon)
    go_ret
    exact ⟨_, rfl, rfl, HR.out⟩
  · have HR := Lib.hid (show RowOf strC 1 w (.slice a n cap) (l.take 120) by rw [List.take_of_length_le (by have := Hn.out; omega)]; exact hrow2)
    clear hrow2 hc
    go_enter Try.func6, Try.ntmps6
    repeat' (first | go_values | go_skip | go_guarded | go_step | go_upon)
    go_ret
    exact ⟨_, rfl, rfl, HR.out⟩
end Go.Proofs.Ytndekogkfbhabaa
