/- TrieBuilds walked where there are too many words: they are refused. Conditions: the list can be read. -/
import Derived.Test.YtndekogkfbhabaaTriLng
namespace Go.Proofs.Ytndekogkfbhabaa
open Go.RowKit
set_option maxRecDepth 100000 in
set_option maxHeartbeats 4000000 in
theorem builds_many (w : World) (v : Value) (ws : List (List UInt8)) (hrow : RowOf strC 1 w v ws) (hm : 2048 < ws.length) (s : ByteArray) (a : Int) :
    Calls Try.prog 4 #[v, .string s, .int .i64 a] w fun e w' => e = .returned (.bool true) ∧ Below w.heap.size w w' := by
  have hbd := trie_Build ws v w hrow (.inr hm)
  obtain ⟨av, cap, rfl, hcap, hmx, hc⟩ := hrow.open strC_lenT
  obtain ⟨n, hn⟩ : ∃ n, n = ws.length := ⟨_, rfl⟩
  rw [← hn] at hc hcap hm hbd ⊢
  unfold maxLen at hmx
  have Hn := Lib.hid hn
  have Hc := Lib.hid hc
  have hm' : ¬ (n : Int) ≤ 2048 := by omega
  clear hn hrow hc
  go_enter Try.func4, Try.ntmps4
  repeat' (first | go_values | go_skip | go_guarded | go_step | go_upon)
  refine Calls.mono hbd ?_
  intro e w1 hB
  obtain ⟨p1, n1, k1, p2, n2, k2, p3, n3, k3, E, rfl, hb1, _, hE2, _, hE4, _⟩ := build_form hB
  have hE := hE4 (.inl (by rw [← Hn.out]; exact hm))
  subst hE
  have hn1 := hE2 (by decide)
  subst hn1
  dsimp only
  have HB1 := Lib.hid hb1
  clear hb1 hE2 hE4 hB hbd
  repeat' (go_not_at_region 4; first | go_values | go_skip | go_guarded | go_step | go_upon)
  have hal : Below w1.heap.size w1 (w1.alloc (.cells #[.slice p1 0 k1, .slice p2 n2 k2, .slice p3 n3 k3] 27)) := (Below.refl _ _).alloc (Nat.le_refl _) _
  have hnew := Go.heap_alloc_new w1 (.cells #[.slice p1 0 k1, .slice p2 n2 k2, .slice p3 n3 k3] 27)
  obtain ⟨w2, hw2⟩ : ∃ w2, w1.alloc (.cells #[.slice p1 0 k1, .slice p2 n2 k2, .slice p3 n3 k3] 27) = w2 := ⟨_, rfl⟩
  obtain ⟨ta, hta⟩ : ∃ ta, w1.heap.size = ta := ⟨_, rfl⟩
  rw [hw2] at hal hnew ⊢
  rw [hta] at hnew ⊢
  have HB2 := Lib.hid (HB1.out.trans (hal.mono HB1.out.size))
  have HA := Lib.hid hnew
  clear hal hnew hw2 hta
  repeat' (first | go_values | go_skip | go_guarded | go_step | go_upon)
  go_loopg [35, 9] n (fun gk s35 s9 wr => ∃ k : Nat, s35 = .int .i64 k ∧ s9 = .bool true ∧ k + gk = n ∧ Hid (Below w2.heap.size w2 wr))
  case atStart => exact ⟨0, rfl, by simp; omega, by omega, Lib.hid (Below.refl _ _)⟩
  case round =>
    obtain ⟨k, rfl, rfl, hk, HB⟩ := hrel
    by_cases hlt : k < n
    · have hlt' : (k : Int) < n := by omega
      obtain ⟨x, hx⟩ : ∃ x, ws[k]? = some x := ⟨_, List.getElem?_eq_getElem (by rw [← Hn.out]; exact hlt)⟩
      obtain ⟨b, off, rfl, hb, hcc⟩ := Hc.out.resolve_left (by omega)
      have c0 := str_cellT hcc hx
      rw [← (HB2.out.trans (HB.out.mono HB2.out.size)).cell (show b < w.heap.size from hb)] at c0
      clear hx hcc
      repeat' (first | go_values | go_skip | go_guarded | go_step | go_upon)
      go_roundg (gk - 1)
      case measure => omega
      case rel => exact ⟨k + 1, by go_num, rfl, by omega, HB⟩
    · have hlt' : (n : Int) ≤ k := by omega
      have HA2 := Lib.hid (show wr.heap[ta]? = some (.cells #[.slice p1 0 k1, .slice p2 n2 k2, .slice p3 n3 k3] 27 (0, 0)) by
        rw [HB.out.block _ (Array.getElem?_eq_some_iff.1 HA.out).1]; exact HA.out)
      have c0 : wr.cell? ⟨ta, 0, none⟩ = some (.slice p1 0 k1) := by rw [cell_of_row wr ta 0 _ _ _ HA2.out]; rfl
      repeat' (first | go_values | go_skip | go_guarded | go_step | go_upon)
      go_ret
      exact ⟨rfl, HB2.out.trans (HB.out.mono HB2.out.size)⟩
end Go.Proofs.Ytndekogkfbhabaa
