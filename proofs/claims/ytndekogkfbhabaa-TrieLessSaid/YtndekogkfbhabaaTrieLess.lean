/- TrieLess walked: of the first words alone a trie finds those alike. Conditions: the list can be read. -/
import Derived.Test.YtndekogkfbhabaaTriNum
import Derived.Test.YtndekogkfbhabaaStrOpen
namespace Go.Proofs.Ytndekogkfbhabaa
open Go.RowKit
set_option maxRecDepth 100000 in
set_option maxHeartbeats 4000000 in
theorem law_TrieLess (w : World) (v : Value) (ws : List (List UInt8)) (hrow : RowOf strC 1 w v ws) (a : Int) (_ : I64 a) (s : ByteArray) (_ : s.size ≤ 140737488351232) :
    Calls Try.prog 3 #[v, .int .i64 a, .string s] w fun e w' => e = .returned (.bool true) ∧ Below w.heap.size w w' := by
  have Hrow := Lib.hid hrow
  clear hrow
  go_enter Try.func3, Try.ntmps3
  repeat' (first | go_values | go_skip | go_guarded | go_step | go_upon)
  refine Calls.mono (law_alive16 w) ?_
  rintro _ w1 ⟨rfl, hb1⟩
  dsimp only
  repeat' (first | go_values | go_skip | go_guarded | go_step | go_upon)
  refine Calls.mono (law_few ws v w1 (Hrow.out.keep hb1)) ?_
  rintro _ w2 ⟨v2, rfl, rfl, hrow2⟩
  dsimp only
  obtain ⟨a2, c2, rfl, hcap, hmx, _⟩ := hrow2.open strC_lenT
  obtain ⟨us, hus⟩ : ∃ us, ws.take 120 = us := ⟨_, rfl⟩
  have hul : us.length ≤ 120 := by rw [← hus, List.length_take]; omega
  rw [hus] at hrow2 hcap ⊢
  obtain ⟨L, hL⟩ : ∃ L, us.length = L := ⟨_, rfl⟩
  rw [hL] at hrow2 hul hcap ⊢
  have HL := Lib.hid hL
  have Hrow2 := Lib.hid hrow2
  clear hus hL hrow2
  have HB1 := Lib.hid hb1
  clear hb1
  repeat' (go_not_at_region 5; first | go_values | go_skip | go_guarded | go_step | go_upon)
  generalize hme : (if (L : Int) < (if a < 0 then 0 else a) then (L : Int) else (if a < 0 then 0 else a)) = z
  obtain ⟨m, rfl, hmL⟩ : ∃ m : Nat, z = m ∧ m ≤ L := ⟨z.toNat, by split at hme <;> split at hme <;> omega, by split at hme <;> split at hme <;> omega⟩
  clear hme
  repeat' (first | go_values | go_skip | go_guarded | go_step | go_upon)
  refine Calls.mono (trie_Build us (.slice a2 L c2) w2 Hrow2.out (.inl (by rw [HL.out]; exact hul))) ?_
  intro e w3 hB
  obtain ⟨p1, n1, k1, p2, n2, k2, p3, n3, k3, E, rfl, hb3, hE1, hE2, hE3, _, _⟩ := build_form hB
  dsimp only
  have hbA : Below w3.heap.size w3 (w3.alloc (.cells #[.slice p1 n1 k1, .slice p2 n2 k2, .slice p3 n3 k3] 27)) := (Below.refl _ _).alloc (Nat.le_refl _) _
  have hA : (w3.alloc (.cells #[.slice p1 n1 k1, .slice p2 n2 k2, .slice p3 n3 k3] 27)).heap[w3.heap.size]? = some (.cells #[.slice p1 n1 k1, .slice p2 n2 k2, .slice p3 n3 k3] 27 (0, 0)) := Go.heap_alloc_new _ _
  have HE1 := Lib.hid hE1
  have HE2 := Lib.hid hE2
  have HE3 := Lib.hid (fun h => (hE3 h).1)
  have HB3 := Lib.hid (HB1.out.trans (hb3.mono HB1.out.size))
  have Hb3 := Lib.hid hb3
  have HbA := Lib.hid hbA
  have HA := Lib.hid hA
  clear hB hb3 hE1 hE2 hE3 hbA hA
  repeat' (go_not_at_region 6; first | go_values | go_skip | go_guarded | go_step | go_upon)
  obtain ⟨w4, hw4⟩ : ∃ w4, w3.alloc (.cells #[.slice p1 n1 k1, .slice p2 n2 k2, .slice p3 n3 k3] 27) = w4 := ⟨_, rfl⟩
  obtain ⟨ta, hta⟩ : ∃ ta, w3.heap.size = ta := ⟨_, rfl⟩
  rw [hw4] at HA HbA ⊢
  rw [hta] at HA ⊢
  have Hrow4 := Lib.hid (Hrow2.out.keep (Hb3.out.trans (HbA.out.mono Hb3.out.size)))
  have HB4 := Lib.hid (HB3.out.trans (HbA.out.mono HB3.out.size))
  have hmc : (m : Int) ≤ c2 := by omega
  have hmc' : m ≤ c2 := by omega
  clear hw4 hta
  repeat' (first | go_values | go_skip | go_guarded | go_step | go_upon)
  refine Calls.mono (trie_Build (us.take m) (.slice a2 m c2) w4 (row_takeA Hrow4.out m hmL) (.inl (by rw [List.length_take]; have := HL.out; omega))) ?_
  intro e w5 hB
  obtain ⟨r1, i1, j1, r2, i2, j2, r3, i3, j3, F, rfl, hb5, hF1, _, hF3, _, _⟩ := build_form hB
  dsimp only
  have hbB : Below w5.heap.size w5 (w5.alloc (.cells #[.slice r1 i1 j1, .slice r2 i2 j2, .slice r3 i3 j3] 27)) := (Below.refl _ _).alloc (Nat.le_refl _) _
  have hBx : (w5.alloc (.cells #[.slice r1 i1 j1, .slice r2 i2 j2, .slice r3 i3 j3] 27)).heap[w5.heap.size]? = some (.cells #[.slice r1 i1 j1, .slice r2 i2 j2, .slice r3 i3 j3] 27 (0, 0)) := Go.heap_alloc_new _ _
  have HF1 := Lib.hid hF1
  have HF3 := Lib.hid (fun h => (hF3 h).1)
  have HA5 : Hid (w5.heap[ta]? = some (.cells #[.slice p1 n1 k1, .slice p2 n2 k2, .slice p3 n3 k3] 27 (0, 0))) := Lib.hid (by rw [hb5.block _ (Array.getElem?_eq_some_iff.1 HA.out).1]; exact HA.out)
  have HB5 := Lib.hid (HB4.out.trans (hb5.mono HB4.out.size))
  have Hb5 := Lib.hid hb5
  have HbB := Lib.hid hbB
  have HBx := Lib.hid hBx
  clear hB hb5 hF1 hF3 hbB hBx
  repeat' (go_not_at_region 7; first | go_values | go_skip | go_guarded | go_step | go_upon)
  obtain ⟨w6, hw6⟩ : ∃ w6, w5.alloc (.cells #[.slice r1 i1 j1, .slice r2 i2 j2, .slice r3 i3 j3] 27) = w6 := ⟨_, rfl⟩
  obtain ⟨tb, htb⟩ : ∃ tb, w5.heap.size = tb := ⟨_, rfl⟩
  rw [hw6] at HBx HbB ⊢
  rw [htb] at HBx ⊢
  have HA6 : Hid (w6.heap[ta]? = some (.cells #[.slice p1 n1 k1, .slice p2 n2 k2, .slice p3 n3 k3] 27 (0, 0))) := Lib.hid (by rw [HbB.out.block _ (Array.getElem?_eq_some_iff.1 HA5.out).1]; exact HA5.out)
  have HB6 := Lib.hid (HB5.out.trans (HbB.out.mono HB5.out.size))
  have Hb36 := Lib.hid ((HbA.out.trans (Hb5.out.mono HbA.out.size)).trans (HbB.out.mono (HbA.out.trans (Hb5.out.mono HbA.out.size)).size))
  clear hw6 htb
  by_cases hE : E = 0
  · subst hE
    obtain ⟨hl, hd⟩ := HE1.out.1 rfl
    have hF : F = 0 := HF1.out.2 ⟨few_take hl, hd.sublist (List.take_sublist _ _)⟩
    subst hF
    have hTA := (HE3.out rfl).keep Hb36.out
    have hTB := (HF3.out rfl).keep HbB.out
    have hu := shortN_le s 100
    have hsh := fun w' => law_short s 100 (by decide) w'
    generalize shortN s 100 = u at hu hsh
    have hfA := fun nq : WB w6 => trie_num (hTA.keep nq.2) (by rw [HL.out]; exact hul) hl u (by omega)
    have hfB := fun nq : WB w6 => trie_num (hTB.keep nq.2) (by rw [List.length_take]; have := HL.out; omega) (few_take hl) u (by omega)
    have hcase := atW_take us m u.data.toList
    generalize atW us u.data.toList = x at hfA hcase
    generalize atW (us.take m) u.data.toList = y at hfB hcase
    have HfA := Lib.hid hfA
    have HfB := Lib.hid hfB
    have qa0 : ∀ nq : WB w6, nq.1.cell? ⟨ta, 0, none⟩ = some (.slice p1 n1 k1) := fun nq => by
      rw [nq.cell (Array.getElem?_eq_some_iff.1 HA6.out).1, cell_of_row w6 ta 0 _ _ _ HA6.out]; rfl
    have qa1 : ∀ nq : WB w6, nq.1.cell? ⟨ta, 1, none⟩ = some (.slice p2 n2 k2) := fun nq => by
      rw [nq.cell (Array.getElem?_eq_some_iff.1 HA6.out).1, cell_of_row w6 ta 1 _ _ _ HA6.out]; rfl
    have qa2 : ∀ nq : WB w6, nq.1.cell? ⟨ta, 2, none⟩ = some (.slice p3 n3 k3) := fun nq => by
      rw [nq.cell (Array.getElem?_eq_some_iff.1 HA6.out).1, cell_of_row w6 ta 2 _ _ _ HA6.out]; rfl
    have qb0 : ∀ nq : WB w6, nq.1.cell? ⟨tb, 0, none⟩ = some (.slice r1 i1 j1) := fun nq => by
      rw [nq.cell (Array.getElem?_eq_some_iff.1 HBx.out).1, cell_of_row w6 tb 0 _ _ _ HBx.out]; rfl
    have qb1 : ∀ nq : WB w6, nq.1.cell? ⟨tb, 1, none⟩ = some (.slice r2 i2 j2) := fun nq => by
      rw [nq.cell (Array.getElem?_eq_some_iff.1 HBx.out).1, cell_of_row w6 tb 1 _ _ _ HBx.out]; rfl
    have qb2 : ∀ nq : WB w6, nq.1.cell? ⟨tb, 2, none⟩ = some (.slice r3 i3 j3) := fun nq => by
      rw [nq.cell (Array.getElem?_eq_some_iff.1 HBx.out).1, cell_of_row w6 tb 2 _ _ _ HBx.out]; rfl
    clear hl hd hTA hTB hfA hfB hu
    repeat' (first | go_values | go_skip | go_guarded | go_step | go_upon)
    refine Calls.mono (hsh _) ?_
    rintro _ _ ⟨rfl, rfl⟩
    dsimp only
    repeat' (go_not_at_region 12; first | go_values | go_skip | go_guarded | go_step | go_upon)
    refine wp_region_wb (by kernel_rfl) (by kernel_rfl) w6 (Below.refl _ _) ?_
    repeat (go_big_quiet_step ((first | (go_at_call 9; with_reducible exact calls_wb (HfA.out _)) | (go_at_call 9; with_reducible exact calls_wb (HfB.out _)))))
    refine wpQuiet_nil ?_
    rintro _ ⟨nq, rfl⟩
    have hnq := nq.2
    have HB7 := Lib.hid (HB6.out.trans (hnq.mono HB6.out.size))
    clear hnq qa0 qa1 qa2 qb0 qb1 qb2
    rcases hcase with rfl | ⟨rfl, hx⟩
    · have h1 : (x == x) = true := beq_self_eq_true x
      repeat' (first | go_values | go_skip | go_guarded | go_step | go_upon)
      go_ret
      exact ⟨rfl, HB7.out⟩
    · have h1 : (x == -1) = false := beq_false_of_ne (by omega)
      have h2 : decide (x ≥ (m : Int)) = true := by simpa using hx
      repeat' (first | go_values | go_skip | go_guarded | go_step | go_upon)
      go_ret
      exact ⟨rfl, HB7.out⟩
  · have hn0 := HE2.out hE
    subst hn0
    have c0 : w6.cell? ⟨ta, 0, none⟩ = some (.slice p1 0 k1) := by rw [cell_of_row w6 ta 0 _ _ _ HA6.out]; rfl
    have he : (E == 0) = false := beq_false_of_ne hE
    repeat' (first | go_values | go_skip | go_guarded | go_step | go_upon)
    go_ret
    exact ⟨rfl, HB6.out⟩
end Go.Proofs.Ytndekogkfbhabaa
