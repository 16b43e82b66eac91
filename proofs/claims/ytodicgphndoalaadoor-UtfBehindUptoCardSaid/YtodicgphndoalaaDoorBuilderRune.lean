/- Walk: a character is written to a strings.Builder of the call's own (WriteRune). Condition: what is held is of at most 2^47 - 4 bytes. -/
import Derived.Test.YtodicgphndoalaaDoorBuilderBase
import Derived.Test.YtodicgphndoalaaDoorUtfSpec
namespace Go.Proofs.YtodicgphndoalaaDoor
open Go.RowKit
theorem rune_cells {c : Nat} (h : isC c = true) : Lib.runeCells (c : Int) = Lib.byteCells (enc c) := by
  have hb := isC_iff.1 h
  unfold Lib.runeCells Lib.byteCells enc
  by_cases k1 : c < 128
  · rw [Lib.encodeRuneZ_one (by omega) (by omega), if_pos k1]
    simp only [List.map_cons, List.map_nil, List.cons.injEq, Value.int.injEq, true_and, and_true]
    rw [u8_toNat_lt (by omega)]
  by_cases k2 : c < 2048
  · rw [Lib.encodeRuneZ_two (by omega) (by omega), if_neg k1, if_pos k2]
    simp only [List.map_cons, List.map_nil, List.cons.injEq, Value.int.injEq, true_and, and_true]
    rw [u8_toNat_lt (by omega), u8_toNat_lt (by omega)]
    omega
  by_cases k3 : c < 65536
  · rw [Lib.encodeRuneZ_three (by omega), if_neg k1, if_neg k2, if_pos k3]
    simp only [List.map_cons, List.map_nil, List.cons.injEq, Value.int.injEq, true_and, and_true]
    rw [u8_toNat_lt (by omega), u8_toNat_lt (by omega), u8_toNat_lt (by omega)]
    omega
  · rw [Lib.encodeRuneZ_four (by omega) (by omega), if_neg k1, if_neg k2, if_neg k3]
    simp only [List.map_cons, List.map_nil, List.cons.injEq, Value.int.injEq, true_and, and_true]
    rw [u8_toNat_lt (by omega), u8_toNat_lt (by omega), u8_toNat_lt (by omega), u8_toNat_lt (by omega)]
    omega
set_option maxHeartbeats 1000000 in
set_option maxRecDepth 100000 in
theorem bld_WriteRune (B b : Nat) (l : List UInt8) (c : Nat) (hc : isC c = true) (w : World) (h : Bld w B b l) (hlen : l.length + 4 ≤ 140737488355328) (hBw : B ≤ w.heap.size) :
    Calls Tryd.prog 24 #[.pointer (some ⟨b, 0, none⟩), .int .i32 c] w fun e w' => (∃ v, e = .returned v) ∧ Bld w' B b (l ++ enc c) ∧ Below B w w' ∧ Apart b w w' := by
  have hlb := Lib.byteCells_length l
  have hcb := isC_iff.1 hc
  have Hrc := Lib.hid (rune_cells hc)
  have Hel := Lib.hid (enc_le c)
  have Hc := Lib.hid (bld_check B b (Lib.byteCells l) w h)
  have Hap' := fun (v : Value) (w : World) (hown : w.ownsRow B 5 1 v (Lib.byteCells l).length (Lib.byteCells l)) (hBw : B ≤ w.heap.size) => Tryd.utf8_AppendRune_plain B v (Lib.byteCells l).length (Lib.byteCells l) c (by omega) (by omega) w hown (by rw [hlb]; exact hlen) hBw
  rw [Hrc.out] at Hap'
  have HA := Lib.hid Hap'
  clear Hap'
  have Hll := Lib.hid hlb
  clear h hlb
  go_enter Tryd.func24, Tryd.ntmps24
  repeat' (first | go_values | go_skip | go_guarded | go_step | go_upon)
  refine Calls.mono (Hc.out) ?_
  rintro _ w1 ⟨rfl, h1, hb1, hsz1, hap1⟩
  dsimp only
  have Hap1 := Lib.hid hap1
  have Hsz1 := Lib.hid hsz1
  clear hap1 hsz1
  obtain ⟨hB, v, hbk, hown, hne⟩ := h1
  obtain ⟨ao, n0, cap, rfl⟩ : ∃ ao n0 cap, v = .slice ao n0 cap := by
    rcases hown.2 with ⟨hv, _⟩ | ⟨g, cap, cur, hv, _⟩
    · exact ⟨_, _, _, hv⟩
    · exact ⟨_, _, _, hv⟩
  have c0 : w1.cell? ⟨b, 0, none⟩ = some (.pointer (some ⟨b, 0, none⟩)) := by rw [Lib.cell_of_heap hbk]; rfl
  have c1 : w1.cell? ⟨b, 1, none⟩ = some (.slice ao n0 cap) := by rw [Lib.cell_of_heap hbk]; rfl
  have Hbk := Lib.hid hbk
  clear hbk
  repeat' (first | go_values | go_skip | go_guarded | go_step | go_upon)
  refine Calls.mono (HA.out _ _ hown (by have := hb1.size; omega)) ?_
  rintro _ w2 ⟨v', rfl, hown', o, hgrow⟩
  dsimp only
  have hlt : b < w1.heap.size := (Array.getElem?_eq_some_iff.1 Hbk.out).1
  have ha : Below w1.heap.size w1 (w1.alloc o) := (Below.refl _ _).alloc (Nat.le_refl _) _
  have hal := ha.block
  have has := ha.size
  have hb2 : w2.heap[b]? = some (.cells #[.pointer (some ⟨b, 0, none⟩), .slice ao n0 cap] 38 (0, 0)) := by
    rw [hgrow.block b (Nat.lt_of_lt_of_le hlt has) (fun e => hne e.symm), hal b hlt]
    exact Hbk.out
  have d1 : w2.cell? ⟨b, 1, none⟩ = some (.slice ao n0 cap) := by rw [Lib.cell_of_heap hb2]; rfl
  have f1 : w2.frozen? ⟨b, 1, none⟩ = false := Lib.frozen_of_heap hb2 1
  have Hput : Hid (Bld (w2.setCell ⟨b, 1, none⟩ v') B b (l ++ enc c)) := Lib.hid (.inr (by
    rw [bcells_append]
    exact Lib.BuilderAt.put (T := 38) (e := 5) hB hb2 (bs' := Lib.byteCells l ++ Lib.byteCells (enc c)) (by simpa using hown') (by decide)))
  have Hbel : Hid (Below B w (w2.setCell ⟨b, 1, none⟩ v')) := Lib.hid (((hb1.alloc (by have := hb1.size; omega) o).grown hgrow (by have := hb1.size; omega) (fun k hk => (hown.lt k hk).1)).setCell (p := ⟨b, 1, none⟩) hB _)
  have Hap : Hid (Apart b w (w2.setCell ⟨b, 1, none⟩ v')) := Lib.hid (by
    refine ⟨by have h1 := hgrow.size; have h2 := Hsz1.out; show w.heap.size ≤ (w2.setCell ⟨b, 1, none⟩ v').heap.size; simp only [World.setCell, Array.size_modify]; omega, fun k hk hkb hne' => ?_⟩
    rw [show (w2.setCell ⟨b, 1, none⟩ v').heap[k]? = w2.heap[k]? from Below.heap_setCell _ _ _ _ (by dsimp only; omega)]
    rw [hgrow.block k (by have := Hsz1.out; omega) (fun e => ?_), hal k (by rw [Hsz1.out]; exact hk), Hap1.out k hkb]
    rcases hown.2 with ⟨hv, _⟩ | ⟨g, cap, cur, hv, _, hg, _⟩
    · rw [hv] at e; simp [Value.ownBlock] at e
    · rw [hv] at e
      simp only [Value.ownBlock, Option.some.injEq] at e
      subst e
      rw [Hap1.out _ hkb] at hg
      exact hne' _ _ hg)
  obtain ⟨ao', n', cap', rfl⟩ : ∃ ao n' cap, v' = .slice ao n' cap := by
    rcases hown'.2 with ⟨hv, _⟩ | ⟨g, cap, cur, hv, _⟩
    · exact ⟨_, _, _, hv⟩
    · exact ⟨_, _, _, hv⟩
  clear hown' hgrow hown hb1 hb2 ha hal has
  repeat' (first | go_values | go_skip | go_guarded | go_step | go_upon)
  go_ret2
  exact ⟨⟨_, rfl⟩, Hput.out, Hbel.out, Hap.out⟩
end Go.Proofs.YtodicgphndoalaaDoor
