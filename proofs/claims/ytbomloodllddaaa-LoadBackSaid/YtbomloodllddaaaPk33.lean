/- Walks: lists of numbers as bytes (load.numbers, the reference's), whether a program can be written (load.writable, the reference's). Condition: none of the numbers is below nought. -/
import Derived.Test.YtbomloodllddaaaPk32
import Derived.Test.YtbomloodllddaaaPk29
import Derived.Test.YtbomloodllddaaaPk23
namespace Go.Proofs.Ytbomloodllddaaa
open Go.RowKit
theorem info_u64N : (Try.prog.info? 66).map (fun i => (i.zero, i.size, i.bytes)) = some (some (.int .u64 0), 1, 8) := by kernel_rfl
/-- a row of numbers, read as numbers -/
theorem row_rd {w : World} {v : Value} {l : List Nat} (h : RowOf u64C 1 w v l) : RdI w.heap.size .u64 w v (nats l) := by
  obtain ⟨a, cap, rfl, h1, _, h3⟩ := h.open (f := u64C) (sz := 1) (fun _ => rfl)
  refine ⟨a, cap, by rw [nats_len], by rw [nats_len]; exact h1, ?_⟩
  rcases h3 with h3 | ⟨b, off, rfl, hb, hc⟩
  · left
    have : l = [] := List.eq_nil_of_length_eq_zero h3
    rw [this]; rfl
  · refine .inr ⟨b, off, rfl, hb, fun i hi => ?_⟩
    rw [nats_len] at hi
    have := hc i l[i] 0 (List.getElem?_eq_getElem hi) (by decide)
    rw [Nat.mul_one, Nat.add_zero] at this
    rw [this, nats_getD l i hi]
    rfl
/-- a new block of four numbers -/
theorem row_four (w : World) (a b c d : Int) (e : TypeId) : RowOf intC 1 (w.alloc (.cells #[.int .i64 a, .int .i64 b, .int .i64 c, .int .i64 d] e)) (.slice (some ⟨w.heap.size, 0, none⟩) 4 4) [a, b, c, d] := by
  refine ⟨some ⟨w.heap.size, 0, none⟩, 4, rfl, Nat.le_refl _, by unfold maxLen; omega, rfl, .inr ⟨w.heap.size, 0, rfl, by simp, fun i hi => ?_⟩⟩
  rw [Nat.zero_add, cell_of_row _ w.heap.size i _ e (0, 0) (Go.heap_alloc_new w _)]
  rcases (show i = 0 ∨ i = 1 ∨ i = 2 ∨ i = 3 from by simp at hi; omega) with rfl | rfl | rfl | rfl <;> rfl
set_option maxRecDepth 100000 in
set_option maxHeartbeats 1000000 in
theorem load_numbers (v : Value) (l : List Int) (hl : Nums l) (hn : l.length ≤ 1000000) (w : World) (h : RowOf intC 1 w v l) :
    Calls Try.prog 26 #[v] w fun e w' => e = .returned (.string ⟨(vputs (natsI l)).toArray⟩) ∧ Below w.heap.size w w' := by
  obtain ⟨a, cap, rfl, hcap, hmx, hcell⟩ := h.open intC_len
  have HT := Lib.hid fun k hk => natsI_take l k hk
  have HN := Lib.hid fun k hk => nums_get hl k hk
  have HU := Lib.hid (natsI_u64 hl)
  have HG : Hid (∀ k, k < l.length → l[k]? = some (l.getD k 0)) := Lib.hid fun k hk => by rw [List.getD_eq_getElem?_getD, List.getElem?_eq_getElem hk]; rfl
  have HL : Hid ((natsI l).length = l.length) := Lib.hid (natsI_len l)
  have HTl : Hid (∀ k, k ≤ l.length → (nats (natsI (l.take k))).length = k) := Lib.hid fun k hk => by rw [nats_len, natsI_len, List.length_take]; omega
  have HA : Hid (l.take l.length = l) := Lib.hid (List.take_length)
  obtain ⟨n, hnn⟩ : ∃ n, n = l.length := ⟨_, rfl⟩
  rw [← hnn] at hcap hcell hn HT HN HG HL HTl HA ⊢
  unfold maxLen at hmx
  clear h hl hnn
  go_enter Try.func26, Try.ntmps26
  repeat' (first | go_values | go_skip | go_guarded | go_step | go_upon)
  go_loopw [3, 8] (fun s3 s8 wr => ∃ k : Nat, s8 = .int .i64 k ∧ k ≤ n ∧ Hid (OwnI w.heap.size 66 .u64 wr s3 (nats (natsI (l.take k)))) ∧ Below w.heap.size w wr) (fun _ s8 _ => n - (intOf s8).toNat)
  case atStart => exact ⟨0, rfl, Nat.zero_le _, Lib.hid (OwnI.nil _ _ _ _), Below.refl _ _⟩
  case round =>
    obtain ⟨k, rfl, hk, Ho, hbel⟩ := hrel
    have hsz := hbel.size
    by_cases hkl : k < n
    · rcases hcell with hcell | ⟨b, off, rfl, hbB, hcell⟩
      · omega
      have hc := hcell k _ 0 (HG.out k hkl) (by decide)
      rw [Nat.mul_one, Nat.add_zero] at hc
      have hx := HN.out k hkl
      have Hs := Lib.hid (HT.out k hkl)
      have Hlen := HTl.out k (by omega)
      generalize l.getD k 0 = x at hc hx Hs
      obtain ⟨y, rfl⟩ : ∃ y : Nat, x = y := ⟨x.toNat, by omega⟩
      have hc' : wr.cell? ⟨b, off + k, none⟩ = some (.int .i64 (y : Int)) := by rw [hbel.cell (show b < w.heap.size from hbB)]; exact hc
      have hy : U64 y := by unfold U64; omega
      have hyw : IntKind.u64.wrap (y : Int) = y := wu64 (by omega) hy
      clear hc hcell hx
      obtain ⟨L, hL⟩ : ∃ L, L = nats (natsI (l.take k)) := ⟨_, rfl⟩
      rw [← hL] at Ho Hlen
      have HLe : Hid (nats (natsI (l.take (k + 1))) = L ++ [(y : Int)]) := Lib.hid (by rw [Hs.out, nats_append, hL]; rfl)
      clear hL Hs
      repeat' (first | (at_builtin; refine app_ints w.heap.size 8 [_] Try.underlying26 info_u64N (by decide) rfl _ _ rfl rfl rfl rfl rfl Ho.out hsz (by omega) ?_; intro v1 w1 hown1 hb1 _) | go_values | go_skip | go_guarded | go_step | go_upon)
      go_roundw
      case rel => exact ⟨k + 1, by go_num, by omega, Lib.hid (by rw [HLe.out]; exact hown1), hbel.trans hb1⟩
      case measure => simp [intOf]; omega
    · obtain rfl : k = n := by omega
      rw [HA.out] at Ho
      repeat' (first | go_values | go_skip | go_guarded | go_step | go_upon)
      refine Calls.mono (wire_PutAll _ (natsI l) HU.out (by rw [HL.out]; omega) _ Ho.out.rd) ?_
      rintro _ w1 ⟨rfl, hb1⟩
      dsimp only
      repeat' (first | go_values | go_skip | go_guarded | go_step | go_upon)
      go_ret
      exact ⟨rfl, hbel.trans (hb1.mono hsz)⟩
set_option maxRecDepth 100000 in
set_option maxHeartbeats 1000000 in
theorem r25_numbers (v : Value) (l : List Int) (hl : Nums l) (hn : l.length ≤ 1000000) (w : World) (h : RowOf intC 1 w v l) :
    Calls Try.prog 34 #[v] w fun e w' => e = .returned (.string ⟨(vputs (natsI l)).toArray⟩) ∧ Below w.heap.size w w' := by
  obtain ⟨a, cap, rfl, hcap, hmx, hcell⟩ := h.open intC_len
  have HT := Lib.hid fun k hk => natsI_take l k hk
  have HN := Lib.hid fun k hk => nums_get hl k hk
  have HU := Lib.hid (natsI_u64 hl)
  have HG : Hid (∀ k, k < l.length → l[k]? = some (l.getD k 0)) := Lib.hid fun k hk => by rw [List.getD_eq_getElem?_getD, List.getElem?_eq_getElem hk]; rfl
  have HL : Hid ((natsI l).length = l.length) := Lib.hid (natsI_len l)
  have HTl : Hid (∀ k, k ≤ l.length → (nats (natsI (l.take k))).length = k) := Lib.hid fun k hk => by rw [nats_len, natsI_len, List.length_take]; omega
  have HA : Hid (l.take l.length = l) := Lib.hid (List.take_length)
  obtain ⟨n, hnn⟩ : ∃ n, n = l.length := ⟨_, rfl⟩
  rw [← hnn] at hcap hcell hn HT HN HG HL HTl HA ⊢
  unfold maxLen at hmx
  clear h hl hnn
  go_enter Try.func34, Try.ntmps34
  repeat' (first | go_values | go_skip | go_guarded | go_step | go_upon)
  go_loopw [3, 9] (fun s3 s8 wr => ∃ k : Nat, s8 = .int .i64 k ∧ k ≤ n ∧ Hid (OwnI w.heap.size 66 .u64 wr s3 (nats (natsI (l.take k)))) ∧ Below w.heap.size w wr) (fun _ s8 _ => n - (intOf s8).toNat)
  case atStart => exact ⟨0, rfl, Nat.zero_le _, Lib.hid (OwnI.lit w [] (Nat.le_refl _) 0 rfl (by unfold maxLen; omega)), (Below.refl _ _).alloc (Nat.le_refl _) _⟩
  case round =>
    obtain ⟨k, rfl, hk, Ho, hbel⟩ := hrel
    have hsz := hbel.size
    by_cases hkl : k < n
    · rcases hcell with hcell | ⟨b, off, rfl, hbB, hcell⟩
      · omega
      have hc := hcell k _ 0 (HG.out k hkl) (by decide)
      rw [Nat.mul_one, Nat.add_zero] at hc
      have hx := HN.out k hkl
      have Hs := Lib.hid (HT.out k hkl)
      have Hlen := HTl.out k (by omega)
      generalize l.getD k 0 = x at hc hx Hs
      obtain ⟨y, rfl⟩ : ∃ y : Nat, x = y := ⟨x.toNat, by omega⟩
      have hc' : wr.cell? ⟨b, off + k, none⟩ = some (.int .i64 (y : Int)) := by rw [hbel.cell (show b < w.heap.size from hbB)]; exact hc
      have hy : U64 y := by unfold U64; omega
      have hyw : IntKind.u64.wrap (y : Int) = y := wu64 (by omega) hy
      clear hc hcell hx
      obtain ⟨L, hL⟩ : ∃ L, L = nats (natsI (l.take k)) := ⟨_, rfl⟩
      rw [← hL] at Ho Hlen
      have HLe : Hid (nats (natsI (l.take (k + 1))) = L ++ [(y : Int)]) := Lib.hid (by rw [Hs.out, nats_append, hL]; rfl)
      clear hL Hs
      repeat' (first | (at_builtin; refine app_ints w.heap.size 8 [_] Try.underlying26 info_u64N (by decide) rfl _ _ rfl rfl rfl rfl rfl Ho.out hsz (by omega) ?_; intro v1 w1 hown1 hb1 _) | go_values | go_skip | go_guarded | go_step | go_upon)
      go_roundw
      case rel => exact ⟨k + 1, by go_num, by omega, Lib.hid (by rw [HLe.out]; exact hown1), hbel.trans hb1⟩
      case measure => simp [intOf]; omega
    · obtain rfl : k = n := by omega
      rw [HA.out] at Ho
      repeat' (first | go_values | go_skip | go_guarded | go_step | go_upon)
      refine Calls.mono (ref_PutAll _ (natsI l) HU.out (by rw [HL.out]; omega) _ Ho.out.rd) ?_
      rintro _ w1 ⟨rfl, hb1⟩
      dsimp only
      repeat' (first | go_values | go_skip | go_guarded | go_step | go_upon)
      go_ret
      exact ⟨rfl, hbel.trans (hb1.mono hsz)⟩
theorem check_writ (p : Prg) : writI p = if (checkI p).1 = 232 ∨ (checkI p).1 = 210 then (checkI p).1 else 0 := by
  unfold writI
  rcases shape_cases p with h | h | h | h
  · rw [h, if_neg (by decide)]
    have : checkI p = (0, 0) ∨ ∃ k, k < p.code.length ∧ checkI p = (231, (k : Int)) := by
      unfold checkI
      rw [if_pos h]
      exact wrong_cases p _
    rcases this with e | ⟨k, _, e⟩ <;> rw [e] <;> rfl
  all_goals rw [check_shape (by rw [h]; decide)]
set_option maxRecDepth 100000 in
set_option maxHeartbeats 1000000 in
theorem load_writable (p : Prg) (v : PV) (w : World) (H : PrgAt w v p) : Calls Try.prog 22 #[pgV p v] w fun e w' => e = .returned (.int .i64 (writI p)) ∧ Below w.heap.size w w' := by
  have HA := Lib.hid (ver_Check p v (w.alloc (.cells (pgC p v) 30)) (H.keep ((Below.refl _ _).alloc (Nat.le_refl _) _)))
  have HP : Hid (PBox (w.alloc (.cells (pgC p v) 30)) w.heap.size p v) := Lib.hid (PBox.new _ _ _)
  have Hw := Lib.hid (check_writ p)
  obtain ⟨c1, hc1⟩ : ∃ s, s = (checkI p).1 := ⟨_, rfl⟩
  obtain ⟨c2, hc2⟩ : ∃ s, s = (checkI p).2 := ⟨_, rfl⟩
  rw [← hc1, ← hc2] at HA
  rw [← hc1] at Hw
  generalize writI p = G at Hw ⊢
  obtain ⟨v1, v2, v3, v4, v5, v6⟩ := v
  clear hc1 hc2 H
  go_enter Try.func22, Try.ntmps22
  repeat' (first | (with_reducible refine load_pg HP.out _ rfl rfl ?_) | go_values | go_skip | go_guarded | go_step | go_upon)
  refine Calls.mono (HA.out) ?_
  rintro _ w1 ⟨rfl, hb1⟩
  dsimp only
  have HB : Hid (Below w.heap.size w w1) := Lib.hid (((Below.refl _ _).alloc (Nat.le_refl _) _).trans (hb1.mono (by simp)))
  clear HA HP hb1
  by_cases h1 : c1 = 232
  · subst h1
    have HG : Hid (G = 232) := Lib.hid (by rw [Hw.out]; rfl)
    clear Hw
    repeat' (first | go_values | go_skip | go_guarded | go_step | go_upon)
    go_ret
    exact ⟨ret_i HG.out.symm, HB.out⟩
  by_cases h2 : c1 = 210
  · subst h2
    have HG : Hid (G = 210) := Lib.hid (by rw [Hw.out]; rfl)
    clear Hw h1
    repeat' (first | go_values | go_skip | go_guarded | go_step | go_upon)
    go_ret
    exact ⟨ret_i HG.out.symm, HB.out⟩
  have HG : Hid (G = 0) := Lib.hid (by rw [Hw.out, if_neg (by omega)])
  have e1 : (c1 == 232) = false := beq_false_of_ne h1
  have e2 : (c1 == 210) = false := beq_false_of_ne h2
  clear Hw h1 h2
  repeat' (first | go_values | go_skip | go_guarded | go_step | go_upon)
  go_ret
  exact ⟨ret_i HG.out.symm, HB.out⟩
set_option maxRecDepth 100000 in
set_option maxHeartbeats 1000000 in
theorem r25_Writable (p : Prg) (v : PV) (w : World) (H : PrgAt w v p) : Calls Try.prog 31 #[pgV p v] w fun e w' => e = .returned (.int .i64 (writI p)) ∧ Below w.heap.size w w' := by
  have HA := Lib.hid (ref_Shape p v (w.alloc (.cells (pgC p v) 30)) (H.keep ((Below.refl _ _).alloc (Nat.le_refl _) _)))
  have HP : Hid (PBox (w.alloc (.cells (pgC p v) 30)) w.heap.size p v) := Lib.hid (PBox.new _ _ _)
  have Hw : Hid (writI p = if (shapeI p).1 = 232 ∨ (shapeI p).1 = 210 then (shapeI p).1 else 0) := Lib.hid rfl
  obtain ⟨c1, hc1⟩ : ∃ s, s = (shapeI p).1 := ⟨_, rfl⟩
  obtain ⟨c2, hc2⟩ : ∃ s, s = (shapeI p).2 := ⟨_, rfl⟩
  rw [← hc1, ← hc2] at HA
  rw [← hc1] at Hw
  generalize writI p = G at Hw ⊢
  obtain ⟨v1, v2, v3, v4, v5, v6⟩ := v
  clear hc1 hc2 H
  go_enter Try.func31, Try.ntmps31
  repeat' (first | (with_reducible refine load_pg HP.out _ rfl rfl ?_) | go_values | go_skip | go_guarded | go_step | go_upon)
  refine Calls.mono (HA.out) ?_
  rintro _ w1 ⟨rfl, hb1⟩
  dsimp only
  have HB : Hid (Below w.heap.size w w1) := Lib.hid (((Below.refl _ _).alloc (Nat.le_refl _) _).trans (hb1.mono (by simp)))
  clear HA HP hb1
  by_cases h1 : c1 = 232
  · subst h1
    have HG : Hid (G = 232) := Lib.hid (by rw [Hw.out]; rfl)
    clear Hw
    repeat' (first | go_values | go_skip | go_guarded | go_step | go_upon)
    go_ret
    exact ⟨ret_i HG.out.symm, HB.out⟩
  by_cases h2 : c1 = 210
  · subst h2
    have HG : Hid (G = 210) := Lib.hid (by rw [Hw.out]; rfl)
    clear Hw h1
    repeat' (first | go_values | go_skip | go_guarded | go_step | go_upon)
    go_ret
    exact ⟨ret_i HG.out.symm, HB.out⟩
  have HG : Hid (G = 0) := Lib.hid (by rw [Hw.out, if_neg (by omega)])
  have e1 : (c1 == 232) = false := beq_false_of_ne h1
  have e2 : (c1 == 210) = false := beq_false_of_ne h2
  clear Hw h1 h2
  repeat' (first | go_values | go_skip | go_guarded | go_step | go_upon)
  go_ret
  exact ⟨ret_i HG.out.symm, HB.out⟩
end Go.Proofs.Ytbomloodllddaaa
