/- Walks: lists of numbers as bytes (load.numbers, the reference's), whether a program can be written (load.writable, the reference's). Condition: none of the numbers is below nought. -/
import Derived.Test.YtbomloodllddaaaPk30
import Derived.Test.YtbomloodllddaaaPk27
import Derived.Test.YtbomloodllddaaaPk21
import Derived.Test.YtbomloodllddaaaPk22
namespace Go.Proofs.Ytbomloodllddaaa
open Go.RowKit
theorem info_u64N : (Try.prog.info? 66).map (fun i => (i.zero, i.size, i.bytes)) = some (some (.int .u64 0), 1, 8) := by kernel_rfl
/-- a row of numbers, read as numbers -/
theorem row_rd {w : World} {v : Value} {l : List Nat} (h : RowOf u64C 1 w v l) : RdI w.heap.size .u64 w v (nats l) := by
  obtain ⟨a, cap, rfl, h1, _, h3⟩ := h.open (f := u64C) (sz := 1) (fun _ => rfl)
  refine ⟨a, cap, by rw [nats_len], by rw [nats_len]; exact h1, ?_⟩
  rcases h3 with h3 | ⟨b, off, rfl, hb, hc⟩
  · left
    have : l = [] := List.eq_nil_of_length_eq_zero h3
    rw [this]; rfl
  · refine .inr ⟨b, off, rfl, hb, fun i hi => ?_⟩
    rw [nats_len] at hi
    have := hc i l[i] 0 (List.getElem?_eq_getElem hi) (by decide)
    rw [Nat.mul_one, Nat.add_zero] at this
    rw [this, nats_getD l i hi]
    rfl
/-- a new block of four numbers -/
theorem row_four (w : World) (a b c d : Int) (e : TypeId) : RowOf intC 1 (w.alloc (.cells #[.int .i64 a, .int .i64 b, .int .i64 c, .int .i64 d] e)) (.slice (some ⟨w.heap.size, 0, none⟩) 4 4) [a, b, c, d] := by
  refine ⟨some ⟨w.heap.size, 0, none⟩, 4, rfl, Nat.le_refl _, by unfold maxLen; omega, rfl, .inr ⟨w.heap.size, 0, rfl, by simp, fun i hi => ?_⟩⟩
  rw [Nat.zero_add, cell_of_row _ w.heap.size i _ e (0, 0) (Go.heap_alloc_new w _)]
  rcases (show i = 0 ∨ i = 1 ∨ i = 2 ∨ i = 3 from by simp at hi; omega) with rfl | rfl | rfl | rfl <;> rfl
set_option maxRecDepth 100000 in
set_option maxHeartbeats 1000000 in
theorem load_numbers (v : Value) (l : List Int) (hl : Nums l) (hn : l.length ≤ 1000000) (w : World) (h : RowOf intC 1 w v l) :
    Calls Try.prog 26 #[v] w fun e w' => e = .returned (.string ⟨(vputs (natsI l)).toArray⟩) ∧ Below w.heap.size w w' := by
  obtain ⟨a, cap, rfl, hcap, hmx, hcell⟩ := h.open intC_len
  have HT := Lib.hid fun k hk => natsI_take l k hk
  have HN := Lib.hid fun k hk => nums_get hl k hk
  have HU := Lib.hid (natsI_u64 hl)
  have HG : Hid (∀ k, k < l.length → l[k]? = some (l.getD k 0)) := Lib.hid fun k hk => by rw [List.getD_eq_getElem?_getD, List.getElem?_eq_getElem hk]; rfl
  have HL : Hid ((natsI l).length = l.length) := Lib.hid (natsI_len l)
  have HTl : Hid (∀ k, k ≤ l.length → (nats (natsI (l.take k))).length = k) := Lib.hid fun k hk => by rw [nats_len, natsI_len, List.length_take]; omega
  have HA : Hid (l.take l.length = l) := Lib.hid (List.take_length)
  obtain ⟨n, hnn⟩ : ∃ n, n = l.length := ⟨_, rfl⟩
  rw [← hnn] at hcap hcell hn HT HN HG HL HTl HA ⊢
  unfold maxLen at hmx
  clear h hl hnn
  go_enter Try.func26, Try.ntmps26
  repeat' (first | go_values | go_skip | go_guarded | go_step | go_upon)
  go_loopw [3, 8] (fun s3 s8 wr => ∃ k : Nat, s8 = .int .i64 k ∧ k ≤ n ∧ Hid (OwnI w.heap.size 66 .u64 wr s3 (nats (natsI (l.take k)))) ∧ Below w.heap.size w wr) (fun _ s8 _ => n - (intOf s8).toNat)
  case atStart => exact ⟨0, rfl, Nat.zero_le _, Lib.hid (OwnI.nil _ _ _ _), Below.refl _ _⟩
  case round =>
    obtain ⟨k, rfl, hk, Ho, hbel⟩ := hrel
    have hsz := hbel.size
    by_cases hkl : k < n
    · rcases hcell with hcell | ⟨b, off, rfl, hbB, hcell⟩
      · omega
      have hc := hcell k _ 0 (HG.out k hkl) (by decide)
      rw [Nat.mul_one, Nat.add_zero] at hc
      have hx := HN.out k hkl
      have Hs := Lib.hid (HT.out k hkl)
      have Hlen := HTl.out k (by omega)
      generalize l.getD k 0 = x at hc hx Hs
      obtain ⟨y, rfl⟩ : ∃ y : Nat, x = y := ⟨x.toNat, by omega⟩
      have hc' : wr.cell? ⟨b, off + k, none⟩ = some (.int .i64 (y : Int)) := by rw [hbel.cell (show b < w.heap.size from hbB)]; exact hc
      have hy : U64 y := by unfold U64; omega
      have hyw : IntKind.u64.wrap (y : Int) = y := wu64 (by omega) hy
      clear hc hcell hx
      obtain ⟨L, hL⟩ : ∃ L, L = nats (natsI (l.take k)) := ⟨_, rfl⟩
      rw [← hL] at Ho Hlen
      have HLe : Hid (nats (natsI (l.take (k + 1))) = L ++ [(y : Int)]) := Lib.hid (by rw [Hs.out, nats_append, hL]; rfl)
      clear hL Hs
      repeat' (first | (at_builtin; refine app_ints w.heap.size 8 [_] Try.underlying26 info_u64N (by decide) rfl _ _ rfl rfl rfl rfl rfl Ho.out hsz (by omega) ?_; intro v1 w1 hown1 hb1 _) | go_values | go_skip | go_guarded | go_step | go_upon)
      go_roundw
      case rel => exact ⟨k + 1, by go_num, by omega, Lib.hid (by rw [HLe.out]; exact hown1), hbel.trans hb1⟩
      case measure => simp [intOf]; omega
    · obtain rfl : k = n := by omega
      rw [HA.out] at Ho
      repeat' (first | go_values | go_skip | go_guarded | go_step | go_upon)
      refine Calls.mono (wire_PutAll _ (natsI l) HU.out (by rw [HL.out]; omega) _ Ho.out.rd) ?_
      rintro _ w1 ⟨rfl, hb1⟩
      dsimp only
      repeat' (first | go_values | go_skip | go_guarded | go_step | go_upon)
      go_ret
      exact ⟨rfl, hbel.trans (hb1.mono hsz)⟩
set_option maxRecDepth 100000 in
set_option maxHeartbeats 1000000 in
theorem r25_numbers (v : Value) (l : List Int) (hl : Nums l) (hn : l.length ≤ 1000000) (w : World) (h : RowOf intC 1 w v l) :
    Calls Try.prog 34 #[v] w fun e w' => e = .returned (.string ⟨(vputs (natsI l)).toArray⟩) ∧ Below w.heap.size w w' := by
  obtain ⟨a, cap, rfl, hcap, hmx, hcell⟩ := h.open intC_len
  have HT := Lib.hid fun k hk => natsI_take l k hk
  have HN := Lib.hid fun k hk => nums_get hl k hk
  have HU := Lib.hid (natsI_u64 hl)
  have HG : Hid (∀ k, k < l.length → l[k]? = some (l.getD k 0)) := Lib.hid fun k hk => by rw [List.getD_eq_getElem?_getD, List.getElem?_eq_getElem hk]; rfl
  have HL : Hid ((natsI l).length = l.length) := Lib.hid (natsI_len l)
  have HTl : Hid (∀ k, k ≤ l.length → (nats (natsI (l.take k))).length = k) := Lib.hid fun k hk => by rw [nats_len, natsI_len, List.length_take]; omega
  have HA : Hid (l.take l.length = l) := Lib.hid (List.take_length)
  obtain ⟨n, hnn⟩ : ∃ n, n = l.length := ⟨_, rfl⟩
  rw [← hnn] at hcap hcell hn HT HN HG HL HTl HA ⊢
  unfold maxLen at hmx
  clear h hl hnn
  go_enter Try.func34, Try.ntmps34
  repeat' (first | go_values | go_skip | go_guarded | go_step | go_upon)
  go_loopw [3, 9] (fun s3 s8 wr => ∃ k : Nat, s8 = .int .i64 k ∧ k ≤ n ∧ Hid (OwnI w.heap.size 66 .u64 wr s3 (nats (natsI (l.take k)))) ∧ Below w.heap.size w wr) (fun _ s8 _ => n - (intOf s8).toNat)
  case atStart => exact ⟨0, rfl, Nat.zero_le _, Lib.hid (OwnI.lit w [] (Nat.le_refl _) 0 rfl (by unfold maxLen; omega)), (Below.refl _ _).alloc (Nat.le_refl _) _⟩
  case round =>
    obtain ⟨k, rfl, hk, Ho, hbel⟩ := hrel
    have hsz := hbel.size
    by_cases hkl : k < n
    · rcases hcell with hcell | ⟨b, off, rfl, hbB, hcell⟩
      · omega
      have hc := hcell k _ 0 (HG.out k hkl) (by decide)
      rw [Nat.mul_one, Nat.add_zero] at hc
      have hx := HN.out k hkl
      have Hs := Lib.hid (HT.out k hkl)
      have Hlen := HTl.out k (by omega)
      generalize l.getD k 0 = x at hc hx Hs
      obtain ⟨y, rfl⟩ : ∃ y : Nat, x = y := ⟨x.toNat, by omega⟩
      have hc' : wr.cell? ⟨b, off + k, none⟩ = some (.int .i64 (y : Int)) := by rw [hbel.cell (show b < w.heap.size from hbB)]; exact hc
      have hy : U64 y := by unfold U64; omega
      have hyw : IntKind.u64.wrap (y : Int) = y := wu64 (by omega) hy
      clear hc hcell hx
      obtain ⟨L, hL⟩ : ∃ L, L = nats (natsI (l.take k)) := ⟨_, rfl⟩
      rw [← hL] at Ho Hlen
      have HLe : Hid (nats (natsI (l.take (k + 1))) = L ++ [(y : Int)]) := Lib.hid (by rw [Hs.out, nats_append, hL]; rfl)
      clear hL Hs
      repeat' (first | (at_builtin; refine app_ints w.heap.size 8 [_] Try.underlying26 info_u64N (by decide) rfl _ _ rfl rfl rfl rfl rfl Ho.out hsz (by omega) ?_; intro v1 w1 hown1 hb1 _) | go_values | go_skip | go_guarded | go_step | go_upon)
      go_roundw
      case rel => exact ⟨k + 1, by go_num, by omega, Lib.hid (by rw [HLe.out]; exact hown1), hbel.trans hb1⟩
      case measure => simp [intOf]; omega
    · obtain rfl : k = n := by omega
      rw [HA.out] at Ho
      repeat' (first | go_values | go_skip | go_guarded | go_step | go_upon)
      refine Calls.mono (ref_PutAll _ (natsI l) HU.out (by rw [HL.out]; omega) _ Ho.out.rd) ?_
      rintro _ w1 ⟨rfl, hb1⟩
      dsimp only
      repeat' (first | go_values | go_skip | go_guarded | go_step | go_upon)
      go_ret
      exact ⟨rfl, hbel.trans (hb1.mono hsz)⟩
theorem check_writ (p : Prg) : writI p = if (checkI p).1 = 232 ∨ (checkI p).1 = 210 then (checkI p).1 else 0 := by
  unfold writI
  rcases shape_cases p with h | h | h | h
  · rw [h, if_neg (by decide)]
    have : checkI p = (0, 0) ∨ ∃ k, k < p.code.length ∧ checkI p = (231, (k : Int)) := by
      unfold checkI
      rw [if_pos h]
      exact wrong_cases p _
    rcases this with e | ⟨k, _, e⟩ <;> rw [e] <;> rfl
  all_goals rw [check_shape (by rw [h]; decide)]
set_option maxRecDepth 100000 in
set_option maxHeartbeats 1000000 in
theorem load_writable (p : Prg) (v : PV) (w : World) (H : PrgAt w v p) : Calls Try.prog 22 #[pgV p v] w fun e w' => e = .returned (.int .i64 (writI p)) ∧ Below w.heap.size w w' := by
  have HA := Lib.hid (ver_Check p v (w.alloc (.cells (pgC p v) 30)) (H.keep ((Below.refl _ _).alloc (Nat.le_refl _) _)))
  have HP : Hid (PBox (w.alloc (.cells (pgC p v) 30)) w.heap.size p v) := Lib.hid (PBox.new _ _ _)
  have Hw := Lib.hid (check_writ p)
  obtain ⟨c1, hc1⟩ : ∃ s, s = (checkI p).1 := ⟨_, rfl⟩
  obtain ⟨c2, hc2⟩ : ∃ s, s = (checkI p).2 := ⟨_, rfl⟩
  rw [← hc1, ← hc2] at HA
  rw [← hc1] at Hw
  generalize writI p = G at Hw ⊢
  obtain ⟨v1, v2, v3, v4, v5, v6⟩ := v
  clear hc1 hc2 H
  go_enter Try.func22, Try.ntmps22
  repeat' (first | (with_reducible refine load_pg HP.out _ rfl rfl ?_) | go_values | go_skip | go_guarded | go_step | go_upon)
  refine Calls.mono (HA.out) ?_
  rintro _ w1 ⟨rfl, hb1⟩
  dsimp only
  have HB : Hid (Below w.heap.size w w1) := Lib.hid (((Below.refl _ _).alloc (Nat.le_refl _) _).trans (hb1.mono (by simp)))
  clear HA HP hb1
  by_cases h1 : c1 = 232
  · subst h1
    have HG : Hid (G = 232) := Lib.hid (by rw [Hw.out]; rfl)
    clear Hw
    repeat' (first | go_values | go_skip | go_guarded | go_step | go_upon)
    go_ret
    exact ⟨ret_i HG.out.symm, HB.out⟩
  by_cases h2 : c1 = 210
  · subst h2
    have HG : Hid (G = 210) := Lib.hid (by rw [Hw.out]; rfl)
    clear Hw h1
    repeat' (first | go_values | go_skip | go_guarded | go_step | go_upon)
    go_ret
    exact ⟨ret_i HG.out.symm, HB.out⟩
  have HG : Hid (G = 0) := Lib.hid (by rw [Hw.out, if_neg (by omega)])
  have e1 : (c1 == 232) = false := beq_false_of_ne h1
  have e2 : (c1 == 210) = false := beq_false_of_ne h2
  clear Hw h1 h2
  repeat' (first | go_values | go_skip | go_guarded | go_step | go_upon)
  go_ret
  exact ⟨ret_i HG.out.symm, HB.out⟩
set_option maxRecDepth 100000 in
set_option maxHeartbeats 1000000 in
theorem r25_Writable (p : Prg) (v : PV) (w : World) (H : PrgAt w v p) : Calls Try.prog 31 #[pgV p v] w fun e w' => e = .returned (.int .i64 (writI p)) ∧ Below w.heap.size w w' := by
  have HA := Lib.hid (ref_Shape p v (w.alloc (.cells (pgC p v) 30)) (H.keep ((Below.refl _ _).alloc (Nat.le_refl _) _)))
  have HP : Hid (PBox (w.alloc (.cells (pgC p v) 30)) w.heap.size p v) := Lib.hid (PBox.new _ _ _)
  have Hw : Hid (writI p = if (shapeI p).1 = 232 ∨ (shapeI p).1 = 210 then (shapeI p).1 else 0) := Lib.hid rfl
  obtain ⟨c1, hc1⟩ : ∃ s, s = (shapeI p).1 := ⟨_, rfl⟩
  obtain ⟨c2, hc2⟩ : ∃ s, s = (shapeI p).2 := ⟨_, rfl⟩
  rw [← hc1, ← hc2] at HA
  rw [← hc1] at Hw
  generalize writI p = G at Hw ⊢
  obtain ⟨v1, v2, v3, v4, v5, v6⟩ := v
  clear hc1 hc2 H
  go_enter Try.func31, Try.ntmps31
  repeat' (first | (with_reducible refine load_pg HP.out _ rfl rfl ?_) | go_values | go_skip | go_guarded | go_step | go_upon)
  refine Calls.mono (HA.out) ?_
  rintro _ w1 ⟨rfl, hb1⟩
  dsimp only
  have HB : Hid (Below w.heap.size w w1) := Lib.hid (((Below.refl _ _).alloc (Nat.le_refl _) _).trans (hb1.mono (by simp)))
  clear HA HP hb1
  by_cases h1 : c1 = 232
  · subst h1
    have HG : Hid (G = 232) := Lib.hid (by rw [Hw.out]; rfl)
    clear Hw
    repeat' (first | go_values | go_skip | go_guarded | go_step | go_upon)
    go_ret
    exact ⟨ret_i HG.out.symm, HB.out⟩
  by_cases h2 : c1 = 210
  · subst h2
    have HG : Hid (G = 210) := Lib.hid (by rw [Hw.out]; rfl)
    clear Hw h1
    repeat' (first | go_values | go_skip | go_guarded | go_step | go_upon)
    go_ret
    exact ⟨ret_i HG.out.symm, HB.out⟩
  have HG : Hid (G = 0) := Lib.hid (by rw [Hw.out, if_neg (by omega)])
  have e1 : (c1 == 232) = false := beq_false_of_ne h1
  have e2 : (c1 == 210) = false := beq_false_of_ne h2
  clear Hw h1 h2
  repeat' (first | go_values | go_skip | go_guarded | go_step | go_upon)
  go_ret
  exact ⟨ret_i HG.out.symm, HB.out⟩
end Go.Proofs.Ytbomloodllddaaa
/- Walk: a program is written as bytes (load.Encode, P25.1). Condition: the program lies in memory. -/
namespace Go.Proofs.Ytbomloodllddaaa
open Go.RowKit
theorem strC_len25 (l : List UInt8) : (strC l).length = 1 := rfl
theorem ba_append2 (a b : List UInt8) : (⟨a.toArray⟩ : ByteArray) ++ ⟨b.toArray⟩ = ⟨(a ++ b).toArray⟩ := ba_append a ⟨b.toArray⟩
theorem u32C_len25 (n : Nat) : (u32C n).length = 1 := rfl
theorem Bld.elsC {w w' : World} {B C g g2 : Nat} {l : List UInt8} {cs : Array Value} {fz : Nat × Nat} (h : Bld w B g l) (he : ElseC C g2 w w') (hC : w.heap.size ≤ C) (hg : g ≠ g2) (h2 : w.heap[g2]? = some (.cells cs 60 fz)) : Bld w' B g l := by
  have one : ∀ p, Lib.BuilderAt 60 5 B g p (Lib.byteCells l) w → Lib.BuilderAt 60 5 B g p (Lib.byteCells l) w' := by
    rintro p ⟨h1, v, h3, h4, h5⟩
    have hlt : g < w.heap.size := (Array.getElem?_eq_some_iff.1 h3).1
    have hv : v.ownBlock ≠ some g2 := Lib.ownBlock_ne h4 h2 (by decide)
    refine ⟨h1, v, by rw [he.block g (by omega) hg]; exact h3, ⟨h4.1, ?_⟩, h5⟩
    rcases h4.2 with h6 | ⟨k, cap, cur, rfl, hk, hh, rest⟩
    · exact .inl h6
    · refine .inr ⟨k, cap, cur, rfl, hk, ?_, rest⟩
      rw [he.block k (by have := (Array.getElem?_eq_some_iff.1 hh).1; omega) (fun e => hv (by rw [e]; rfl))]
      exact hh
  rcases h with h | h
  · exact .inl (one _ h)
  · exact .inr (one _ h)
/-- the first Builder is being written -/
structure T1 (w0 : World) (p : Prg) (v : PV) (gp g1 : Nat) (l : List UInt8) (w : World) : Prop where
  bel : Below w0.heap.size w0 w
  box : PBox w gp p v
  bld : Bld w g1 g1 l
  nxt : w.heap[g1 + 1]? = some (.cells #[.pointer none, .slice none 0 0] 60 (0, 0))
  low : gp < g1
  hB : w0.heap.size ≤ g1
theorem T1.step {w0 w w' : World} {p : Prg} {v : PV} {gp g1 : Nat} {l : List UInt8} (h : T1 w0 p v gp g1 l w) (hb : Below w.heap.size w w') : T1 w0 p v gp g1 l w' :=
  ⟨h.bel.trans (hb.mono h.bel.size), h.box.keep hb, h.bld.keep hb (Nat.le_refl _), by rw [hb.block _ (Array.getElem?_eq_some_iff.1 h.nxt).1]; exact h.nxt, h.low, h.hB⟩
theorem T1.write {w0 w : World} {p : Prg} {v : PV} {gp g1 : Nat} {l : List UInt8} (h : T1 w0 p v gp g1 l w) (x : List UInt8) (hlen : l.length + x.length ≤ 140737488355328) :
    Calls Try.prog 24 #[.pointer (some ⟨g1, 0, none⟩), .string ⟨x.toArray⟩] w fun e w' => (∃ n : Int, e = .returned (.tuple #[.int .i64 n, .nilIface])) ∧ T1 w0 p v gp g1 (l ++ x) w' := by
  refine (bld_WriteString g1 g1 l ⟨x.toArray⟩ w h.bld (by rw [arrP_size]; exact hlen) (Nat.le_of_lt h.bld.lt)).mono ?_
  rintro _ w' ⟨rfl, hb, hbel, hap⟩
  refine ⟨⟨_, rfl⟩, h.bel.trans (hbel.mono h.hB), ?_, hb, hap.row h.nxt (by decide) (by omega), h.low, h.hB⟩
  unfold PBox
  rw [hbel.block gp h.low]; exact h.box
/-- the second Builder is being written -/
structure T2 (w0 : World) (p : Prg) (v : PV) (gp g1 : Nat) (L : List UInt8) (wC : World) (l : List UInt8) (w : World) : Prop where
  t1 : T1 w0 p v gp g1 L wC
  els : ElseC wC.heap.size (g1 + 1) wC w
  b2 : Bl2 w wC.heap.size (g1 + 1) l
theorem T2.start {w0 w : World} {p : Prg} {v : PV} {gp g1 : Nat} {L : List UInt8} (h : T1 w0 p v gp g1 L w) : T2 w0 p v gp g1 L w [] w := ⟨h, ElseC.refl _ _ _, Bl2.of_fresh _ h.nxt⟩
theorem T2.step {w0 w w' wC : World} {p : Prg} {v : PV} {gp g1 : Nat} {L l : List UInt8} (h : T2 w0 p v gp g1 L wC l w) (hb : Below w.heap.size w w') : T2 w0 p v gp g1 L wC l w' :=
  ⟨h.t1, h.els.trans (ElseC.of_below (hb.mono h.els.size)), h.b2.keep hb (Nat.le_refl _)⟩
theorem T2.write {w0 w wC : World} {p : Prg} {v : PV} {gp g1 : Nat} {L l : List UInt8} (h : T2 w0 p v gp g1 L wC l w) (x : List UInt8) (hlen : l.length + x.length ≤ 140737488355328) :
    Calls Try.prog 24 #[.pointer (some ⟨g1 + 1, 0, none⟩), .string ⟨x.toArray⟩] w fun e w' => (∃ n : Int, e = .returned (.tuple #[.int .i64 n, .nilIface])) ∧ T2 w0 p v gp g1 L wC (l ++ x) w' := by
  refine (bl2_WriteString wC.heap.size (g1 + 1) l ⟨x.toArray⟩ w h.b2 (by rw [arrP_size]; exact hlen) h.els.size).mono ?_
  rintro _ w' ⟨rfl, hb, hel⟩
  exact ⟨⟨_, rfl⟩, h.t1, h.els.trans hel, hb⟩
theorem T2.bel {w0 w wC : World} {p : Prg} {v : PV} {gp g1 : Nat} {L l : List UInt8} (h : T2 w0 p v gp g1 L wC l w) : Below w0.heap.size w0 w :=
  h.t1.bel.trans (h.els.below h.t1.bel.size (by have := h.t1.hB; omega))
theorem T2.box {w0 w wC : World} {p : Prg} {v : PV} {gp g1 : Nat} {L l : List UInt8} (h : T2 w0 p v gp g1 L wC l w) : PBox w gp p v := by
  unfold PBox
  rw [h.els.block gp h.t1.box.lt (by have := h.t1.low; omega)]; exact h.t1.box
theorem T2.bld1 {w0 w wC : World} {p : Prg} {v : PV} {gp g1 : Nat} {L l : List UInt8} (h : T2 w0 p v gp g1 L wC l w) : Bld w w0.heap.size g1 L := by
  have hb := h.t1.bld.elsC h.els (Nat.le_refl _) (by omega) h.t1.nxt
  have hB := h.t1.hB
  rcases hb with ⟨h1, v, h2, h3, h4⟩ | ⟨h1, v, h2, h3, h4⟩
  · exact .inl ⟨hB, v, h2, owns_base h3 hB, h4⟩
  · exact .inr ⟨hB, v, h2, owns_base h3 hB, h4⟩
theorem T2.bld2 {w0 w wC : World} {p : Prg} {v : PV} {gp g1 : Nat} {L l : List UInt8} (h : T2 w0 p v gp g1 L wC l w) : Bld w w0.heap.size (g1 + 1) l :=
  h.b2.bld (by have := h.t1.hB; omega) h.t1.bel.size
theorem T2.gsz {w0 w wC : World} {p : Prg} {v : PV} {gp g1 : Nat} {L l : List UInt8} (h : T2 w0 p v gp g1 L wC l w) : g1 + 1 < w.heap.size := Nat.lt_of_lt_of_le (Array.getElem?_eq_some_iff.1 h.t1.nxt).1 h.els.size
theorem T2.in1 {w0 w wC : World} {p : Prg} {v : PV} {gp g1 : Nat} {L l : List UInt8} (h : T2 w0 p v gp g1 L wC l w) (h0 : L ≠ []) : ∃ r, g1 ≤ r ∧ r < wC.heap.size ∧ r ≠ g1 ∧ r ≠ g1 + 1 ∧ InB w g1 r L := by
  have key : ∀ p v, wC.heap[g1]? = some (.cells #[p, v] 60 (0, 0)) → wC.ownsRow g1 5 1 v (Lib.byteCells L).length (Lib.byteCells L) → ∃ r, g1 ≤ r ∧ r < wC.heap.size ∧ r ≠ g1 ∧ r ≠ g1 + 1 ∧ InB w g1 r L := by
    intro p v hc ho
    rw [Lib.byteCells_length] at ho
    obtain ⟨r, h1, h2, h3, h4⟩ := InB.of h0 hc ho
    obtain ⟨p', cap, cur, h5, h6, rest⟩ := h4
    have h7 : r ≠ g1 + 1 := fun e => by
      subst e
      have := h.t1.nxt
      rw [h6] at this; simp at this
    refine ⟨r, h1, h2, h3, h7, p', cap, cur, ?_, ?_, rest⟩
    · rw [h.els.block g1 (Array.getElem?_eq_some_iff.1 h5).1 (by omega)]; exact h5
    · rw [h.els.block r h2 h7]; exact h6
  rcases h.t1.bld with ⟨_, v, h2, h3, _⟩ | ⟨_, v, h2, h3, _⟩
  · exact key _ v h2 h3
  · exact key _ v h2 h3
theorem T2.in2 {w0 w wC : World} {p : Prg} {v : PV} {gp g1 : Nat} {L l : List UInt8} (h : T2 w0 p v gp g1 L wC l w) (h0 : l ≠ []) : ∃ r, wC.heap.size ≤ r ∧ r ≠ g1 + 1 ∧ InB w (g1 + 1) r l := by
  obtain ⟨p, v, _, hc, ho⟩ := h.b2
  obtain ⟨r, h1, _, h3, h4⟩ := InB.of h0 hc ho
  exact ⟨r, h1, h3, h4⟩
theorem OwnI.one {B : Nat} {e : TypeId} {k : IntKind} {w w' : World} {v : Value} {l : List Int} {r : Nat} (h : OwnI B e k w v l) (ho : OneB r w w') (hr : r < B ∨ ∃ cs t fz, w.heap[r]? = some (.cells cs t fz) ∧ t ≠ e) : OwnI B e k w' v l := by
  refine OwnC.block h fun g hg => ho.block g fun e' => ?_
  subst e'
  rcases hr with hr | ⟨cs, t, fz, hc, ht⟩
  · have := h.below hg; omega
  · rcases h.2 with ⟨rfl, _⟩ | ⟨g', cap, cur, fz', rfl, _, hg', _⟩
    · simp [Value.ownBlock] at hg
    · simp only [Value.ownBlock, Option.some.injEq] at hg
      subst hg
      rw [hc] at hg'; simp at hg'
      exact ht hg'.2.1
theorem textsTo_ne (p : Prg) (k : Nat) : textsTo p k ≠ [] := fun h => by
  have := vput_pos p.texts.length
  unfold textsTo at h
  have h1 := (List.append_eq_nil_iff.1 h).1
  rw [h1] at this; simp at this
theorem tabsTo_ne (p : Prg) (k : Nat) : tabsTo p k ≠ [] := fun h => by
  have := vput_pos p.tabs.length
  unfold tabsTo at h
  have h1 := (List.append_eq_nil_iff.1 h).1
  rw [h1] at this; simp at this
/-- five sections in a new block -/
theorem row_secs (w : World) (x1 x2 x3 x4 x5 : List UInt8) (s5 : ByteArray) (h5 : s5 = ⟨x5.toArray⟩) (e : TypeId) : RowOf secC 2 (w.alloc (.cells #[.int .u64 1, .string ⟨x1.toArray⟩, .int .u64 2, .string ⟨x2.toArray⟩, .int .u64 3, .string ⟨x3.toArray⟩, .int .u64 4, .string ⟨x4.toArray⟩, .int .u64 5, .string s5] e)) (.slice (some ⟨w.heap.size, 0, none⟩) 5 5) [(1, x1), (2, x2), (3, x3), (4, x4), (5, x5)] := by
  subst h5
  refine ⟨some ⟨w.heap.size, 0, none⟩, 5, rfl, Nat.le_refl _, by unfold maxLen; omega, rfl, .inr ⟨w.heap.size, 0, rfl, by simp, fun i hi => ?_⟩⟩
  rw [Nat.zero_add, cell_of_row _ w.heap.size i _ e (0, 0) (Go.heap_alloc_new w _)]
  rcases (show i = 0 ∨ i = 1 ∨ i = 2 ∨ i = 3 ∨ i = 4 ∨ i = 5 ∨ i = 6 ∨ i = 7 ∨ i = 8 ∨ i = 9 from by simp at hi; omega) with rfl | rfl | rfl | rfl | rfl | rfl | rfl | rfl | rfl | rfl <;> rfl
theorem ret_pi {a : List UInt8 × Int} {b : List UInt8 × Int} (h : a = b) : Ending.returned (.tuple #[.string ⟨a.1.toArray⟩, .int .i64 a.2]) = Ending.returned (.tuple #[.string ⟨b.1.toArray⟩, .int .i64 b.2]) := by rw [h]
theorem wp_region_anyG {P : Program} {id : Nat} {Q : Exit → Act → World → Prop} {a : Act} {w : World} {ops : Array Oper} (hm : P.follows .mixedOrders = true) (C : World → Prop)
    (h : wpAnyC P .any ops (CG C) Q ops.size (Array.replicate ops.size false) a w.drew) : (Code.region id ops true).wp P Q a w :=
  wp_region_any hm (wpAnyC.any _ _ _ _ h)
theorem genG {P : Program} {md : Region.Mode} {ops : Array Oper} {C : World → Prop} {Q : Exit → Act → World → Prop} {fuel : Nat} {listed : Array Bool} {a : Act} {w : World} (F : World → Prop) (hF : F w) (h : ∀ w', F w' → wpAnyC P md ops C Q fuel listed a w') : wpAnyC P md ops C Q fuel listed a w := h w hF
set_option maxRecDepth 100000 in
set_option maxHeartbeats 4000000 in
theorem load_Encode (p : Prg) (v : PV) (w : World) (H : PrgAt w v p) : Calls Try.prog 11 #[pgV p v] w fun e w' => e = .returned (.tuple #[.string ⟨(encI p).1.toArray⟩, .int .i64 (encI p).2]) ∧ Below w.heap.size w w' := by
  have HH := Lib.hid H
  have HF := Lib.hid H.forms
  have HA := Lib.hid fun w H => load_writable p v w H
  have HP : Hid (PBox (w.alloc (.cells (pgC p v) 30)) w.heap.size p v) := Lib.hid (PBox.new _ _ _)
  have Hb0 : Hid (Below w.heap.size w (w.alloc (.cells (pgC p v) 30))) := Lib.hid ((Below.refl _ _).alloc (Nat.le_refl _) _)
  have HE : Hid (encI p = if writI p ≠ 0 then ([], writI p) else putP (secsI p)) := Lib.hid rfl
  have HW : Hid (writI p = 0 → Wrt p) := Lib.hid fun h => writ_wrt h
  generalize encI p = G at HE ⊢
  generalize writI p = e1 at HA HE HW
  obtain ⟨ac, cc, at', ct, ax, cx, as', cs, ak, ck, av, cv, hv⟩ := HF.out
  have HV := Lib.hid hv
  clear H HF hv
  obtain ⟨vc, vt, vx, vs, vk, vv⟩ := v
  by_cases hz : e1 = 0
  rotate_left
  · have HG : Hid (G = ([], e1)) := Lib.hid (by rw [HE.out, if_pos hz])
    have hne : (e1 != 0) = true := by rw [bne_iff_ne]; exact hz
    clear HE HW hz
    go_enter Try.func11, Try.ntmps11
    repeat' (first | (with_reducible refine load_pg HP.out _ rfl rfl ?_) | go_values | go_skip | go_guarded | go_step | go_upon)
    refine Calls.mono (HA.out _ (HH.out.keep Hb0.out)) ?_
    rintro _ w1 ⟨rfl, hb1⟩
    dsimp only
    have B1 := Lib.hid (Hb0.out.trans (hb1.mono Hb0.out.size))
    clear hb1 HP Hb0 HA
    repeat' (first | go_values | go_skip | go_guarded | go_step | go_upon)
    go_ret2
    exact ⟨ret_pi HG.out.symm, B1.out⟩
  subst hz
  have HG : Hid (G = putP (secsI p)) := Lib.hid (by rw [HE.out]; rfl)
  have HR := Lib.hid (HW.out rfl)
  clear HE HW
  simp only [PV.mk.injEq] at HV
  obtain ⟨hv1, hv2, hv3, hv4, hv5, hv6⟩ := HV.out
  have h1 := Lib.hid hv1
  have h2 := Lib.hid hv2
  have h3 := Lib.hid hv3
  have h4 := Lib.hid hv4
  have h5 := Lib.hid hv5
  have h6 := Lib.hid hv6
  clear hv1 hv2 hv3 hv4 hv5 hv6 HV
  obtain ⟨gp, hgp⟩ : ∃ g, g = w.heap.size := ⟨_, rfl⟩
  go_enter Try.func11, Try.ntmps11
  repeat' (first | (with_reducible refine load_pg HP.out _ rfl rfl ?_) | go_values | go_skip | go_guarded | go_step | go_upon)
  refine Calls.mono (HA.out _ (HH.out.keep Hb0.out)) ?_
  rintro _ w1 ⟨rfl, hb1⟩
  dsimp only
  have P1 := Lib.hid (HP.out.keep hb1)
  have B1 := Lib.hid (Hb0.out.trans (hb1.mono Hb0.out.size))
  rw [← hgp] at P1 ⊢
  have hgB : w.heap.size ≤ gp := by omega
  have hgw : gp < w1.heap.size := P1.out.lt
  clear hb1 HP Hb0 HA hgp
  have c4 : w1.cell? ⟨gp, 4, none⟩ = some vc := P1.out.cell 4
  rw [h1.out] at c4
  have HC := Lib.hid (by have h := (HH.out.keep B1.out).code; dsimp only at h; rw [h1.out] at h; exact isa_Put _ _ _ h)
  rw [HR.out.code] at HC
  repeat' (first | go_values | go_skip | go_guarded | go_step | go_upon)
  refine Calls.mono (HC.out) ?_
  rintro _ w2 ⟨rfl, hb2⟩
  dsimp only
  have P2 := Lib.hid (P1.out.keep hb2)
  have B2 := Lib.hid (B1.out.trans (hb2.mono B1.out.size))
  clear hb2 P1 B1 HC c4 hgw
  have hgw2 : gp < w2.heap.size := P2.out.lt
  have HS : Hid (secsI p = [(1, sec1 p), (2, (putI p.code).1), (3, sec3 p), (4, sec4 p), (5, sec5 p)]) := Lib.hid rfl
  generalize (putI p.code).1 = cb at HS ⊢
  have HT : Hid (T1 w p ⟨vc, vt, vx, vs, vk, vv⟩ gp w2.heap.size [] ((w2.alloc (.cells #[.pointer none, .slice none 0 0] 60)).alloc (.cells #[.pointer none, .slice none 0 0] 60))) := Lib.hid (by
    have hb : Below w2.heap.size w2 ((w2.alloc (.cells #[.pointer none, .slice none 0 0] 60)).alloc (.cells #[.pointer none, .slice none 0 0] 60)) := ((Below.refl _ _).alloc (Nat.le_refl _) _).alloc (by simp) _
    refine ⟨B2.out.trans (hb.mono B2.out.size), P2.out.keep hb, (Bld.fresh w2).keep ((Below.refl _ _).alloc (Nat.le_refl _) _) (by simp), ?_, hgw2, B2.out.size⟩
    have := Go.heap_alloc_new (w2.alloc (.cells #[.pointer none, .slice none 0 0] 60)) (.cells #[.pointer none, .slice none 0 0] 60)
    simpa using this)
  have c5 : ((w2.alloc (.cells #[.pointer none, .slice none 0 0] 60)).alloc (.cells #[.pointer none, .slice none 0 0] 60)).cell? ⟨gp, 5, none⟩ = some vt := HT.out.box.cell 5
  rw [h2.out] at c5
  obtain ⟨nt, hnt⟩ : ∃ n, n = p.tabs.length := ⟨_, rfl⟩
  have hn16 := HR.out.nt
  rw [← hnt] at c5 hn16
  have hku := u64_small (n := nt) (by omega)
  have hkw : IntKind.u64.wrap (nt : Int) = nt := wu64 (by omega) hku
  have Hnt := Lib.hid hnt
  clear hgw2 P2 B2 hnt
  have hvl := vput_len10 hku
  repeat' (first | go_values | go_skip | go_guarded | go_step | go_upon)
  refine Calls.mono (wire_Put nt _ hku) ?_
  rintro _ w3 ⟨rfl, hb3⟩
  dsimp only
  have HT3 := Lib.hid (HT.out.step hb3)
  obtain ⟨g1, hg1⟩ : ∃ g, g = w2.heap.size := ⟨_, rfl⟩
  rw [← hg1] at HT3 ⊢
  clear HT c5 hb3 hg1 hku hkw
  repeat' (first | go_values | go_skip | go_guarded | go_step | go_upon)
  refine Calls.mono (HT3.out.write _ (by simp; omega)) ?_
  rintro _ w4 ⟨⟨n4, rfl⟩, ht4⟩
  dsimp only
  rw [List.nil_append] at ht4
  have HT4 : Hid (T1 w p ⟨vc, vt, vx, vs, vk, vv⟩ gp g1 (tabsTo p 0) w4) := Lib.hid (by rw [tabsTo_zero, ← Hnt.out]; exact ht4)
  clear ht4 HT3 hvl w2 w3
  have c5 : w4.cell? ⟨gp, 5, none⟩ = some vt := HT4.out.box.cell 5
  rw [h2.out, ← Hnt.out] at c5
  obtain ⟨ts, hts, htl, htr⟩ := HH.out.tabs
  dsimp only at hts
  have Htl := Lib.hid htl
  have Htr := Lib.hid htr
  obtain ⟨at2, ct2, hvt2, _, _, hcellt⟩ := hts.open (f := tbC) (sz := 2) (fun _ => rfl)
  have hta : at2 = at' := by
    have := h2.out.symm.trans hvt2
    injection this with e1 e2 e3
    exact e1.symm
  subst hta
  have HTL : Hid (∀ k, k ≤ nt → (tabsTo p k).length ≤ 10 + 4000020 * k) := Lib.hid fun k hk => tabsTo_len HR.out k (by rw [← Hnt.out]; exact hk)
  have HTS : Hid (∀ k, k < nt → tabsTo p (k + 1) = tabsTo p k ++ tabB (p.tabs.getD k (0, []))) := Lib.hid fun k hk => tabsTo_succ p k (by rw [← Hnt.out]; exact hk)
  have HTB : Hid (∀ k, k < nt → (tabB (p.tabs.getD k (0, []))).length ≤ 4000020) := Lib.hid fun k hk => tabB_len HR.out k (by rw [← Hnt.out]; exact hk)
  have HTA : Hid (tabsTo p nt = sec3 p) := Lib.hid (by unfold sec3; rw [Hnt.out])
  clear hts htl htr hvt2
  repeat' (first | go_values | go_skip | go_guarded | go_step | go_upon)
  clear c5
  go_loopw [39] (fun s39 wr => ∃ k : Nat, s39 = .int .i64 k ∧ k ≤ nt ∧ Hid (T1 w p ⟨vc, vt, vx, vs, vk, vv⟩ gp g1 (tabsTo p k) wr)) (fun s39 _ => nt - (intOf s39).toNat)
  case atStart => exact ⟨0, rfl, Nat.zero_le _, HT4⟩
  case round =>
    clear HT4
    obtain ⟨k, rfl, hk, HK⟩ := hrel
    by_cases hlt : k < nt
    · rcases hcellt with h0 | ⟨b, off, rfl, hbB, hcellt⟩
      · have := Htl.out; have := Hnt.out; omega
      obtain ⟨t, ht⟩ : ∃ t, ts[k]? = some t := ⟨_, List.getElem?_eq_getElem (by rw [Htl.out, ← Hnt.out]; exact hlt)⟩
      obtain ⟨d, hd⟩ : ∃ d, p.tabs[k]? = some d := ⟨_, List.getElem?_eq_getElem (by rw [← Hnt.out]; exact hlt)⟩
      obtain ⟨e1, _, hrow⟩ := Htr.out k t d ht hd
      obtain ⟨k0, k1⟩ := tab_cells hcellt ht
      have hdd : p.tabs.getD k (0, []) = d := by rw [List.getD_eq_getElem?_getD, hd]; rfl
      obtain ⟨hq1, hq2, hq3⟩ := HR.out.tab k (by rw [← Hnt.out]; exact hlt)
      have HS1 := Lib.hid (HTS.out k hlt)
      have hB1 := HTB.out k hlt
      rw [hdd] at hq1 hq2 hq3 HS1 hB1
      obtain ⟨c, hc⟩ : ∃ c : Nat, d.1 = (c : Int) := ⟨d.1.toNat, by omega⟩
      have HTb : Hid (vput c ++ vputs (natsI d.2) = tabB d) := Lib.hid (by unfold tabB; rw [hc]; rfl)
      rw [e1, hc] at k0
      rw [hc] at hq1
      have Hrow := Lib.hid hrow
      have Hq3 := Lib.hid hq3
      obtain ⟨ad, cd, hvd, _, _⟩ := hrow.slice
      rw [hvd] at k1 Hrow
      rw [← HK.out.bel.cell (show b < w.heap.size from hbB)] at k0 k1
      have hku := u64_small (n := c) (by omega)
      have hkw : IntKind.u64.wrap (c : Int) = c := wu64 (by omega) hku
      have hlk := HTL.out k (by omega)
      clear hvd hrow hq3 hdd e1 ht hd hcellt
      repeat' (first | go_values | go_skip | go_guarded | go_step | go_upon)
      refine gen_world (fun w' => T1 w p ⟨vc, vt, vx, vs, vk, vv⟩ gp g1 (tabsTo p k) w' ∧ TBox w' wr.heap.size c (.slice ad d.2.length cd)) ⟨HK.out.step ((Below.refl _ _).alloc (Nat.le_refl _) _), TBox.new _ _ _⟩ ?_
      rintro wx ⟨hx1, hx2⟩
      have HX := Lib.hid hx1
      have q0 : ∀ nq : WB wx, nq.1.cell? ⟨wr.heap.size, 0, none⟩ = some (.int .i64 (c : Int)) := fun nq => (hx2.keep nq.2).two.1
      have q1 : ∀ nq : WB wx, nq.1.cell? ⟨wr.heap.size, 1, none⟩ = some (.slice ad d.2.length cd) := fun nq => (hx2.keep nq.2).two.2
      have HP1 := Lib.hid fun w => wire_Put c w hku
      have HN1 := Lib.hid fun nq : WB wx => load_numbers (.slice ad d.2.length cd) d.2 Hq3.out (by omega) nq.1 (Hrow.out.keep ((HX.out.step nq.2).bel))
      have hl1 := vput_len10 hku
      have hl2 : (vputs (natsI d.2)).length ≤ 4000010 := by have := vputs_len (natsI_u64 Hq3.out) (by rw [natsI_len]; omega); rw [natsI_len] at this; omega
      clear hx1 hx2 k0 k1
      refine wp_region_tail 8 (by kernel_rfl) (by kernel_rfl) wx (Below.refl _ _) ?_
      simp only [List.take_succ_cons, List.take_zero, List.drop_succ_cons, List.drop_zero]
      repeat (go_big_quiet_step ((first | (go_at_call 25; exact calls_wb (HP1.out _)) | (go_at_call 26; exact calls_wb (HN1.out _)))))
      refine wpQuiet_nil ?_
      rintro _ ⟨nq, rfl⟩
      have hnq := nq.2
      have HX2 := Lib.hid (HX.out.step hnq)
      clear q0 q1 HP1 HN1 HX
      repeat' (first | go_values | go_skip | go_guarded | go_step | go_upon)
      rw [ba_append2, HTb.out]
      refine Calls.mono (HX2.out.write _ (by omega)) ?_
      rintro _ w5 ⟨⟨n5, rfl⟩, ht5⟩
      dsimp only
      rw [← HS1.out] at ht5
      have HT5 := Lib.hid ht5
      clear ht5 HX2 hl1 hl2 hB1 hlk HS1 HTb
      repeat' (first | go_values | go_skip | go_guarded | go_step | go_upon)
      go_roundw
      case rel => exact ⟨k + 1, by go_num, by omega, HT5⟩
      case measure => simp [intOf]; omega
    · obtain rfl : k = nt := by omega
      rw [HTA.out] at HK
      clear hk hlt hcellt Htl Htr HTL HTS HTB HTA hn16 Hnt
      have c6 : wr.cell? ⟨gp, 6, none⟩ = some vx := HK.out.box.cell 6
      rw [h3.out] at c6
      have HU0 := Lib.hid (T2.start HK.out)
      obtain ⟨wC, hwC⟩ : ∃ wC, wC = wr := ⟨_, rfl⟩
      have HU : Hid (T2 w p ⟨vc, vt, vx, vs, vk, vv⟩ gp g1 (sec3 p) wC [] wr) := Lib.hid (by rw [hwC]; exact HU0.out)
      clear HU0 hwC HK
      obtain ⟨nx, hnx⟩ : ∃ n, n = p.texts.length := ⟨_, rfl⟩
      have hnx16 := HR.out.nx
      rw [← hnx] at c6 hnx16
      have hku := u64_small (n := nx) (by omega)
      have hkw : IntKind.u64.wrap (nx : Int) = nx := wu64 (by omega) hku
      have Hnx := Lib.hid hnx
      have hvl := vput_len10 hku
      clear hnx
      repeat' (first | go_values | go_skip | go_guarded | go_step | go_upon)
      refine Calls.mono (wire_Put nx _ hku) ?_
      rintro _ w5 ⟨rfl, hb5⟩
      dsimp only
      have HU5 := Lib.hid (HU.out.step hb5)
      clear HU c6 hb5 hku hkw
      repeat' (first | go_values | go_skip | go_guarded | go_step | go_upon)
      refine Calls.mono (HU5.out.write _ (by simp; omega)) ?_
      rintro _ w6 ⟨⟨n6, rfl⟩, hu6⟩
      dsimp only
      rw [List.nil_append] at hu6
      have HU6 : Hid (T2 w p ⟨vc, vt, vx, vs, vk, vv⟩ gp g1 (sec3 p) wC (textsTo p 0) w6) := Lib.hid (by rw [textsTo_zero, ← Hnx.out]; exact hu6)
      clear hu6 HU5 hvl
      have c6 : w6.cell? ⟨gp, 6, none⟩ = some vx := HU6.out.box.cell 6
      rw [h3.out, ← Hnx.out] at c6
      obtain ⟨ax2, cx2, hvx2, _, _, hcellx⟩ := HH.out.texts.open strC_len25
      dsimp only at hvx2
      have hxa : ax2 = ax := by
        have := h3.out.symm.trans hvx2
        injection this with e1 e2 e3
        exact e1.symm
      subst hxa
      have HTL : Hid (∀ k, k ≤ nx → (textsTo p k).length ≤ 10 + 4106 * k) := Lib.hid fun k hk => textsTo_len HR.out k (by rw [← Hnx.out]; exact hk)
      have HTS : Hid (∀ k, k < nx → textsTo p (k + 1) = textsTo p k ++ txtB (p.texts.getD k [])) := Lib.hid fun k hk => textsTo_succ p k (by rw [← Hnx.out]; exact hk)
      have HTB : Hid (∀ k, k < nx → (p.texts.getD k []).length ≤ 4096 ∧ (txtB (p.texts.getD k [])).length ≤ 4106) := Lib.hid fun k hk => ⟨HR.out.txt k (by rw [← Hnx.out]; exact hk), txtB_len HR.out k (by rw [← Hnx.out]; exact hk)⟩
      have HTA : Hid (textsTo p nx = sec4 p) := Lib.hid (by unfold sec4; rw [Hnx.out])
      rw [← Hnx.out] at hcellx
      have Hcx := Lib.hid hcellx
      clear hvx2 hcellx
      repeat' (first | go_values | go_skip | go_guarded | go_step | go_upon)
      clear c6
      go_loopw [62] (fun s62 wr => ∃ k : Nat, s62 = .int .i64 k ∧ k ≤ nx ∧ Hid (T2 w p ⟨vc, vt, vx, vs, vk, vv⟩ gp g1 (sec3 p) wC (textsTo p k) wr)) (fun s62 _ => nx - (intOf s62).toNat)
      case atStart => exact ⟨0, rfl, Nat.zero_le _, HU6⟩
      case round =>
        clear HU6
        obtain ⟨k, rfl, hk, HK⟩ := hrel
        by_cases hlt : k < nx
        · have hcell := Hcx.out
          rcases hcell with h0 | ⟨b, off, rfl, hbB, hcell⟩
          · omega
          obtain ⟨x, hx⟩ : ∃ x, p.texts[k]? = some x := ⟨_, List.getElem?_eq_getElem (by rw [← Hnx.out]; exact hlt)⟩
          have hxx : p.texts.getD k [] = x := by rw [List.getD_eq_getElem?_getD, hx]; rfl
          have k0 := hcell k x 0 hx (by decide)
          rw [Nat.mul_one, Nat.add_zero] at k0
          obtain ⟨hB0, hB1⟩ := HTB.out k hlt
          have HS1 := Lib.hid (HTS.out k hlt)
          rw [hxx] at hB0 hB1 HS1
          have k1 : wr.cell? ⟨b, off + k, none⟩ = some (.string ⟨x.toArray⟩) := by rw [HK.out.bel.cell (show b < w.heap.size from hbB)]; exact k0
          have hlk := HTL.out k (by omega)
          clear hx hxx k0 hcell hbB
          repeat' (first | go_values | go_skip | go_guarded | go_step | go_upon)
          refine Calls.mono (wire_PutText_l x (by omega) _) ?_
          rintro _ w7 ⟨rfl, hb7⟩
          dsimp only
          have HX := Lib.hid (HK.out.step hb7)
          rw [show vput x.length ++ x = txtB x from rfl]
          clear HK hb7 k1
          repeat' (first | go_values | go_skip | go_guarded | go_step | go_upon)
          refine Calls.mono (HX.out.write _ (by omega)) ?_
          rintro _ w8 ⟨⟨n8, rfl⟩, ht8⟩
          dsimp only
          rw [← HS1.out] at ht8
          have HT8 := Lib.hid ht8
          clear ht8 HX hB0 hB1 hlk HS1
          repeat' (first | go_values | go_skip | go_guarded | go_step | go_upon)
          go_roundw
          case rel => exact ⟨k + 1, by go_num, by omega, HT8⟩
          case measure => simp [intOf]; omega
        · obtain rfl : k = nx := by omega
          rw [HTA.out] at HK
          clear hk hlt Hcx HTL HTS HTB HTA hnx16 Hnx
          have c7 : wr.cell? ⟨gp, 7, none⟩ = some vs := HK.out.box.cell 7
          rw [h4.out] at c7
          obtain ⟨ns, hns⟩ : ∃ n, n = p.hash.seeds.length := ⟨_, rfl⟩
          have hns16 := HR.out.nk.1
          rw [← hns] at c7 hns16
          obtain ⟨as2, cs2, hvs2, _, _, hcells⟩ := HH.out.hash.seeds.open u32C_len25
          dsimp only at hvs2
          have hsa : as2 = as' := by
            have := h4.out.symm.trans hvs2
            injection this with e1 e2 e3
            exact e1.symm
          subst hsa
          have Hns := Lib.hid hns
          rw [← hns] at hcells
          have Hcs := Lib.hid hcells
          clear hns hvs2 hcells
          obtain ⟨wB, hwB⟩ : ∃ x, x = wr := ⟨_, rfl⟩
          have HKB : Hid (T2 w p ⟨vc, vt, vx, vs, vk, vv⟩ gp g1 (sec3 p) wC (sec4 p) wB) := Lib.hid (by rw [hwB]; exact HK.out)
          have HbB : Hid (Below wB.heap.size wB wr) := Lib.hid (by rw [hwB]; exact Below.refl _ _)
          have hBs : wB.heap.size ≤ wr.heap.size := by rw [hwB]; exact Nat.le_refl _
          clear hwB HK
          repeat' (first | go_values | go_skip | go_guarded | go_step | go_upon)
          clear c7
          go_loopw [13, 74] (fun s13 s74 wr => ∃ k : Nat, s74 = .int .i64 k ∧ k ≤ ns ∧ Hid (OwnI wB.heap.size 66 .u64 wr s13 (nats (p.hash.seeds.take k))) ∧ Hid (Below wB.heap.size wB wr)) (fun _ s74 _ => ns - (intOf s74).toNat)
          case atStart => exact ⟨0, rfl, Nat.zero_le _, Lib.hid (OwnI.nil _ _ _ _), HbB⟩
          case round =>
            clear HbB hBs
            obtain ⟨k, rfl, hk, Ho, Hb⟩ := hrel
            have hsz := Hb.out.size
            by_cases hlt : k < ns
            · rcases Hcs.out with h0 | ⟨b, off, rfl, hbB, hcell⟩
              · omega
              obtain ⟨x, hx⟩ : ∃ x, p.hash.seeds[k]? = some x := ⟨_, List.getElem?_eq_getElem (by rw [← Hns.out]; exact hlt)⟩
              have hxx : p.hash.seeds.getD k 0 = x := by rw [List.getD_eq_getElem?_getD, hx]; rfl
              have k0 := hcell k x 0 hx (by decide)
              rw [Nat.mul_one, Nat.add_zero] at k0
              have k1 : wr.cell? ⟨b, off + k, none⟩ = some (.int .u32 (x : Int)) := by rw [Hb.out.cell (show b < wB.heap.size from by have := HKB.out.bel.size; omega), HKB.out.bel.cell (show b < w.heap.size from hbB)]; exact k0
              have hb32 := HH.out.hash.sb k
              rw [hxx] at hb32
              have hku := u64_small (n := x) (by omega)
              have hkw : IntKind.u64.wrap (x : Int) = x := wu64 (by omega) hku
              have Hs := Lib.hid (taken_d p.hash.seeds 0 k (by rw [← Hns.out]; exact hlt))
              rw [hxx] at Hs
              have Hlen : (nats (p.hash.seeds.take k)).length ≤ k := by rw [nats_len, List.length_take]; omega
              obtain ⟨L, hL⟩ : ∃ L, L = nats (p.hash.seeds.take k) := ⟨_, rfl⟩
              rw [← hL] at Ho Hlen
              have HLe : Hid (nats (p.hash.seeds.take (k + 1)) = L ++ [(x : Int)]) := Lib.hid (by rw [Hs.out, nats_append, hL]; rfl)
              clear hL Hs hb32 hku hxx hx k0 hcell hbB
              repeat' (first | (at_builtin; refine app_ints wB.heap.size 8 [_] Try.underlying26 info_u64N (by decide) rfl _ _ rfl rfl rfl rfl rfl Ho.out hsz (by omega) ?_; intro v1 w1 hown1 hb1 _) | go_values | go_skip | go_guarded | go_step | go_upon)
              go_roundw
              case rel => exact ⟨k + 1, by go_num, by omega, Lib.hid (by rw [HLe.out]; exact hown1), Lib.hid (Hb.out.trans hb1)⟩
              case measure => simp [intOf]; omega
            · obtain rfl : k = ns := by omega
              rw [Hns.out, List.take_length] at Ho
              clear hk hlt Hcs hns16 Hns
              have HK := Lib.hid (HKB.out.step Hb.out)
              have HCB : Hid (wC.heap.size ≤ wB.heap.size) := Lib.hid HKB.out.els.size
              have HKB' : Hid (Below w.heap.size w wr) := Lib.hid HK.out.bel
              have hgw1 : w.heap.size ≤ g1 := HKB.out.t1.hB
              have q0 : ∀ nq : GW (Below g1 wr), nq.1.cell? ⟨gp, 0, none⟩ = some (.int .i64 p.grow) := fun nq => by rw [nq.2.cell (show gp < g1 from HKB.out.t1.low)]; exact HK.out.box.cell 0
              have q1 : ∀ nq : GW (Below g1 wr), nq.1.cell? ⟨gp, 1, none⟩ = some (.int .i64 p.rest) := fun nq => by rw [nq.2.cell (show gp < g1 from HKB.out.t1.low)]; exact HK.out.box.cell 1
              have q2 : ∀ nq : GW (Below g1 wr), nq.1.cell? ⟨gp, 2, none⟩ = some (.int .i64 p.extra) := fun nq => by rw [nq.2.cell (show gp < g1 from HKB.out.t1.low)]; exact HK.out.box.cell 2
              have q3 : ∀ nq : GW (Below g1 wr), nq.1.cell? ⟨gp, 3, none⟩ = some (.int .i64 p.signs) := fun nq => by rw [nq.2.cell (show gp < g1 from HKB.out.t1.low)]; exact HK.out.box.cell 3
              have q8 : ∀ nq : GW (Below g1 wr), nq.1.cell? ⟨gp, 8, none⟩ = some vk := fun nq => by rw [nq.2.cell (show gp < g1 from HKB.out.t1.low)]; exact HK.out.box.cell 8
              have q9 : ∀ nq : GW (Below g1 wr), nq.1.cell? ⟨gp, 9, none⟩ = some vv := fun nq => by rw [nq.2.cell (show gp < g1 from HKB.out.t1.low)]; exact HK.out.box.cell 9
              repeat' (go_not_at_region 26; first | go_values | go_skip | go_guarded | go_step | go_upon)
              refine wp_region_anyG (by kernel_rfl) (Below g1 wr) ?_
              refine wpAnyC_take (i := 0) (v := _) rfl (by kernel_rfl) (by kernel_rfl) (by kernel_rfl) (fun _ _ _ h => h) (Or.inl ⟨by rfl, fun w ⟨nq, hw⟩ => by (subst hw; go_simp <;> with_reducible rfl)⟩) (by go_simp <;> with_reducible rfl) ?_
              refine wpAnyC_take (i := 1) (v := _) rfl (by kernel_rfl) (by kernel_rfl) (by kernel_rfl) (fun _ _ _ h => h) (Or.inl ⟨by rfl, fun w ⟨nq, hw⟩ => by (subst hw; go_simp <;> with_reducible rfl)⟩) (by go_simp <;> with_reducible rfl) ?_
              refine wpAnyC_take (i := 2) (v := _) rfl (by kernel_rfl) (by kernel_rfl) (by kernel_rfl) (fun _ _ _ h => h) (Or.inl ⟨by rfl, fun w ⟨nq, hw⟩ => by (subst hw; go_simp <;> with_reducible rfl)⟩) (by go_simp <;> with_reducible rfl) ?_
              refine wpAnyC_take (i := 3) (v := _) rfl (by kernel_rfl) (by kernel_rfl) (by kernel_rfl) (fun _ _ _ h => h) (Or.inl ⟨by rfl, fun w ⟨nq, hw⟩ => by (subst hw; go_simp <;> with_reducible rfl)⟩) (by go_simp <;> with_reducible rfl) ?_
              refine wpAnyC_take (i := 4) (v := _) rfl (by kernel_rfl) (by kernel_rfl) (by kernel_rfl) (fun _ _ _ h => h) (Or.inl ⟨by rfl, fun w ⟨nq, hw⟩ => by (subst hw; go_simp <;> with_reducible rfl)⟩) (by go_simp <;> with_reducible rfl) ?_
              refine wpAnyC_take (i := 5) (v := _) rfl (by kernel_rfl) (by kernel_rfl) (by kernel_rfl) (fun _ _ _ h => h) (Or.inl ⟨by rfl, fun w ⟨nq, hw⟩ => by (subst hw; go_simp <;> with_reducible rfl)⟩) (by go_simp <;> with_reducible rfl) ?_
              refine wpAnyC_take (i := 6) (v := _) rfl (by kernel_rfl) (by kernel_rfl) (by kernel_rfl) (fun _ _ _ h => h) (Or.inl ⟨by rfl, fun w ⟨nq, hw⟩ => by (subst hw; go_simp <;> with_reducible rfl)⟩) (by go_simp <;> with_reducible rfl) ?_
              refine wpAnyC_take (i := 7) (v := _) rfl (by kernel_rfl) (by kernel_rfl) (by kernel_rfl) (fun _ _ _ h => h) (Or.inl ⟨by rfl, fun w ⟨nq, hw⟩ => by (subst hw; go_simp <;> with_reducible rfl)⟩) (by go_simp <;> with_reducible rfl) ?_
              refine wpAnyC_take (i := 11) (v := _) rfl (by kernel_rfl) (by kernel_rfl) (by kernel_rfl) (fun _ _ _ h => h) (Or.inl ⟨by rfl, fun w ⟨nq, hw⟩ => by (subst hw; go_simp <;> with_reducible rfl)⟩) (by go_simp <;> with_reducible rfl) ?_
              refine wpAnyC_take (i := 12) (v := _) rfl (by kernel_rfl) (by kernel_rfl) (by kernel_rfl) (fun _ _ _ h => h) (Or.inl ⟨by rfl, fun w ⟨nq, hw⟩ => by (subst hw; go_simp <;> with_reducible rfl)⟩) (by go_simp <;> with_reducible rfl) ?_
              refine wpAnyC_take (i := 17) (v := _) rfl (by kernel_rfl) (by kernel_rfl) (by kernel_rfl) (fun _ _ _ h => h) (Or.inl ⟨by rfl, fun w ⟨nq, hw⟩ => by (subst hw; go_simp <;> with_reducible rfl)⟩) (by go_simp <;> with_reducible rfl) ?_
              refine wpAnyC_take (i := 19) (v := _) rfl (by kernel_rfl) (by kernel_rfl) (by kernel_rfl) (fun _ _ _ h => h) (Or.inl ⟨by rfl, fun w ⟨nq, hw⟩ => by (subst hw; go_simp <;> with_reducible rfl)⟩) (by go_simp <;> with_reducible rfl) ?_
              refine wpAnyC_take (i := 20) (v := _) rfl (by kernel_rfl) (by kernel_rfl) (by kernel_rfl) (fun _ _ _ h => h) (Or.inl ⟨by rfl, fun w ⟨nq, hw⟩ => by (subst hw; go_simp <;> with_reducible rfl)⟩) (by go_simp <;> with_reducible rfl) ?_
              refine wpAnyC_take (i := 21) (v := _) rfl (by kernel_rfl) (by kernel_rfl) (by kernel_rfl) (fun _ _ _ h => h) (Or.inl ⟨by rfl, fun w ⟨nq, hw⟩ => by (subst hw; go_simp <;> with_reducible rfl)⟩) (by go_simp <;> with_reducible rfl) ?_
              refine wpAnyC_take (i := 24) (v := _) rfl (by kernel_rfl) (by kernel_rfl) (by kernel_rfl) (fun _ _ _ h => h) (Or.inl ⟨by rfl, fun w ⟨nq, hw⟩ => by (subst hw; go_simp <;> with_reducible rfl)⟩) (by go_simp <;> with_reducible rfl) ?_
              refine wpAnyC_take (i := 25) (v := _) rfl (by kernel_rfl) (by kernel_rfl) (by kernel_rfl) (fun _ _ _ h => h) (Or.inl ⟨by rfl, fun w ⟨nq, hw⟩ => by (subst hw; go_simp <;> with_reducible rfl)⟩) (by go_simp <;> with_reducible rfl) ?_
              refine wpAnyC_take (i := 26) (v := _) rfl (by kernel_rfl) (by kernel_rfl) (by kernel_rfl) (fun _ _ _ h => h) (Or.inl ⟨by rfl, fun w ⟨nq, hw⟩ => by (subst hw; go_simp <;> with_reducible rfl)⟩) (by go_simp <;> with_reducible rfl) ?_
              clear q0 q1 q2 q3 q8 q9 HKB
              refine genG (fun W => Below wr.heap.size wr W) ((Below.refl _ _).drew) ?_
              intro W0 hb0
              have HT0 := Lib.hid (HK.out.step hb0)
              have HO0 := Lib.hid (Ho.out.keep hb0 (Nat.le_refl _))
              have C0 : Hid (Below g1 wr W0) := Lib.hid (hb0.mono (by have := HK.out.gsz; omega))
              clear hb0 HK Ho
              refine wpAnyC_ready (CG.of (C0.out)) (rs := [8]) (by kernel_rfl) (by simp) ?_
              refine (AllReadyC.cons rfl (fun K hK => ?_) AllReadyC.nil)
              go_simp
              refine hK _ _ ?_
              clear hK K
              refine genG (fun W => Below W0.heap.size W0 W ∧ RowOf intC 1 W (.slice (some ⟨W0.heap.size, 0, none⟩) 4 4) [p.grow, p.rest, p.extra, p.signs]) ⟨(Below.refl _ _).alloc (Nat.le_refl _) _, row_four W0 _ _ _ _ _⟩ ?_
              rintro W1 ⟨hb1, hr1⟩
              have HT1 := Lib.hid (HT0.out.step hb1)
              have HO1 := Lib.hid (HO0.out.keep hb1 (Nat.le_refl _))
              have C1 : Hid (Below g1 wr W1) := Lib.hid (C0.out.trans (hb1.mono (by have := HT0.out.gsz; omega)))
              have HN := Lib.hid (load_numbers _ _ HR.out.num (by simp) W1 hr1)
              rw [show vputs (natsI [p.grow, p.rest, p.extra, p.signs]) = sec1 p from rfl] at HN
              clear hb1 HT0 HO0 C0 hr1
              refine wpAnyC_ready (CG.of (C1.out)) (rs := [9]) (by kernel_rfl) (by simp) ?_
              refine (AllReadyC.cons rfl (fun K hK => ?_) AllReadyC.nil)
              go_simp
              refine Calls.mono (HN.out) ?_
              rintro _ W2 ⟨rfl, hb2⟩
              dsimp only
              refine hK _ _ ?_
              clear hK K
              have HT2 := Lib.hid (HT1.out.step hb2)
              have HO2 := Lib.hid (HO1.out.keep hb2 (Nat.le_refl _))
              have C2 : Hid (Below g1 wr W2) := Lib.hid (C1.out.trans (hb2.mono (by have := HT1.out.gsz; omega)))
              clear hb2 HT1 HO1 C1 HN
              refine wpAnyC_take (i := 10) (v := _) rfl (by kernel_rfl) (by kernel_rfl) (by kernel_rfl) (fun _ _ _ h => h) (Or.inl ⟨by rfl, fun w ⟨nq, hw⟩ => by (subst hw; go_simp <;> with_reducible rfl)⟩) (by go_simp <;> with_reducible rfl) ?_
              obtain ⟨r1, hr1, hr1C, hr1a, hr1b, hi1⟩ := HT2.out.in1 (tabsTo_ne p _)
              obtain ⟨r2, hr2, hr2b, hi2⟩ := HT2.out.in2 (textsTo_ne p _)
              have hCB : wC.heap.size ≤ wB.heap.size := HCB.out
              have HS3 := Lib.hid (str_walk g1 r1 (sec3 p) W2 (tabsTo_ne p _) hi1)
              have HI2 := Lib.hid hi2
              clear hi1 hi2
              refine wpAnyC_ready (CG.of (C2.out)) (rs := [13]) (by kernel_rfl) (by simp) ?_
              refine (AllReadyC.cons rfl (fun K hK => ?_) AllReadyC.nil)
              go_simp
              refine Calls.mono (HS3.out) ?_
              rintro _ W3 ⟨rfl, ho3⟩
              dsimp only
              refine hK _ _ ?_
              clear hK K
              have HI3 := Lib.hid (HI2.out.other ho3 (by omega) (by omega))
              have HO3 := Lib.hid (HO2.out.one ho3 (.inl (by omega)))
              have C3 : Hid (Below g1 wr W3) := Lib.hid (C2.out.trans (ho3.below hr1))
              have hg3 : g1 + 1 < W3.heap.size := by rw [ho3.size]; exact HT2.out.gsz
              clear ho3 HI2 HO2 C2 HS3
              refine wpAnyC_take (i := 14) (v := _) rfl (by kernel_rfl) (by kernel_rfl) (by kernel_rfl) (fun _ _ _ h => h) (Or.inl ⟨by rfl, fun w ⟨nq, hw⟩ => by (subst hw; go_simp <;> with_reducible rfl)⟩) (by go_simp <;> with_reducible rfl) ?_
              have HS4 := Lib.hid (str_walk (g1 + 1) r2 (sec4 p) W3 (textsTo_ne p _) HI3.out)
              have hcr : ∃ cs t fz, W3.heap[r2]? = some (.cells cs t fz) ∧ t ≠ 66 := by
                obtain ⟨_, _, cur, _, h2, _⟩ := HI3.out
                exact ⟨cur, _, _, h2, by decide⟩
              refine wpAnyC_ready (CG.of (C3.out)) (rs := [15]) (by kernel_rfl) (by simp) ?_
              refine (AllReadyC.cons rfl (fun K hK => ?_) AllReadyC.nil)
              go_simp
              refine Calls.mono (HS4.out) ?_
              rintro _ W4 ⟨rfl, ho4⟩
              dsimp only
              refine hK _ _ ?_
              clear hK K
              have HO4 := Lib.hid (HO3.out.one ho4 (.inr hcr))
              have C4 : Hid (Below g1 wr W4) := Lib.hid (C3.out.trans (ho4.below (by have := HT2.out.gsz; omega)))
              have hg4 : g1 + 1 < W4.heap.size := by rw [ho4.size]; exact hg3
              clear ho4 HI3 HO3 C3 HS4 hcr hg3
              refine wpAnyC_take (i := 16) (v := _) rfl (by kernel_rfl) (by kernel_rfl) (by kernel_rfl) (fun _ _ _ h => h) (Or.inl ⟨by rfl, fun w ⟨nq, hw⟩ => by (subst hw; go_simp <;> with_reducible rfl)⟩) (by go_simp <;> with_reducible rfl) ?_
              have hl1 := vputs_len (l := p.hash.seeds) (getD_u64 fun k => u64_small (by have := HH.out.hash.sb k; omega)) (by have := HR.out.nk; omega)
              have hl2 := vputs_len (l := p.hash.keys) (getD_u64 HH.out.hash.kb) (by have := HR.out.nk; omega)
              have hl3 := vputs_len (l := p.hash.vals) (getD_u64 HH.out.hash.vb) (by have := HR.out.nk; omega)
              have hnk := HR.out.nk
              replace hl1 : (vputs p.hash.seeds).length ≤ 50000 := by omega
              replace hl2 : (vputs p.hash.keys).length ≤ 50000 := by omega
              replace hl3 : (vputs p.hash.vals).length ≤ 50000 := by omega
              have hz1 : ¬ 9223372036854775807 < (vputs p.hash.seeds).length + (vputs p.hash.keys).length := by omega
              have hz2 : ¬ 9223372036854775807 < (vputs p.hash.seeds).length + (vputs p.hash.keys).length + (vputs p.hash.vals).length := by omega
              have Hz1 := Lib.hid hz1
              have Hz2 := Lib.hid hz2
              clear hz1 hz2
              have HA5 := Lib.hid (wire_PutAll _ p.hash.seeds (getD_u64 fun k => u64_small (by have := HH.out.hash.sb k; omega)) (by omega) W4 HO4.out.rd)
              refine wpAnyC_ready (CG.of (C4.out)) (rs := [18]) (by kernel_rfl) (by simp) ?_
              refine (AllReadyC.cons rfl (fun K hK => ?_) AllReadyC.nil)
              go_simp
              refine Calls.mono (HA5.out) ?_
              rintro _ W5 ⟨rfl, hb5⟩
              dsimp only
              refine hK _ _ ?_
              clear hK K
              have C5 : Hid (Below g1 wr W5) := Lib.hid (C4.out.trans (hb5.mono (by omega)))
              have hg5 : g1 + 1 < W5.heap.size := Nat.lt_of_lt_of_le hg4 hb5.size
              have hww := HKB'.out
              have HW5 : Hid (Below w.heap.size w W5) := Lib.hid (hww.trans (C5.out.mono (by omega)))
              clear hb5 HA5 C4 HO4 hg4
              have HA6 := Lib.hid (wire_PutAll vk p.hash.keys (getD_u64 HH.out.hash.kb) (by omega) W5 (row_rd (HH.out.hash.keys.keep HW5.out)))
              refine wpAnyC_ready (CG.of (C5.out)) (rs := [22]) (by kernel_rfl) (by simp) ?_
              refine (AllReadyC.cons rfl (fun K hK => ?_) AllReadyC.nil)
              go_simp
              refine Calls.mono (HA6.out) ?_
              rintro _ W6 ⟨rfl, hb6⟩
              dsimp only
              refine hK _ _ ?_
              clear hK K
              have C6 : Hid (Below g1 wr W6) := Lib.hid (C5.out.trans (hb6.mono (by omega)))
              have hg6 : g1 + 1 < W6.heap.size := Nat.lt_of_lt_of_le hg5 hb6.size
              have HW6 : Hid (Below w.heap.size w W6) := Lib.hid (HW5.out.trans (hb6.mono HW5.out.size))
              clear hb6 HA6 C5 hg5 HW5
              have hz1 := Hz1.out
              refine wpAnyC_take (i := 23) (v := _) rfl (by kernel_rfl) (by kernel_rfl) (by kernel_rfl) (fun _ _ _ h => h) (Or.inl ⟨by rfl, fun w ⟨nq, hw⟩ => by (subst hw; go_simp <;> with_reducible rfl)⟩) (by go_simp <;> with_reducible rfl) ?_
              have HA7 := Lib.hid (wire_PutAll vv p.hash.vals (getD_u64 HH.out.hash.vb) (by omega) W6 (row_rd (HH.out.hash.vals.keep HW6.out)))
              refine wpAnyC_ready (CG.of (C6.out)) (rs := [27]) (by kernel_rfl) (by simp) ?_
              refine (AllReadyC.cons rfl (fun K hK => ?_) AllReadyC.nil)
              go_simp
              refine Calls.mono (HA7.out) ?_
              rintro _ W7 ⟨rfl, hb7⟩
              dsimp only
              refine hK _ _ ?_
              clear hK K
              have C7 : Hid (Below g1 wr W7) := Lib.hid (C6.out.trans (hb7.mono (by omega)))
              have hg7 : g1 + 1 < W7.heap.size := Nat.lt_of_lt_of_le hg6 hb7.size
              have HW7 : Hid (Below w.heap.size w W7) := Lib.hid (HW6.out.trans (hb7.mono HW6.out.size))
              clear hb7 HA7 C6 hg6 HW6
              have hz2 := Hz2.out
              refine wpAnyC_take (i := 28) (v := _) rfl (by kernel_rfl) (by kernel_rfl) (by kernel_rfl) (fun _ _ _ h => h) (Or.inl ⟨by rfl, fun w ⟨nq, hw⟩ => by (subst hw; go_simp <;> with_reducible rfl)⟩) (by go_simp <;> with_reducible rfl) ?_
              refine wpAnyC_take (i := 29) (v := _) rfl (by kernel_rfl) (by kernel_rfl) (by kernel_rfl) (fun _ _ _ h => h) (Or.inl ⟨by rfl, fun w ⟨nq, hw⟩ => by (subst hw; go_simp <;> with_reducible rfl)⟩) (by go_simp <;> with_reducible rfl) ?_
              clear hl1 hl2 hl3 hnk hz1 hz2 Hz1 Hz2
              refine wpAnyC_ready (CG.of (C7.out)) (rs := [30]) (by kernel_rfl) (by simp) ?_
              refine (AllReadyC.cons rfl (fun K hK => ?_) AllReadyC.nil)
              go_simp
              refine hK _ _ ?_
              clear hK K
              refine genG (fun W => Below W7.heap.size W7 W ∧ RowOf secC 2 W (.slice (some ⟨W7.heap.size, 0, none⟩) 5 5) (secsI p)) ⟨(Below.refl _ _).alloc (Nat.le_refl _) _, by rw [HS.out]; exact row_secs W7 _ _ _ _ _ _ (by rw [ba_append2, ba_append2]; rfl) _⟩ ?_
              rintro W8 ⟨hb8, hr8⟩
              have C8 : Hid (Below g1 wr W8) := Lib.hid (C7.out.trans (hb8.mono (by omega)))
              have HW8 : Hid (Below w.heap.size w W8) := Lib.hid (HW7.out.trans (hb8.mono HW7.out.size))
              have hg8 : g1 + 1 < W8.heap.size := Nat.lt_of_lt_of_le hg7 hb8.size
              have HP := Lib.hid (pack_Put _ (secsI p) W8 hr8 (secs_ok HR.out ⟨getD_u64 fun k => u64_small (by have := HH.out.hash.sb k; omega), getD_u64 HH.out.hash.kb, getD_u64 HH.out.hash.vb⟩))
              clear hb8 hr8 C7 HW7 hg7
              refine wpAnyC_ready (CG.of (C8.out)) (rs := [31]) (by kernel_rfl) (by simp) ?_
              refine (AllReadyC.cons rfl (fun K hK => ?_) AllReadyC.nil)
              go_simp
              refine Calls.mono (HP.out) ?_
              rintro _ W9 ⟨rfl, hb9⟩
              dsimp only
              refine hK _ _ ?_
              clear hK K
              have C9 : Hid (Below g1 wr W9) := Lib.hid (C8.out.trans (hb9.mono (by omega)))
              have HW9 : Hid (Below w.heap.size w W9) := Lib.hid (HW8.out.trans (hb9.mono HW8.out.size))
              clear hb9 HP C8 HW8 hg8
              refine wpAnyC_take (i := 32) (v := _) rfl (by kernel_rfl) (by kernel_rfl) (by kernel_rfl) (fun _ _ _ h => h) (Or.inl ⟨by rfl, fun w ⟨nq, hw⟩ => by (subst hw; go_simp <;> with_reducible rfl)⟩) (by go_simp <;> with_reducible rfl) ?_
              refine wpAnyC_take (i := 33) (v := _) rfl (by kernel_rfl) (by kernel_rfl) (by kernel_rfl) (fun _ _ _ h => h) (Or.inl ⟨by rfl, fun w ⟨nq, hw⟩ => by (subst hw; go_simp <;> with_reducible rfl)⟩) (by go_simp <;> with_reducible rfl) ?_
              refine wpAnyC_take (i := 34) (v := _) rfl (by kernel_rfl) (by kernel_rfl) (by kernel_rfl) (fun _ _ _ h => h) (Or.inl ⟨by rfl, fun w ⟨nq, hw⟩ => by (subst hw; go_simp <;> with_reducible rfl)⟩) (by go_simp <;> with_reducible rfl) ?_
              refine wpAnyC_take (i := 35) (v := _) rfl (by kernel_rfl) (by kernel_rfl) (by kernel_rfl) (fun _ _ _ h => h) (Or.inl ⟨by rfl, fun w ⟨nq, hw⟩ => by (subst hw; go_simp <;> with_reducible rfl)⟩) (by go_simp <;> with_reducible rfl) ?_
              refine wpAnyC_done (by kernel_rfl) (CG.of (C9.out)) (by go_simp <;> with_reducible rfl) ?_
              repeat' (first | go_values | go_skip | go_guarded | go_step | go_upon)
              go_ret2
              exact ⟨ret_pi HG.out.symm, HW9.out⟩
end Go.Proofs.Ytbomloodllddaaa
