/- Walks: lists of numbers as bytes (load.numbers, the reference's), whether a program can be written (load.writable, the reference's). Condition: none of the numbers is below nought. -/
import Derived.Test.YtbomloodllddaaaPk34
import Derived.Test.YtbomloodllddaaaPk25
import Derived.Test.YtbomloodllddaaaPk19
import Derived.Test.YtbomloodllddaaaPk20
import Derived.Test.YtbomloodllddaaaPk35
import Derived.Test.YtbomloodllddaaaPk08
namespace Go.Proofs.Ytbomloodllddaaa
open Go.RowKit
theorem info_u64N : (Try.prog.info? 66).map (fun i => (i.zero, i.size, i.bytes)) = some (some (.int .u64 0), 1, 8) := by kernel_rfl
/-- a row of numbers, read as numbers -/
theorem row_rd {w : World} {v : Value} {l : List Nat} (h : RowOf u64C 1 w v l) : RdI w.heap.size .u64 w v (nats l) := by
  obtain ⟨a, cap, rfl, h1, _, h3⟩ := h.open (f := u64C) (sz := 1) (fun _ => rfl)
  refine ⟨a, cap, by rw [nats_len], by rw [nats_len]; exact h1, ?_⟩
  rcases h3 with h3 | ⟨b, off, rfl, hb, hc⟩
  · left
    have : l = [] := List.eq_nil_of_length_eq_zero h3
    rw [this]; rfl
  · refine .inr ⟨b, off, rfl, hb, fun i hi => ?_⟩
    rw [nats_len] at hi
    have := hc i l[i] 0 (List.getElem?_eq_getElem hi) (by decide)
    rw [Nat.mul_one, Nat.add_zero] at this
    rw [this, nats_getD l i hi]
    rfl
/-- a new block of four numbers -/
theorem row_four (w : World) (a b c d : Int) (e : TypeId) : RowOf intC 1 (w.alloc (.cells #[.int .i64 a, .int .i64 b, .int .i64 c, .int .i64 d] e)) (.slice (some ⟨w.heap.size, 0, none⟩) 4 4) [a, b, c, d] := by
  refine ⟨some ⟨w.heap.size, 0, none⟩, 4, rfl, Nat.le_refl _, by unfold maxLen; omega, rfl, .inr ⟨w.heap.size, 0, rfl, by simp, fun i hi => ?_⟩⟩
  rw [Nat.zero_add, cell_of_row _ w.heap.size i _ e (0, 0) (Go.heap_alloc_new w _)]
  rcases (show i = 0 ∨ i = 1 ∨ i = 2 ∨ i = 3 from by simp at hi; omega) with rfl | rfl | rfl | rfl <;> rfl
set_option maxRecDepth 100000 in
set_option maxHeartbeats 1000000 in
theorem load_numbers (v : Value) (l : List Int) (hl : Nums l) (hn : l.length ≤ 1000000) (w : World) (h : RowOf intC 1 w v l) :
    Calls Try.prog 26 #[v] w fun e w' => e = .returned (.string ⟨(vputs (natsI l)).toArray⟩) ∧ Below w.heap.size w w' := by
  obtain ⟨a, cap, rfl, hcap, hmx, hcell⟩ := h.open intC_len
  have HT := Lib.hid fun k hk => natsI_take l k hk
  have HN := Lib.hid fun k hk => nums_get hl k hk
  have HU := Lib.hid (natsI_u64 hl)
  have HG : Hid (∀ k, k < l.length → l[k]? = some (l.getD k 0)) := Lib.hid fun k hk => by rw [List.getD_eq_getElem?_getD, List.getElem?_eq_getElem hk]; rfl
  have HL : Hid ((natsI l).length = l.length) := Lib.hid (natsI_len l)
  have HTl : Hid (∀ k, k ≤ l.length → (nats (natsI (l.take k))).length = k) := Lib.hid fun k hk => by rw [nats_len, natsI_len, List.length_take]; omega
  have HA : Hid (l.take l.length = l) := Lib.hid (List.take_length)
  obtain ⟨n, hnn⟩ : ∃ n, n = l.length := ⟨_, rfl⟩
  rw [← hnn] at hcap hcell hn HT HN HG HL HTl HA ⊢
  unfold maxLen at hmx
  clear h hl hnn
  go_enter Try.func26, Try.ntmps26
  repeat' (first | go_values | go_skip | go_guarded | go_step | go_upon)
  go_loopw [3, 8] (fun s3 s8 wr => ∃ k : Nat, s8 = .int .i64 k ∧ k ≤ n ∧ Hid (OwnI w.heap.size 66 .u64 wr s3 (nats (natsI (l.take k)))) ∧ Below w.heap.size w wr) (fun _ s8 _ => n - (intOf s8).toNat)
  case atStart => exact ⟨0, rfl, Nat.zero_le _, Lib.hid (OwnI.nil _ _ _ _), Below.refl _ _⟩
  case round =>
    obtain ⟨k, rfl, hk, Ho, hbel⟩ := hrel
    have hsz := hbel.size
    by_cases hkl : k < n
    · rcases hcell with hcell | ⟨b, off, rfl, hbB, hcell⟩
      · omega
      have hc := hcell k _ 0 (HG.out k hkl) (by decide)
      rw [Nat.mul_one, Nat.add_zero] at hc
      have hx := HN.out k hkl
      have Hs := Lib.hid (HT.out k hkl)
      have Hlen := HTl.out k (by omega)
      generalize l.getD k 0 = x at hc hx Hs
      obtain ⟨y, rfl⟩ : ∃ y : Nat, x = y := ⟨x.toNat, by omega⟩
      have hc' : wr.cell? ⟨b, off + k, none⟩ = some (.int .i64 (y : Int)) := by rw [hbel.cell (show b < w.heap.size from hbB)]; exact hc
      have hy : U64 y := by unfold U64; omega
      have hyw : IntKind.u64.wrap (y : Int) = y := wu64 (by omega) hy
      clear hc hcell hx
      obtain ⟨L, hL⟩ : ∃ L, L = nats (natsI (l.take k)) := ⟨_, rfl⟩
      rw [← hL] at Ho Hlen
      have HLe : Hid (nats (natsI (l.take (k + 1))) = L ++ [(y : Int)]) := Lib.hid (by rw [Hs.out, nats_append, hL]; rfl)
      clear hL Hs
      repeat' (first | (at_builtin; refine app_ints w.heap.size 8 [_] Try.underlying26 info_u64N (by decide) rfl _ _ rfl rfl rfl rfl rfl Ho.out hsz (by omega) ?_; intro v1 w1 hown1 hb1 _) | go_values | go_skip | go_guarded | go_step | go_upon)
      go_roundw
      case rel => exact ⟨k + 1, by go_num, by omega, Lib.hid (by rw [HLe.out]; exact hown1), hbel.trans hb1⟩
      case measure => simp [intOf]; omega
    · obtain rfl : k = n := by omega
      rw [HA.out] at Ho
      repeat' (first | go_values | go_skip | go_guarded | go_step | go_upon)
      refine Calls.mono (wire_PutAll _ (natsI l) HU.out (by rw [HL.out]; omega) _ Ho.out.rd) ?_
      rintro _ w1 ⟨rfl, hb1⟩
      dsimp only
      repeat' (first | go_values | go_skip | go_guarded | go_step | go_upon)
      go_ret
      exact ⟨rfl, hbel.trans (hb1.mono hsz)⟩
theorem check_writ (p : Prg) : writI p = if (checkI p).1 = 232 ∨ (checkI p).1 = 210 then (checkI p).1 else 0 := by
  unfold writI
  rcases shape_cases p with h | h | h | h
  · rw [h, if_neg (by decide)]
    have : checkI p = (0, 0) ∨ ∃ k, k < p.code.length ∧ checkI p = (231, (k : Int)) := by
      unfold checkI
      rw [if_pos h]
      exact wrong_cases p _
    rcases this with e | ⟨k, _, e⟩ <;> rw [e] <;> rfl
  all_goals rw [check_shape (by rw [h]; decide)]
set_option maxRecDepth 100000 in
set_option maxHeartbeats 1000000 in
theorem load_writable (p : Prg) (v : PV) (w : World) (H : PrgAt w v p) : Calls Try.prog 22 #[pgV p v] w fun e w' => e = .returned (.int .i64 (writI p)) ∧ Below w.heap.size w w' := by
  have HA := Lib.hid (ver_Check p v (w.alloc (.cells (pgC p v) 30)) (H.keep ((Below.refl _ _).alloc (Nat.le_refl _) _)))
  have HP : Hid (PBox (w.alloc (.cells (pgC p v) 30)) w.heap.size p v) := Lib.hid (PBox.new _ _ _)
  have Hw := Lib.hid (check_writ p)
  obtain ⟨c1, hc1⟩ : ∃ s, s = (checkI p).1 := ⟨_, rfl⟩
  obtain ⟨c2, hc2⟩ : ∃ s, s = (checkI p).2 := ⟨_, rfl⟩
  rw [← hc1, ← hc2] at HA
  rw [← hc1] at Hw
  generalize writI p = G at Hw ⊢
  obtain ⟨v1, v2, v3, v4, v5, v6⟩ := v
  clear hc1 hc2 H
  go_enter Try.func22, Try.ntmps22
  repeat' (first | (with_reducible refine load_pg HP.out _ rfl rfl ?_) | go_values | go_skip | go_guarded | go_step | go_upon)
  refine Calls.mono (HA.out) ?_
  rintro _ w1 ⟨rfl, hb1⟩
  dsimp only
  have HB : Hid (Below w.heap.size w w1) := Lib.hid (((Below.refl _ _).alloc (Nat.le_refl _) _).trans (hb1.mono (by simp)))
  clear HA HP hb1
  by_cases h1 : c1 = 232
  · subst h1
    have HG : Hid (G = 232) := Lib.hid (by rw [Hw.out]; rfl)
    clear Hw
    repeat' (first | go_values | go_skip | go_guarded | go_step | go_upon)
    go_ret
    exact ⟨ret_i HG.out.symm, HB.out⟩
  by_cases h2 : c1 = 210
  · subst h2
    have HG : Hid (G = 210) := Lib.hid (by rw [Hw.out]; rfl)
    clear Hw h1
    repeat' (first | go_values | go_skip | go_guarded | go_step | go_upon)
    go_ret
    exact ⟨ret_i HG.out.symm, HB.out⟩
  have HG : Hid (G = 0) := Lib.hid (by rw [Hw.out, if_neg (by omega)])
  have e1 : (c1 == 232) = false := beq_false_of_ne h1
  have e2 : (c1 == 210) = false := beq_false_of_ne h2
  clear Hw h1 h2
  repeat' (first | go_values | go_skip | go_guarded | go_step | go_upon)
  go_ret
  exact ⟨ret_i HG.out.symm, HB.out⟩
end Go.Proofs.Ytbomloodllddaaa
/- Walk: a program is written as bytes (load.Encode, P25.1). Condition: the program lies in memory. -/
namespace Go.Proofs.Ytbomloodllddaaa
open Go.RowKit
theorem strC_len25 (l : List UInt8) : (strC l).length = 1 := rfl
theorem ba_append2 (a b : List UInt8) : (⟨a.toArray⟩ : ByteArray) ++ ⟨b.toArray⟩ = ⟨(a ++ b).toArray⟩ := ba_append a ⟨b.toArray⟩
theorem u32C_len25 (n : Nat) : (u32C n).length = 1 := rfl
/-- the first Builder is being written -/
structure T1 (w0 : World) (p : Prg) (v : PV) (gp g1 : Nat) (l : List UInt8) (w : World) : Prop where
  bel : Below w0.heap.size w0 w
  box : PBox w gp p v
  bld : Bld w g1 g1 l
  nxt : w.heap[g1 + 1]? = some (.cells #[.pointer none, .slice none 0 0] 60 (0, 0))
  low : gp < g1
  hB : w0.heap.size ≤ g1
theorem T1.step {w0 w w' : World} {p : Prg} {v : PV} {gp g1 : Nat} {l : List UInt8} (h : T1 w0 p v gp g1 l w) (hb : Below w.heap.size w w') : T1 w0 p v gp g1 l w' :=
  ⟨h.bel.trans (hb.mono h.bel.size), h.box.keep hb, h.bld.keep hb (Nat.le_refl _), by rw [hb.block _ (Array.getElem?_eq_some_iff.1 h.nxt).1]; exact h.nxt, h.low, h.hB⟩
theorem T1.write {w0 w : World} {p : Prg} {v : PV} {gp g1 : Nat} {l : List UInt8} (h : T1 w0 p v gp g1 l w) (x : List UInt8) (hlen : l.length + x.length ≤ 140737488355328) :
    Calls Try.prog 24 #[.pointer (some ⟨g1, 0, none⟩), .string ⟨x.toArray⟩] w fun e w' => (∃ n : Int, e = .returned (.tuple #[.int .i64 n, .nilIface])) ∧ T1 w0 p v gp g1 (l ++ x) w' := by
  refine (bld_WriteString g1 g1 l ⟨x.toArray⟩ w h.bld (by rw [arrP_size]; exact hlen) (Nat.le_of_lt h.bld.lt)).mono ?_
  rintro _ w' ⟨rfl, hb, hbel, hap⟩
  refine ⟨⟨_, rfl⟩, h.bel.trans (hbel.mono h.hB), ?_, hb, hap.row h.nxt (by decide) (by omega), h.low, h.hB⟩
  unfold PBox
  rw [hbel.block gp h.low]; exact h.box
/-- the second Builder is being written -/
structure T2 (w0 : World) (p : Prg) (v : PV) (gp g1 : Nat) (L : List UInt8) (wC : World) (l : List UInt8) (w : World) : Prop where
  t1 : T1 w0 p v gp g1 L wC
  els : ElseC wC.heap.size (g1 + 1) wC w
  b2 : Bl2 w wC.heap.size (g1 + 1) l
theorem T2.start {w0 w : World} {p : Prg} {v : PV} {gp g1 : Nat} {L : List UInt8} (h : T1 w0 p v gp g1 L w) : T2 w0 p v gp g1 L w [] w := ⟨h, ElseC.refl _ _ _, Bl2.of_fresh _ h.nxt⟩
theorem T2.step {w0 w w' wC : World} {p : Prg} {v : PV} {gp g1 : Nat} {L l : List UInt8} (h : T2 w0 p v gp g1 L wC l w) (hb : Below w.heap.size w w') : T2 w0 p v gp g1 L wC l w' :=
  ⟨h.t1, h.els.trans (ElseC.of_below (hb.mono h.els.size)), h.b2.keep hb (Nat.le_refl _)⟩
theorem T2.write {w0 w wC : World} {p : Prg} {v : PV} {gp g1 : Nat} {L l : List UInt8} (h : T2 w0 p v gp g1 L wC l w) (x : List UInt8) (hlen : l.length + x.length ≤ 140737488355328) :
    Calls Try.prog 24 #[.pointer (some ⟨g1 + 1, 0, none⟩), .string ⟨x.toArray⟩] w fun e w' => (∃ n : Int, e = .returned (.tuple #[.int .i64 n, .nilIface])) ∧ T2 w0 p v gp g1 L wC (l ++ x) w' := by
  refine (bl2_WriteString wC.heap.size (g1 + 1) l ⟨x.toArray⟩ w h.b2 (by rw [arrP_size]; exact hlen) h.els.size).mono ?_
  rintro _ w' ⟨rfl, hb, hel⟩
  exact ⟨⟨_, rfl⟩, h.t1, h.els.trans hel, hb⟩
theorem T2.bel {w0 w wC : World} {p : Prg} {v : PV} {gp g1 : Nat} {L l : List UInt8} (h : T2 w0 p v gp g1 L wC l w) : Below w0.heap.size w0 w :=
  h.t1.bel.trans (h.els.below h.t1.bel.size (by have := h.t1.hB; omega))
theorem T2.box {w0 w wC : World} {p : Prg} {v : PV} {gp g1 : Nat} {L l : List UInt8} (h : T2 w0 p v gp g1 L wC l w) : PBox w gp p v := by
  unfold PBox
  rw [h.els.block gp h.t1.box.lt (by have := h.t1.low; omega)]; exact h.t1.box
theorem T2.gsz {w0 w wC : World} {p : Prg} {v : PV} {gp g1 : Nat} {L l : List UInt8} (h : T2 w0 p v gp g1 L wC l w) : g1 + 1 < w.heap.size := Nat.lt_of_lt_of_le (Array.getElem?_eq_some_iff.1 h.t1.nxt).1 h.els.size
theorem T2.in1 {w0 w wC : World} {p : Prg} {v : PV} {gp g1 : Nat} {L l : List UInt8} (h : T2 w0 p v gp g1 L wC l w) (h0 : L ≠ []) : ∃ r, g1 ≤ r ∧ r < wC.heap.size ∧ r ≠ g1 ∧ r ≠ g1 + 1 ∧ InB w g1 r L := by
  have key : ∀ p v, wC.heap[g1]? = some (.cells #[p, v] 60 (0, 0)) → wC.ownsRow g1 5 1 v (Lib.byteCells L).length (Lib.byteCells L) → ∃ r, g1 ≤ r ∧ r < wC.heap.size ∧ r ≠ g1 ∧ r ≠ g1 + 1 ∧ InB w g1 r L := by
    intro p v hc ho
    rw [Lib.byteCells_length] at ho
    obtain ⟨r, h1, h2, h3, h4⟩ := InB.of h0 hc ho
    obtain ⟨p', cap, cur, h5, h6, rest⟩ := h4
    have h7 : r ≠ g1 + 1 := fun e => by
      subst e
      have := h.t1.nxt
      rw [h6] at this; simp at this
    refine ⟨r, h1, h2, h3, h7, p', cap, cur, ?_, ?_, rest⟩
    · rw [h.els.block g1 (Array.getElem?_eq_some_iff.1 h5).1 (by omega)]; exact h5
    · rw [h.els.block r h2 h7]; exact h6
  rcases h.t1.bld with ⟨_, v, h2, h3, _⟩ | ⟨_, v, h2, h3, _⟩
  · exact key _ v h2 h3
  · exact key _ v h2 h3
theorem T2.in2 {w0 w wC : World} {p : Prg} {v : PV} {gp g1 : Nat} {L l : List UInt8} (h : T2 w0 p v gp g1 L wC l w) (h0 : l ≠ []) : ∃ r, wC.heap.size ≤ r ∧ r ≠ g1 + 1 ∧ InB w (g1 + 1) r l := by
  obtain ⟨p, v, _, hc, ho⟩ := h.b2
  obtain ⟨r, h1, _, h3, h4⟩ := InB.of h0 hc ho
  exact ⟨r, h1, h3, h4⟩
theorem OwnI.one {B : Nat} {e : TypeId} {k : IntKind} {w w' : World} {v : Value} {l : List Int} {r : Nat} (h : OwnI B e k w v l) (ho : OneB r w w') (hr : r < B ∨ ∃ cs t fz, w.heap[r]? = some (.cells cs t fz) ∧ t ≠ e) : OwnI B e k w' v l := by
  refine OwnC.block h fun g hg => ho.block g fun e' => ?_
  subst e'
  rcases hr with hr | ⟨cs, t, fz, hc, ht⟩
  · have := h.below hg; omega
  · rcases h.2 with ⟨rfl, _⟩ | ⟨g', cap, cur, fz', rfl, _, hg', _⟩
    · simp [Value.ownBlock] at hg
    · simp only [Value.ownBlock, Option.some.injEq] at hg
      subst hg
      rw [hc] at hg'; simp at hg'
      exact ht hg'.2.1
theorem textsTo_ne (p : Prg) (k : Nat) : textsTo p k ≠ [] := fun h => by
  have := vput_pos p.texts.length
  unfold textsTo at h
  have h1 := (List.append_eq_nil_iff.1 h).1
  rw [h1] at this; simp at this
theorem tabsTo_ne (p : Prg) (k : Nat) : tabsTo p k ≠ [] := fun h => by
  have := vput_pos p.tabs.length
  unfold tabsTo at h
  have h1 := (List.append_eq_nil_iff.1 h).1
  rw [h1] at this; simp at this
/-- five sections in a new block -/
theorem row_secs (w : World) (x1 x2 x3 x4 x5 : List UInt8) (s5 : ByteArray) (h5 : s5 = ⟨x5.toArray⟩) (e : TypeId) : RowOf secC 2 (w.alloc (.cells #[.int .u64 1, .string ⟨x1.toArray⟩, .int .u64 2, .string ⟨x2.toArray⟩, .int .u64 3, .string ⟨x3.toArray⟩, .int .u64 4, .string ⟨x4.toArray⟩, .int .u64 5, .string s5] e)) (.slice (some ⟨w.heap.size, 0, none⟩) 5 5) [(1, x1), (2, x2), (3, x3), (4, x4), (5, x5)] := by
  subst h5
  refine ⟨some ⟨w.heap.size, 0, none⟩, 5, rfl, Nat.le_refl _, by unfold maxLen; omega, rfl, .inr ⟨w.heap.size, 0, rfl, by simp, fun i hi => ?_⟩⟩
  rw [Nat.zero_add, cell_of_row _ w.heap.size i _ e (0, 0) (Go.heap_alloc_new w _)]
  rcases (show i = 0 ∨ i = 1 ∨ i = 2 ∨ i = 3 ∨ i = 4 ∨ i = 5 ∨ i = 6 ∨ i = 7 ∨ i = 8 ∨ i = 9 from by simp at hi; omega) with rfl | rfl | rfl | rfl | rfl | rfl | rfl | rfl | rfl | rfl <;> rfl
theorem ret_pi {a : List UInt8 × Int} {b : List UInt8 × Int} (h : a = b) : Ending.returned (.tuple #[.string ⟨a.1.toArray⟩, .int .i64 a.2]) = Ending.returned (.tuple #[.string ⟨b.1.toArray⟩, .int .i64 b.2]) := by rw [h]
theorem wp_region_anyG {P : Program} {id : Nat} {Q : Exit → Act → World → Prop} {a : Act} {w : World} {ops : Array Oper} (hm : P.follows .mixedOrders = true) (C : World → Prop)
    (h : wpAnyC P .any ops (CG C) Q ops.size (Array.replicate ops.size false) a w.drew) : (Code.region id ops true).wp P Q a w :=
  wp_region_any hm (wpAnyC.any _ _ _ _ h)
theorem genG {P : Program} {md : Region.Mode} {ops : Array Oper} {C : World → Prop} {Q : Exit → Act → World → Prop} {fuel : Nat} {listed : Array Bool} {a : Act} {w : World} (F : World → Prop) (hF : F w) (h : ∀ w', F w' → wpAnyC P md ops C Q fuel listed a w') : wpAnyC P md ops C Q fuel listed a w := h w hF
set_option maxRecDepth 100000 in
set_option maxHeartbeats 4000000 in
theorem load_Encode (p : Prg) (v : PV) (w : World) (H : PrgAt w v p) : Calls Try.prog 11 #[pgV p v] w fun e w' => e = .returned (.tuple #[.string ⟨(encI p).1.toArray⟩, .int .i64 (encI p).2]) ∧ Below w.heap.size w w' := by
  have HH := Lib.hid H
  have HF := Lib.hid H.forms
  have HA := Lib.hid fun w H => load_writable p v w H
  have HP : Hid (PBox (w.alloc (.cells (pgC p v) 30)) w.heap.size p v) := Lib.hid (PBox.new _ _ _)
  have Hb0 : Hid (Below w.heap.size w (w.alloc (.cells (pgC p v) 30))) := Lib.hid ((Below.refl _ _).alloc (Nat.le_refl _) _)
  have HE : Hid (encI p = if writI p ≠ 0 then ([], writI p) else putP (secsI p)) := Lib.hid rfl
  have HW : Hid (writI p = 0 → Wrt p) := Lib.hid fun h => writ_wrt h
  generalize encI p = G at HE ⊢
  generalize writI p = e1 at HA HE HW
  obtain ⟨ac, cc, at', ct, ax, cx, as', cs, ak, ck, av, cv, hv⟩ := HF.out
  have HV := Lib.hid hv
  clear H HF hv
  obtain ⟨vc, vt, vx, vs, vk, vv⟩ := v
  by_cases hz : e1 = 0
  rotate_left
  · have HG : Hid (G = ([], e1)) := Lib.hid (by rw [HE.out, if_pos hz])
    have hne : (e1 != 0) = true := by rw [bne_iff_ne]; exact hz
    clear HE HW hz
    go_enter Try.func11, Try.ntmps11
    repeat' (first | (with_reducible refine load_pg HP.out _ rfl rfl ?_) | go_values | go_skip | go_guarded | go_step | go_upon)
    refine Calls.mono (HA.out _ (HH.out.keep Hb0.out)) ?_
    rintro _ w1 ⟨rfl, hb1⟩
    dsimp only
    have B1 := Lib.hid (Hb0.out.trans (hb1.mono Hb0.out.size))
    clear hb1 HP Hb0 HA
    repeat' (first | go_values | go_skip | go_guarded | go_step | go_upon)
    go_ret2
    exact ⟨ret_pi HG.out.symm, B1.out⟩
  subst hz
  have HG : Hid (G = putP (secsI p)) := Lib.hid (by rw [HE.out]; rfl)
  have HR := Lib.hid (HW.out rfl)
  clear HE HW
  simp only [PV.mk.injEq] at HV
  obtain ⟨hv1, hv2, hv3, hv4, hv5, hv6⟩ := HV.out
  have h1 := Lib.hid hv1
  have h2 := Lib.hid hv2
  have h3 := Lib.hid hv3
  have h4 := Lib.hid hv4
  have h5 := Lib.hid hv5
  have h6 := Lib.hid hv6
  clear hv1 hv2 hv3 hv4 hv5 hv6 HV
  obtain ⟨gp, hgp⟩ : ∃ g, g = w.heap.size := ⟨_, rfl⟩
  go_enter Try.func11, Try.ntmps11
  repeat' (first | (with_reducible refine load_pg HP.out _ rfl rfl ?_) | go_values | go_skip | go_guarded | go_step | go_upon)
  refine Calls.mono (HA.out _ (HH.out.keep Hb0.out)) ?_
  rintro _ w1 ⟨rfl, hb1⟩
  dsimp only
  have P1 := Lib.hid (HP.out.keep hb1)
  have B1 := Lib.hid (Hb0.out.trans (hb1.mono Hb0.out.size))
  rw [← hgp] at P1 ⊢
  have hgB : w.heap.size ≤ gp := by omega
  have hgw : gp < w1.heap.size := P1.out.lt
  clear hb1 HP Hb0 HA hgp
  have c4 : w1.cell? ⟨gp, 4, none⟩ = some vc := P1.out.cell 4
  rw [h1.out] at c4
  have HC := Lib.hid (by have h := (HH.out.keep B1.out).code; dsimp only at h; rw [h1.out] at h; exact isa_Put _ _ _ h)
  rw [HR.out.code] at HC
  repeat' (first | go_values | go_skip | go_guarded | go_step | go_upon)
  refine Calls.mono (HC.out) ?_
  rintro _ w2 ⟨rfl, hb2⟩
  dsimp only
  have P2 := Lib.hid (P1.out.keep hb2)
  have B2 := Lib.hid (B1.out.trans (hb2.mono B1.out.size))
  clear hb2 P1 B1 HC c4 hgw
  have hgw2 : gp < w2.heap.size := P2.out.lt
  have HS : Hid (secsI p = [(1, sec1 p), (2, (putI p.code).1), (3, sec3 p), (4, sec4 p), (5, sec5 p)]) := Lib.hid rfl
  generalize (putI p.code).1 = cb at HS ⊢
  have HT : Hid (T1 w p ⟨vc, vt, vx, vs, vk, vv⟩ gp w2.heap.size [] ((w2.alloc (.cells #[.pointer none, .slice none 0 0] 60)).alloc (.cells #[.pointer none, .slice none 0 0] 60))) := Lib.hid (by
    have hb : Below w2.heap.size w2 ((w2.alloc (.cells #[.pointer none, .slice none 0 0] 60)).alloc (.cells #[.pointer none, .slice none 0 0] 60)) := ((Below.refl _ _).alloc (Nat.le_refl _) _).alloc (by simp) _
    refine ⟨B2.out.trans (hb.mono B2.out.size), P2.out.keep hb, (Bld.fresh w2).keep ((Below.refl _ _).alloc (Nat.le_refl _) _) (by simp), ?_, hgw2, B2.out.size⟩
    have := Go.heap_alloc_new (w2.alloc (.cells #[.pointer none, .slice none 0 0] 60)) (.cells #[.pointer none, .slice none 0 0] 60)
    simpa using this)
  have c5 : ((w2.alloc (.cells #[.pointer none, .slice none 0 0] 60)).alloc (.cells #[.pointer none, .slice none 0 0] 60)).cell? ⟨gp, 5, none⟩ = some vt := HT.out.box.cell 5
  rw [h2.out] at c5
  obtain ⟨nt, hnt⟩ : ∃ n, n = p.tabs.length := ⟨_, rfl⟩
  have hn16 := HR.out.nt
  rw [← hnt] at c5 hn16
  have hku := u64_small (n := nt) (by omega)
  have hkw : IntKind.u64.wrap (nt : Int) = nt := wu64 (by omega) hku
  have Hnt := Lib.hid hnt
  clear hgw2 P2 B2 hnt
  have hvl := vput_len10 hku
  repeat' (first | go_values | go_skip | go_guarded | go_step | go_upon)
  refine Calls.mono (wire_Put nt _ hku) ?_
  rintro _ w3 ⟨rfl, hb3⟩
  dsimp only
  have HT3 := Lib.hid (HT.out.step hb3)
  obtain ⟨g1, hg1⟩ : ∃ g, g = w2.heap.size := ⟨_, rfl⟩
  rw [← hg1] at HT3 ⊢
  clear HT c5 hb3 hg1 hku hkw
  repeat' (first | go_values | go_skip | go_guarded | go_step | go_upon)
  refine Calls.mono (HT3.out.write _ (by simp; omega)) ?_
  rintro _ w4 ⟨⟨n4, rfl⟩, ht4⟩
  dsimp only
  rw [List.nil_append] at ht4
  have HT4 : Hid (T1 w p ⟨vc, vt, vx, vs, vk, vv⟩ gp g1 (tabsTo p 0) w4) := Lib.hid (by rw [tabsTo_zero, ← Hnt.out]; exact ht4)
  clear ht4 HT3 hvl w2 w3
  have c5 : w4.cell? ⟨gp, 5, none⟩ = some vt := HT4.out.box.cell 5
  rw [h2.out, ← Hnt.out] at c5
  obtain ⟨ts, hts, htl, htr⟩ := HH.out.tabs
  dsimp only at hts
  have Htl := Lib.hid htl
  have Htr := Lib.hid htr
  obtain ⟨at2, ct2, hvt2, _, _, hcellt⟩ := hts.open (f := tbC) (sz := 2) (fun _ => rfl)
  have hta : at2 = at' := by
    have := h2.out.symm.trans hvt2
    injection this with e1 e2 e3
    exact e1.symm
  subst hta
  have HTL : Hid (∀ k, k ≤ nt → (tabsTo p k).length ≤ 10 + 4000020 * k) := Lib.hid fun k hk => tabsTo_len HR.out k (by rw [← Hnt.out]; exact hk)
  have HTS : Hid (∀ k, k < nt → tabsTo p (k + 1) = tabsTo p k ++ tabB (p.tabs.getD k (0, []))) := Lib.hid fun k hk => tabsTo_succ p k (by rw [← Hnt.out]; exact hk)
  have HTB : Hid (∀ k, k < nt → (tabB (p.tabs.getD k (0, []))).length ≤ 4000020) := Lib.hid fun k hk => tabB_len HR.out k (by rw [← Hnt.out]; exact hk)
  have HTA : Hid (tabsTo p nt = sec3 p) := Lib.hid (by unfold sec3; rw [Hnt.out])
  clear hts htl htr hvt2
  repeat' (first | go_values | go_skip | go_guarded | go_step | go_upon)
  clear c5
  go_loopw [39] (fun s39 wr => ∃ k : Nat, s39 = .int .i64 k ∧ k ≤ nt ∧ Hid (T1 w p ⟨vc, vt, vx, vs, vk, vv⟩ gp g1 (tabsTo p k) wr)) (fun s39 _ => nt - (intOf s39).toNat)
  case atStart => exact ⟨0, rfl, Nat.zero_le _, HT4⟩
  case round =>
    clear HT4
    obtain ⟨k, rfl, hk, HK⟩ := hrel
    by_cases hlt : k < nt
    · rcases hcellt with h0 | ⟨b, off, rfl, hbB, hcellt⟩
      · have := Htl.out; have := Hnt.out; omega
      obtain ⟨t, ht⟩ : ∃ t, ts[k]? = some t := ⟨_, List.getElem?_eq_getElem (by rw [Htl.out, ← Hnt.out]; exact hlt)⟩
      obtain ⟨d, hd⟩ : ∃ d, p.tabs[k]? = some d := ⟨_, List.getElem?_eq_getElem (by rw [← Hnt.out]; exact hlt)⟩
      obtain ⟨e1, _, hrow⟩ := Htr.out k t d ht hd
      obtain ⟨k0, k1⟩ := tab_cells hcellt ht
      have hdd : p.tabs.getD k (0, []) = d := by rw [List.getD_eq_getElem?_getD, hd]; rfl
      obtain ⟨hq1, hq2, hq3⟩ := HR.out.tab k (by rw [← Hnt.out]; exact hlt)
      have HS1 := Lib.hid (HTS.out k hlt)
      have hB1 := HTB.out k hlt
      rw [hdd] at hq1 hq2 hq3 HS1 hB1
      obtain ⟨c, hc⟩ : ∃ c : Nat, d.1 = (c : Int) := ⟨d.1.toNat, by omega⟩
      have HTb : Hid (vput c ++ vputs (natsI d.2) = tabB d) := Lib.hid (by unfold tabB; rw [hc]; rfl)
      rw [e1, hc] at k0
      rw [hc] at hq1
      have Hrow := Lib.hid hrow
      have Hq3 := Lib.hid hq3
      obtain ⟨ad, cd, hvd, _, _⟩ := hrow.slice
      rw [hvd] at k1 Hrow
      rw [← HK.out.bel.cell (show b < w.heap.size from hbB)] at k0 k1
      have hku := u64_small (n := c) (by omega)
      have hkw : IntKind.u64.wrap (c : Int) = c := wu64 (by omega) hku
      have hlk := HTL.out k (by omega)
      clear hvd hrow hq3 hdd e1 ht hd hcellt
      repeat' (first | go_values | go_skip | go_guarded | go_step | go_upon)
      refine gen_world (fun w' => T1 w p ⟨vc, vt, vx, vs, vk, vv⟩ gp g1 (tabsTo p k) w' ∧ TBox w' wr.heap.size c (.slice ad d.2.length cd)) ⟨HK.out.step ((Below.refl _ _).alloc (Nat.le_refl _) _), TBox.new _ _ _⟩ ?_
      rintro wx ⟨hx1, hx2⟩
      have HX := Lib.hid hx1
      have q0 : ∀ nq : WB wx, nq.1.cell? ⟨wr.heap.size, 0, none⟩ = some (.int .i64 (c : Int)) := fun nq => (hx2.keep nq.2).two.1
      have q1 : ∀ nq : WB wx, nq.1.cell? ⟨wr.heap.size, 1, none⟩ = some (.slice ad d.2.length cd) := fun nq => (hx2.keep nq.2).two.2
      have HP1 := Lib.hid fun w => wire_Put c w hku
      have HN1 := Lib.hid fun nq : WB wx => load_numbers (.slice ad d.2.length cd) d.2 Hq3.out (by omega) nq.1 (Hrow.out.keep ((HX.out.step nq.2).bel))
      have hl1 := vput_len10 hku
      have hl2 : (vputs (natsI d.2)).length ≤ 4000010 := by have := vputs_len (natsI_u64 Hq3.out) (by rw [natsI_len]; omega); rw [natsI_len] at this; omega
      clear hx1 hx2 k0 k1
      refine wp_region_tail 8 (by kernel_rfl) (by kernel_rfl) wx (Below.refl _ _) ?_
      simp only [List.take_succ_cons, List.take_zero, List.drop_succ_cons, List.drop_zero]
      repeat (go_big_quiet_step ((first | (go_at_call 25; exact calls_wb (HP1.out _)) | (go_at_call 26; exact calls_wb (HN1.out _)))))
      refine wpQuiet_nil ?_
      rintro _ ⟨nq, rfl⟩
      have hnq := nq.2
      have HX2 := Lib.hid (HX.out.step hnq)
      clear q0 q1 HP1 HN1 HX
      repeat' (first | go_values | go_skip | go_guarded | go_step | go_upon)
      rw [ba_append2, HTb.out]
      refine Calls.mono (HX2.out.write _ (by omega)) ?_
      rintro _ w5 ⟨⟨n5, rfl⟩, ht5⟩
      dsimp only
      rw [← HS1.out] at ht5
      have HT5 := Lib.hid ht5
      clear ht5 HX2 hl1 hl2 hB1 hlk HS1 HTb
      repeat' (first | go_values | go_skip | go_guarded | go_step | go_upon)
      go_roundw
      case rel => exact ⟨k + 1, by go_num, by omega, HT5⟩
      case measure => simp [intOf]; omega
    · obtain rfl : k = nt := by omega
      rw [HTA.out] at HK
      clear hk hlt hcellt Htl Htr HTL HTS HTB HTA hn16 Hnt
      have c6 : wr.cell? ⟨gp, 6, none⟩ = some vx := HK.out.box.cell 6
      rw [h3.out] at c6
      have HU0 := Lib.hid (T2.start HK.out)
      obtain ⟨wC, hwC⟩ : ∃ wC, wC = wr := ⟨_, rfl⟩
      have HU : Hid (T2 w p ⟨vc, vt, vx, vs, vk, vv⟩ gp g1 (sec3 p) wC [] wr) := Lib.hid (by rw [hwC]; exact HU0.out)
      clear HU0 hwC HK
      obtain ⟨nx, hnx⟩ : ∃ n, n = p.texts.length := ⟨_, rfl⟩
      have hnx16 := HR.out.nx
      rw [← hnx] at c6 hnx16
      have hku := u64_small (n := nx) (by omega)
      have hkw : IntKind.u64.wrap (nx : Int) = nx := wu64 (by omega) hku
      have Hnx := Lib.hid hnx
      have hvl := vput_len10 hku
      clear hnx
      repeat' (first | go_values | go_skip | go_guarded | go_step | go_upon)
      refine Calls.mono (wire_Put nx _ hku) ?_
      rintro _ w5 ⟨rfl, hb5⟩
      dsimp only
      have HU5 := Lib.hid (HU.out.step hb5)
      clear HU c6 hb5 hku hkw
      repeat' (first | go_values | go_skip | go_guarded | go_step | go_upon)
      refine Calls.mono (HU5.out.write _ (by simp; omega)) ?_
      rintro _ w6 ⟨⟨n6, rfl⟩, hu6⟩
      dsimp only
      rw [List.nil_append] at hu6
      have HU6 : Hid (T2 w p ⟨vc, vt, vx, vs, vk, vv⟩ gp g1 (sec3 p) wC (textsTo p 0) w6) := Lib.hid (by rw [textsTo_zero, ← Hnx.out]; exact hu6)
      clear hu6 HU5 hvl
      have c6 : w6.cell? ⟨gp, 6, none⟩ = some vx := HU6.out.box.cell 6
      rw [h3.out, ← Hnx.out] at c6
      obtain ⟨ax2, cx2, hvx2, _, _, hcellx⟩ := HH.out.texts.open strC_len25
      dsimp only at hvx2
      have hxa : ax2 = ax := by
        have := h3.out.symm.trans hvx2
        injection this with e1 e2 e3
        exact e1.symm
      subst hxa
      have HTL : Hid (∀ k, k ≤ nx → (textsTo p k).length ≤ 10 + 4106 * k) := Lib.hid fun k hk => textsTo_len HR.out k (by rw [← Hnx.out]; exact hk)
      have HTS : Hid (∀ k, k < nx → textsTo p (k + 1) = textsTo p k ++ txtB (p.texts.getD k [])) := Lib.hid fun k hk => textsTo_succ p k (by rw [← Hnx.out]; exact hk)
      have HTB : Hid (∀ k, k < nx → (p.texts.getD k []).length ≤ 4096 ∧ (txtB (p.texts.getD k [])).length ≤ 4106) := Lib.hid fun k hk => ⟨HR.out.txt k (by rw [← Hnx.out]; exact hk), txtB_len HR.out k (by rw [← Hnx.out]; exact hk)⟩
      have HTA : Hid (textsTo p nx = sec4 p) := Lib.hid (by unfold sec4; rw [Hnx.out])
      rw [← Hnx.out] at hcellx
      have Hcx := Lib.hid hcellx
      clear hvx2 hcellx
      repeat' (first | go_values | go_skip | go_guarded | go_step | go_upon)
      clear c6
      go_loopw [62] (fun s62 wr => ∃ k : Nat, s62 = .int .i64 k ∧ k ≤ nx ∧ Hid (T2 w p ⟨vc, vt, vx, vs, vk, vv⟩ gp g1 (sec3 p) wC (textsTo p k) wr)) (fun s62 _ => nx - (intOf s62).toNat)
      case atStart => exact ⟨0, rfl, Nat.zero_le _, HU6⟩
      case round =>
        clear HU6
        obtain ⟨k, rfl, hk, HK⟩ := hrel
        by_cases hlt : k < nx
        · have hcell := Hcx.out
          rcases hcell with h0 | ⟨b, off, rfl, hbB, hcell⟩
          · omega
          obtain ⟨x, hx⟩ : ∃ x, p.texts[k]? = some x := ⟨_, List.getElem?_eq_getElem (by rw [← Hnx.out]; exact hlt)⟩
          have hxx : p.texts.getD k [] = x := by rw [List.getD_eq_getElem?_getD, hx]; rfl
          have k0 := hcell k x 0 hx (by decide)
          rw [Nat.mul_one, Nat.add_zero] at k0
          obtain ⟨hB0, hB1⟩ := HTB.out k hlt
          have HS1 := Lib.hid (HTS.out k hlt)
          rw [hxx] at hB0 hB1 HS1
          have k1 : wr.cell? ⟨b, off + k, none⟩ = some (.string ⟨x.toArray⟩) := by rw [HK.out.bel.cell (show b < w.heap.size from hbB)]; exact k0
          have hlk := HTL.out k (by omega)
          clear hx hxx k0 hcell hbB
          repeat' (first | go_values | go_skip | go_guarded | go_step | go_upon)
          refine Calls.mono (wire_PutText_l x (by omega) _) ?_
          rintro _ w7 ⟨rfl, hb7⟩
          dsimp only
          have HX := Lib.hid (HK.out.step hb7)
          rw [show vput x.length ++ x = txtB x from rfl]
          clear HK hb7 k1
          repeat' (first | go_values | go_skip | go_guarded | go_step | go_upon)
          refine Calls.mono (HX.out.write _ (by omega)) ?_
          rintro _ w8 ⟨⟨n8, rfl⟩, ht8⟩
          dsimp only
          rw [← HS1.out] at ht8
          have HT8 := Lib.hid ht8
          clear ht8 HX hB0 hB1 hlk HS1
          repeat' (first | go_values | go_skip | go_guarded | go_step | go_upon)
          go_roundw
          case rel => exact ⟨k + 1, by go_num, by omega, HT8⟩
          case measure => simp [intOf]; omega
        · obtain rfl : k = nx := by omega
          rw [HTA.out] at HK
          clear hk hlt Hcx HTL HTS HTB HTA hnx16 Hnx
          have c7 : wr.cell? ⟨gp, 7, none⟩ = some vs := HK.out.box.cell 7
          rw [h4.out] at c7
          obtain ⟨ns, hns⟩ : ∃ n, n = p.hash.seeds.length := ⟨_, rfl⟩
          have hns16 := HR.out.nk.1
          rw [← hns] at c7 hns16
          obtain ⟨as2, cs2, hvs2, _, _, hcells⟩ := HH.out.hash.seeds.open u32C_len25
          dsimp only at hvs2
          have hsa : as2 = as' := by
            have := h4.out.symm.trans hvs2
            injection this with e1 e2 e3
            exact e1.symm
          subst hsa
          have Hns := Lib.hid hns
          rw [← hns] at hcells
          have Hcs := Lib.hid hcells
          clear hns hvs2 hcells
          obtain ⟨wB, hwB⟩ : ∃ x, x = wr := ⟨_, rfl⟩
          have HKB : Hid (T2 w p ⟨vc, vt, vx, vs, vk, vv⟩ gp g1 (sec3 p) wC (sec4 p) wB) := Lib.hid (by rw [hwB]; exact HK.out)
          have HbB : Hid (Below wB.heap.size wB wr) := Lib.hid (by rw [hwB]; exact Below.refl _ _)
          have hBs : wB.heap.size ≤ wr.heap.size := by rw [hwB]; exact Nat.le_refl _
          clear hwB HK
          repeat' (first | go_values | go_skip | go_guarded | go_step | go_upon)
          clear c7
          go_loopw [13, 74] (fun s13 s74 wr => ∃ k : Nat, s74 = .int .i64 k ∧ k ≤ ns ∧ Hid (OwnI wB.heap.size 66 .u64 wr s13 (nats (p.hash.seeds.take k))) ∧ Hid (Below wB.heap.size wB wr)) (fun _ s74 _ => ns - (intOf s74).toNat)
          case atStart => exact ⟨0, rfl, Nat.zero_le _, Lib.hid (OwnI.nil _ _ _ _), HbB⟩
          case round =>
            clear HbB hBs
            obtain ⟨k, rfl, hk, Ho, Hb⟩ := hrel
            have hsz := Hb.out.size
            by_cases hlt : k < ns
            · rcases Hcs.out with h0 | ⟨b, off, rfl, hbB, hcell⟩
              · omega
              obtain ⟨x, hx⟩ : ∃ x, p.hash.seeds[k]? = some x := ⟨_, List.getElem?_eq_getElem (by rw [← Hns.out]; exact hlt)⟩
              have hxx : p.hash.seeds.getD k 0 = x := by rw [List.getD_eq_getElem?_getD, hx]; rfl
              have k0 := hcell k x 0 hx (by decide)
              rw [Nat.mul_one, Nat.add_zero] at k0
              have k1 : wr.cell? ⟨b, off + k, none⟩ = some (.int .u32 (x : Int)) := by rw [Hb.out.cell (show b < wB.heap.size from by have := HKB.out.bel.size; omega), HKB.out.bel.cell (show b < w.heap.size from hbB)]; exact k0
              have hb32 := HH.out.hash.sb k
              rw [hxx] at hb32
              have hku := u64_small (n := x) (by omega)
              have hkw : IntKind.u64.wrap (x : Int) = x := wu64 (by omega) hku
              have Hs := Lib.hid (taken_d p.hash.seeds 0 k (by rw [← Hns.out]; exact hlt))
              rw [hxx] at Hs
              have Hlen : (nats (p.hash.seeds.take k)).length ≤ k := by rw [nats_len, List.length_take]; omega
              obtain ⟨L, hL⟩ : ∃ L, L = nats (p.hash.seeds.take k) := ⟨_, rfl⟩
              rw [← hL] at Ho Hlen
              have HLe : Hid (nats (p.hash.seeds.take (k + 1)) = L ++ [(x : Int)]) := Lib.hid (by rw [Hs.out, nats_append, hL]; rfl)
              clear hL Hs hb32 hku hxx hx k0 hcell hbB
              repeat' (first | (at_builtin; refine app_ints wB.heap.size 8 [_] Try.underlying26 info_u64N (by decide) rfl _ _ rfl rfl rfl rfl rfl Ho.out hsz (by omega) ?_; intro v1 w1 hown1 hb1 _) | go_values | go_skip | go_guarded | go_step | go_upon)
              go_roundw
              case rel => exact ⟨k + 1, by go_num, by omega, Lib.hid (by rw [HLe.out]; exact hown1), Lib.hid (Hb.out.trans hb1)⟩
              case measure => simp [intOf]; omega
            · obtain rfl : k = ns := by omega
              rw [Hns.out, List.take_length] at Ho
              clear hk hlt Hcs hns16 Hns
              have HK := Lib.hid (HKB.out.step Hb.out)
              have HCB : Hid (wC.heap.size ≤ wB.heap.size) := Lib.hid HKB.out.els.size
              have HKB' : Hid (Below w.heap.size w wr) := Lib.hid HK.out.bel
              have hgw1 : w.heap.size ≤ g1 := HKB.out.t1.hB
              have q0 : ∀ nq : GW (Below g1 wr), nq.1.cell? ⟨gp, 0, none⟩ = some (.int .i64 p.grow) := fun nq => by rw [nq.2.cell (show gp < g1 from HKB.out.t1.low)]; exact HK.out.box.cell 0
              have q1 : ∀ nq : GW (Below g1 wr), nq.1.cell? ⟨gp, 1, none⟩ = some (.int .i64 p.rest) := fun nq => by rw [nq.2.cell (show gp < g1 from HKB.out.t1.low)]; exact HK.out.box.cell 1
              have q2 : ∀ nq : GW (Below g1 wr), nq.1.cell? ⟨gp, 2, none⟩ = some (.int .i64 p.extra) := fun nq => by rw [nq.2.cell (show gp < g1 from HKB.out.t1.low)]; exact HK.out.box.cell 2
              have q3 : ∀ nq : GW (Below g1 wr), nq.1.cell? ⟨gp, 3, none⟩ = some (.int .i64 p.signs) := fun nq => by rw [nq.2.cell (show gp < g1 from HKB.out.t1.low)]; exact HK.out.box.cell 3
              have q8 : ∀ nq : GW (Below g1 wr), nq.1.cell? ⟨gp, 8, none⟩ = some vk := fun nq => by rw [nq.2.cell (show gp < g1 from HKB.out.t1.low)]; exact HK.out.box.cell 8
              have q9 : ∀ nq : GW (Below g1 wr), nq.1.cell? ⟨gp, 9, none⟩ = some vv := fun nq => by rw [nq.2.cell (show gp < g1 from HKB.out.t1.low)]; exact HK.out.box.cell 9
              repeat' (go_not_at_region 26; first | go_values | go_skip | go_guarded | go_step | go_upon)
              refine wp_region_anyG (by kernel_rfl) (Below g1 wr) ?_
              refine tkC 0 rfl ?_
              refine tkC 1 rfl ?_
              refine tkC 2 rfl ?_
              refine tkC 3 rfl ?_
              refine tkC 4 rfl ?_
              refine tkC 5 rfl ?_
              refine tkC 6 rfl ?_
              refine tkC 7 rfl ?_
              refine tkC 11 rfl ?_
              refine tkC 12 rfl ?_
              refine tkC 17 rfl ?_
              refine tkC 19 rfl ?_
              refine tkC 20 rfl ?_
              refine tkC 21 rfl ?_
              refine tkC 24 rfl ?_
              refine tkC 25 rfl ?_
              refine tkC 26 rfl ?_
              clear q0 q1 q2 q3 q8 q9 HKB
              refine genG (fun W => Below wr.heap.size wr W) ((Below.refl _ _).drew) ?_
              intro W0 hb0
              have HT0 := Lib.hid (HK.out.step hb0)
              have HO0 := Lib.hid (Ho.out.keep hb0 (Nat.le_refl _))
              have C0 : Hid (Below g1 wr W0) := Lib.hid (hb0.mono (by have := HK.out.gsz; omega))
              clear hb0 HK Ho
              refine wpAnyC_ready (CG.of (C0.out)) (rs := [8]) (by kernel_rfl) (by simp) ?_
              refine (AllReadyC.cons rfl (fun K hK => ?_) AllReadyC.nil)
              go_simp
              refine hK _ _ ?_
              clear hK K
              refine genG (fun W => Below W0.heap.size W0 W ∧ RowOf intC 1 W (.slice (some ⟨W0.heap.size, 0, none⟩) 4 4) [p.grow, p.rest, p.extra, p.signs]) ⟨(Below.refl _ _).alloc (Nat.le_refl _) _, row_four W0 _ _ _ _ _⟩ ?_
              rintro W1 ⟨hb1, hr1⟩
              have HT1 := Lib.hid (HT0.out.step hb1)
              have HO1 := Lib.hid (HO0.out.keep hb1 (Nat.le_refl _))
              have C1 : Hid (Below g1 wr W1) := Lib.hid (C0.out.trans (hb1.mono (by have := HT0.out.gsz; omega)))
              have HN := Lib.hid (load_numbers _ _ HR.out.num (by simp) W1 hr1)
              rw [show vputs (natsI [p.grow, p.rest, p.extra, p.signs]) = sec1 p from rfl] at HN
              clear hb1 HT0 HO0 C0 hr1
              refine wpAnyC_ready (CG.of (C1.out)) (rs := [9]) (by kernel_rfl) (by simp) ?_
              refine (AllReadyC.cons rfl (fun K hK => ?_) AllReadyC.nil)
              go_simp
              refine Calls.mono (HN.out) ?_
              rintro _ W2 ⟨rfl, hb2⟩
              dsimp only
              refine hK _ _ ?_
              clear hK K
              have HT2 := Lib.hid (HT1.out.step hb2)
              have HO2 := Lib.hid (HO1.out.keep hb2 (Nat.le_refl _))
              have C2 : Hid (Below g1 wr W2) := Lib.hid (C1.out.trans (hb2.mono (by have := HT1.out.gsz; omega)))
              clear hb2 HT1 HO1 C1 HN
              refine tkC 10 rfl ?_
              obtain ⟨r1, hr1, hr1C, hr1a, hr1b, hi1⟩ := HT2.out.in1 (tabsTo_ne p _)
              obtain ⟨r2, hr2, hr2b, hi2⟩ := HT2.out.in2 (textsTo_ne p _)
              have hCB : wC.heap.size ≤ wB.heap.size := HCB.out
              have HS3 := Lib.hid (str_walk g1 r1 (sec3 p) W2 (tabsTo_ne p _) hi1)
              have HI2 := Lib.hid hi2
              clear hi1 hi2
              refine wpAnyC_ready (CG.of (C2.out)) (rs := [13]) (by kernel_rfl) (by simp) ?_
              refine (AllReadyC.cons rfl (fun K hK => ?_) AllReadyC.nil)
              go_simp
              refine Calls.mono (HS3.out) ?_
              rintro _ W3 ⟨rfl, ho3⟩
              dsimp only
              refine hK _ _ ?_
              clear hK K
              have HI3 := Lib.hid (HI2.out.other ho3 (by omega) (by omega))
              have HO3 := Lib.hid (HO2.out.one ho3 (.inl (by omega)))
              have C3 : Hid (Below g1 wr W3) := Lib.hid (C2.out.trans (ho3.below hr1))
              have hg3 : g1 + 1 < W3.heap.size := by rw [ho3.size]; exact HT2.out.gsz
              clear ho3 HI2 HO2 C2 HS3
              refine tkC 14 rfl ?_
              have HS4 := Lib.hid (str_walk (g1 + 1) r2 (sec4 p) W3 (textsTo_ne p _) HI3.out)
              have hcr : ∃ cs t fz, W3.heap[r2]? = some (.cells cs t fz) ∧ t ≠ 66 := by
                obtain ⟨_, _, cur, _, h2, _⟩ := HI3.out
                exact ⟨cur, _, _, h2, by decide⟩
              refine wpAnyC_ready (CG.of (C3.out)) (rs := [15]) (by kernel_rfl) (by simp) ?_
              refine (AllReadyC.cons rfl (fun K hK => ?_) AllReadyC.nil)
              go_simp
              refine Calls.mono (HS4.out) ?_
              rintro _ W4 ⟨rfl, ho4⟩
              dsimp only
              refine hK _ _ ?_
              clear hK K
              have HO4 := Lib.hid (HO3.out.one ho4 (.inr hcr))
              have C4 : Hid (Below g1 wr W4) := Lib.hid (C3.out.trans (ho4.below (by have := HT2.out.gsz; omega)))
              have hg4 : g1 + 1 < W4.heap.size := by rw [ho4.size]; exact hg3
              clear ho4 HI3 HO3 C3 HS4 hcr hg3
              refine tkC 16 rfl ?_
              have hl1 := vputs_len (l := p.hash.seeds) (getD_u64 fun k => u64_small (by have := HH.out.hash.sb k; omega)) (by have := HR.out.nk; omega)
              have hl2 := vputs_len (l := p.hash.keys) (getD_u64 HH.out.hash.kb) (by have := HR.out.nk; omega)
              have hl3 := vputs_len (l := p.hash.vals) (getD_u64 HH.out.hash.vb) (by have := HR.out.nk; omega)
              have hnk := HR.out.nk
              replace hl1 : (vputs p.hash.seeds).length ≤ 50000 := by omega
              replace hl2 : (vputs p.hash.keys).length ≤ 50000 := by omega
              replace hl3 : (vputs p.hash.vals).length ≤ 50000 := by omega
              have hz1 : ¬ 9223372036854775807 < (vputs p.hash.seeds).length + (vputs p.hash.keys).length := by omega
              have hz2 : ¬ 9223372036854775807 < (vputs p.hash.seeds).length + (vputs p.hash.keys).length + (vputs p.hash.vals).length := by omega
              have Hz1 := Lib.hid hz1
              have Hz2 := Lib.hid hz2
              clear hz1 hz2
              have HA5 := Lib.hid (wire_PutAll _ p.hash.seeds (getD_u64 fun k => u64_small (by have := HH.out.hash.sb k; omega)) (by omega) W4 HO4.out.rd)
              refine wpAnyC_ready (CG.of (C4.out)) (rs := [18]) (by kernel_rfl) (by simp) ?_
              refine (AllReadyC.cons rfl (fun K hK => ?_) AllReadyC.nil)
              go_simp
              refine Calls.mono (HA5.out) ?_
              rintro _ W5 ⟨rfl, hb5⟩
              dsimp only
              refine hK _ _ ?_
              clear hK K
              have C5 : Hid (Below g1 wr W5) := Lib.hid (C4.out.trans (hb5.mono (by omega)))
              have hg5 : g1 + 1 < W5.heap.size := Nat.lt_of_lt_of_le hg4 hb5.size
              have hww := HKB'.out
              have HW5 : Hid (Below w.heap.size w W5) := Lib.hid (hww.trans (C5.out.mono (by omega)))
              clear hb5 HA5 C4 HO4 hg4
              have HA6 := Lib.hid (wire_PutAll vk p.hash.keys (getD_u64 HH.out.hash.kb) (by omega) W5 (row_rd (HH.out.hash.keys.keep HW5.out)))
              refine wpAnyC_ready (CG.of (C5.out)) (rs := [22]) (by kernel_rfl) (by simp) ?_
              refine (AllReadyC.cons rfl (fun K hK => ?_) AllReadyC.nil)
              go_simp
              refine Calls.mono (HA6.out) ?_
              rintro _ W6 ⟨rfl, hb6⟩
              dsimp only
              refine hK _ _ ?_
              clear hK K
              have C6 : Hid (Below g1 wr W6) := Lib.hid (C5.out.trans (hb6.mono (by omega)))
              have hg6 : g1 + 1 < W6.heap.size := Nat.lt_of_lt_of_le hg5 hb6.size
              have HW6 : Hid (Below w.heap.size w W6) := Lib.hid (HW5.out.trans (hb6.mono HW5.out.size))
              clear hb6 HA6 C5 hg5 HW5
              have hz1 := Hz1.out
              refine tkC 23 rfl ?_
              have HA7 := Lib.hid (wire_PutAll vv p.hash.vals (getD_u64 HH.out.hash.vb) (by omega) W6 (row_rd (HH.out.hash.vals.keep HW6.out)))
              refine wpAnyC_ready (CG.of (C6.out)) (rs := [27]) (by kernel_rfl) (by simp) ?_
              refine (AllReadyC.cons rfl (fun K hK => ?_) AllReadyC.nil)
              go_simp
              refine Calls.mono (HA7.out) ?_
              rintro _ W7 ⟨rfl, hb7⟩
              dsimp only
              refine hK _ _ ?_
              clear hK K
              have C7 : Hid (Below g1 wr W7) := Lib.hid (C6.out.trans (hb7.mono (by omega)))
              have hg7 : g1 + 1 < W7.heap.size := Nat.lt_of_lt_of_le hg6 hb7.size
              have HW7 : Hid (Below w.heap.size w W7) := Lib.hid (HW6.out.trans (hb7.mono HW6.out.size))
              clear hb7 HA7 C6 hg6 HW6
              have hz2 := Hz2.out
              refine tkC 28 rfl ?_
              refine tkC 29 rfl ?_
              clear hl1 hl2 hl3 hnk hz1 hz2 Hz1 Hz2
              refine wpAnyC_ready (CG.of (C7.out)) (rs := [30]) (by kernel_rfl) (by simp) ?_
              refine (AllReadyC.cons rfl (fun K hK => ?_) AllReadyC.nil)
              go_simp
              refine hK _ _ ?_
              clear hK K
              refine genG (fun W => Below W7.heap.size W7 W ∧ RowOf secC 2 W (.slice (some ⟨W7.heap.size, 0, none⟩) 5 5) (secsI p)) ⟨(Below.refl _ _).alloc (Nat.le_refl _) _, by rw [HS.out]; exact row_secs W7 _ _ _ _ _ _ (by rw [ba_append2, ba_append2]; rfl) _⟩ ?_
              rintro W8 ⟨hb8, hr8⟩
              have C8 : Hid (Below g1 wr W8) := Lib.hid (C7.out.trans (hb8.mono (by omega)))
              have HW8 : Hid (Below w.heap.size w W8) := Lib.hid (HW7.out.trans (hb8.mono HW7.out.size))
              have hg8 : g1 + 1 < W8.heap.size := Nat.lt_of_lt_of_le hg7 hb8.size
              have HP := Lib.hid (pack_Put _ (secsI p) W8 hr8 (secs_ok HR.out ⟨getD_u64 fun k => u64_small (by have := HH.out.hash.sb k; omega), getD_u64 HH.out.hash.kb, getD_u64 HH.out.hash.vb⟩))
              clear hb8 hr8 C7 HW7 hg7
              refine wpAnyC_ready (CG.of (C8.out)) (rs := [31]) (by kernel_rfl) (by simp) ?_
              refine (AllReadyC.cons rfl (fun K hK => ?_) AllReadyC.nil)
              go_simp
              refine Calls.mono (HP.out) ?_
              rintro _ W9 ⟨rfl, hb9⟩
              dsimp only
              refine hK _ _ ?_
              clear hK K
              have C9 : Hid (Below g1 wr W9) := Lib.hid (C8.out.trans (hb9.mono (by omega)))
              have HW9 : Hid (Below w.heap.size w W9) := Lib.hid (HW8.out.trans (hb9.mono HW8.out.size))
              clear hb9 HP C8 HW8 hg8
              refine tkC 32 rfl ?_
              refine tkC 33 rfl ?_
              refine tkC 34 rfl ?_
              refine tkC 35 rfl ?_
              refine wpAnyC_done (by kernel_rfl) (CG.of (C9.out)) (by go_simp <;> with_reducible rfl) ?_
              repeat' (first | go_values | go_skip | go_guarded | go_step | go_upon)
              go_ret2
              exact ⟨ret_pi HG.out.symm, HW9.out⟩
end Go.Proofs.Ytbomloodllddaaa
/- Walks: the first two sections are read (load.sections). Conditions: the text is of at most 10^15 bytes; reader and program lie in variables of their own. -/
namespace Go.Proofs.Ytbomloodllddaaa
open Go.RowKit
/-- only blocks g and q turn, and new blocks are laid -/
structure Else2 (g q : Nat) (w w' : World) : Prop where
  os : w'.os = w.os
  tape : w'.tape = w.tape
  output : w'.output = w.output
  size : w.heap.size ≤ w'.heap.size
  block : ∀ k, k < w.heap.size → k ≠ g → k ≠ q → w'.heap[k]? = w.heap[k]?
section
variable {g q : Nat} {w w' w'' : World}
theorem Else2.of1 (h : Else g w w') : Else2 g q w w' := ⟨h.os, h.tape, h.output, h.size, fun k hk h1 _ => h.block k hk h1⟩
theorem Else2.refl : Else2 g q w w := ⟨rfl, rfl, rfl, Nat.le_refl _, fun _ _ _ _ => rfl⟩
theorem Else2.trans (h : Else2 g q w w') (h' : Else2 g q w' w'') : Else2 g q w w'' :=
  ⟨h'.os.trans h.os, h'.tape.trans h.tape, h'.output.trans h.output, Nat.le_trans h.size h'.size, fun k hk h1 h2 => (h'.block k (Nat.lt_of_lt_of_le hk h.size) h1 h2).trans (h.block k hk h1 h2)⟩
theorem Else2.belowB (h : Else2 g q w w') (hb : Below w.heap.size w' w'') : Else2 g q w w'' :=
  ⟨hb.os.trans h.os, hb.tape.trans h.tape, hb.output.trans h.output, Nat.le_trans h.size hb.size, fun k hk h1 h2 => (hb.block k hk).trans (h.block k hk h1 h2)⟩
theorem Else2.setG (h : Else2 g q w w') (o : Nat) (u : Value) : Else2 g q w (w'.setCell ⟨g, o, none⟩ u) :=
  ⟨h.os, h.tape, h.output, by have := h.size; simpa [World.setCell] using this, fun k hk h1 h2 => by rw [show (w'.setCell ⟨g, o, none⟩ u).heap[k]? = w'.heap[k]? from Below.heap_setCell _ _ _ _ (by dsimp only; omega)]; exact h.block k hk h1 h2⟩
theorem Else2.setQ (h : Else2 g q w w') (o : Nat) (u : Value) : Else2 g q w (w'.setCell ⟨q, o, none⟩ u) :=
  ⟨h.os, h.tape, h.output, by have := h.size; simpa [World.setCell] using this, fun k hk h1 h2 => by rw [show (w'.setCell ⟨q, o, none⟩ u).heap[k]? = w'.heap[k]? from Below.heap_setCell _ _ _ _ (by dsimp only; omega)]; exact h.block k hk h1 h2⟩
theorem Else2.below {B : Nat} (h : Else2 g q w w') (hg : B ≤ g) (hq : B ≤ q) (hB : B ≤ w.heap.size) : Below B w w' := ⟨h.os, h.tape, h.output, h.size, fun k hk => h.block k (by omega) (by omega) (by omega)⟩
theorem RdAt.setQ {s : List UInt8} {a b : Int} {wd : Bool} {o : Nat} {u : Value} (h : RdAt w g s a b wd) (hne : g ≠ q) : RdAt (w.setCell ⟨q, o, none⟩ u) g s a b wd := by
  unfold RdAt; rw [show (w.setCell ⟨q, o, none⟩ u).heap[g]? = w.heap[g]? from Below.heap_setCell _ _ _ _ (by dsimp only; omega)]; exact h
variable {p : Prg} {v : PV}
theorem PBox.setG {o : Nat} {u : Value} (h : PBox w q p v) (hne : g ≠ q) : PBox (w.setCell ⟨g, o, none⟩ u) q p v := by
  unfold PBox; rw [show (w.setCell ⟨g, o, none⟩ u).heap[q]? = w.heap[q]? from Below.heap_setCell _ _ _ _ (by dsimp only; omega)]; exact h
theorem PBox.els (h : PBox w q p v) (he : Else g w w') (hne : g ≠ q) : PBox w' q p v := he.row h (Ne.symm hne)
theorem PBox.free (h : PBox w q p v) (k : Nat) : w.frozen? ⟨q, k, none⟩ = false := frozen_of_row _ _ _ _ _ h
theorem PBox.set0 (h : PBox w q p v) (x : Int) : PBox (w.setCell ⟨q, 0, none⟩ (.int .i64 x)) q { p with grow := x } v := by
  unfold PBox; rw [setCell_eq_setRow _ _ _ _ _ _ _ h, setRow_heap _ _ _ _ _ _ h]; simp
theorem PBox.set1 (h : PBox w q p v) (x : Int) : PBox (w.setCell ⟨q, 1, none⟩ (.int .i64 x)) q { p with rest := x } v := by
  unfold PBox; rw [setCell_eq_setRow _ _ _ _ _ _ _ h, setRow_heap _ _ _ _ _ _ h]; simp
theorem PBox.set2 (h : PBox w q p v) (x : Int) : PBox (w.setCell ⟨q, 2, none⟩ (.int .i64 x)) q { p with extra := x } v := by
  unfold PBox; rw [setCell_eq_setRow _ _ _ _ _ _ _ h, setRow_heap _ _ _ _ _ _ h]; simp
theorem PBox.set3 (h : PBox w q p v) (x : Int) : PBox (w.setCell ⟨q, 3, none⟩ (.int .i64 x)) q { p with signs := x } v := by
  unfold PBox; rw [setCell_eq_setRow _ _ _ _ _ _ _ h, setRow_heap _ _ _ _ _ _ h]; simp
theorem PBox.set4 (h : PBox w q p v) (x : Value) (c : List (Nat → Int)) : PBox (w.setCell ⟨q, 4, none⟩ x) q { p with code := c } { v with vc := x } := by
  unfold PBox; rw [setCell_eq_setRow _ _ _ _ _ _ _ h, setRow_heap _ _ _ _ _ _ h]; simp
theorem PBox.set5 (h : PBox w q p v) (x : Value) (c : List (Int × List Int)) : PBox (w.setCell ⟨q, 5, none⟩ x) q { p with tabs := c } { v with vt := x } := by
  unfold PBox; rw [setCell_eq_setRow _ _ _ _ _ _ _ h, setRow_heap _ _ _ _ _ _ h]; simp
theorem PBox.set6 (h : PBox w q p v) (x : Value) (c : List (List UInt8)) : PBox (w.setCell ⟨q, 6, none⟩ x) q { p with texts := c } { v with vx := x } := by
  unfold PBox; rw [setCell_eq_setRow _ _ _ _ _ _ _ h, setRow_heap _ _ _ _ _ _ h]; simp
theorem PBox.set7 (h : PBox w q p v) (x : Value) (c : HashP) : PBox (w.setCell ⟨q, 7, none⟩ x) q { p with hash := c } { v with vs := x } := by
  unfold PBox; rw [setCell_eq_setRow _ _ _ _ _ _ _ h, setRow_heap _ _ _ _ _ _ h]; simp
theorem PBox.set8 (h : PBox w q p v) (x : Value) (c : HashP) : PBox (w.setCell ⟨q, 8, none⟩ x) q { p with hash := c } { v with vk := x } := by
  unfold PBox; rw [setCell_eq_setRow _ _ _ _ _ _ _ h, setRow_heap _ _ _ _ _ _ h]; simp
theorem PBox.set9 (h : PBox w q p v) (x : Value) (c : HashP) : PBox (w.setCell ⟨q, 9, none⟩ x) q { p with hash := c } { v with vv := x } := by
  unfold PBox; rw [setCell_eq_setRow _ _ _ _ _ _ _ h, setRow_heap _ _ _ _ _ _ h]; simp
end
theorem getn_bad (s : List UInt8) : ∀ (n : Nat) (a : Int), (getn s n a).2.2 ≠ 0 → getn s n a = ([], 0, (getn s n a).2.2)
  | 0, a, h => absurd rfl h
  | n + 1, a, h => by
    rw [getn] at h ⊢
    by_cases h1 : (vget s a).2.2 ≠ 0
    · rw [if_pos h1]
    · rw [if_neg h1] at h ⊢
      by_cases h2 : (getn s n (vget s a).2.1).2.2 ≠ 0
      · rw [if_pos h2]
      · rw [if_neg h2] at h; exact absurd rfl h
theorem geta_err {s : List UInt8} {a most : Int} (h : (geta s a most).2.2 ≠ 0) : geta s a most = ([], 0, (geta s a most).2.2) := by
  unfold geta at h ⊢
  by_cases h1 : (vget s a).2.2 ≠ 0
  · rw [if_pos h1]
  · rw [if_neg h1] at h ⊢
    by_cases h2 : max most 0 < ((vget s a).1 : Int)
    · rw [if_pos h2]
    · rw [if_neg h2] at h ⊢; exact getn_bad s _ _ h
theorem rdL_zero (s : List UInt8) (a most : Int) : rdL s a 0 most = geta s a most := if_neg (by simp)
/-- what reading a section comes to -/
def SecDone (g q : Nat) (s : List UInt8) (k : Nat) (p : Prg) (w : World) (R : World → PV → Prop) (e : Ending) (w' : World) : Prop :=
  e = .returned (.tuple #[]) ∧ ∃ a b wd, RdAt w' g s a b wd ∧ errS s.length a b wd = secE k s ∧ Else2 g q w w' ∧ ∃ p' v', PBox w' q p' v' ∧ (secE k s = 0 → p' = secP k s p ∧ R w' v')
set_option maxRecDepth 100000 in
set_option maxHeartbeats 2000000 in
theorem sec_one (g q : Nat) (hgq : g ≠ q) (s : List UInt8) (hs : s.length ≤ 1000000000000000) (p : Prg) (v : PV) (w : World) (HB : PBox w q p v) (h : RdAt w g s 0 0 false) :
    Calls Try.prog 76 #[.pointer (some ⟨g, 0, none⟩), .pointer (some ⟨q, 0, none⟩)] w (SecDone g q s 0 p w fun _ v' => v' = v) := by
  have Hc := Lib.hid (rd_ints g s hs 0 0 false (i64_small (by omega)) 4 (by omega) w h)
  have HE : Hid (secE 0 s = errS s.length (geta s 0 4).2.1 (if (geta s 0 4).2.2 = 0 ∧ (geta s 0 4).1.length ≠ 4 then 21 else (geta s 0 4).2.2) (wideL (geta s 0 4).1)) := Lib.hid rfl
  have HP : Hid (secP 0 s p = { p with grow := (cutL (geta s 0 4).1).getD 0 0, rest := (cutL (geta s 0 4).1).getD 1 0, extra := (cutL (geta s 0 4).1).getD 2 0, signs := (cutL (geta s 0 4).1).getD 3 0 }) := Lib.hid rfl
  have hb := @geta_err s 0 4
  rw [rdL_zero] at Hc
  rw [show ((4 : Nat) : Int) = 4 from rfl] at Hc
  generalize geta s 0 4 = r at Hc HE HP hb
  obtain ⟨l, r2, r3⟩ := r
  dsimp only at Hc HE HP hb
  have HBB := Lib.hid HB
  have hgl := h.lt
  have hql := HB.lt
  clear h HB
  unfold SecDone
  generalize secE 0 s = E at HE ⊢
  generalize secP 0 s p = P at HP ⊢
  by_cases h3 : r3 = 0
  rotate_left
  · have e := hb h3
    simp only [Prod.mk.injEq] at e
    obtain ⟨rfl, rfl, _⟩ := e
    have e1 : (r3 == 0) = false := beq_false_of_ne h3
    have H3 := Lib.hid h3
    rw [if_neg (fun h => h3 h.1)] at HE
    clear h3 hb
    go_enter Try.func76, Try.ntmps76
    repeat' (first | go_values | go_skip | go_guarded | go_step | go_upon)
    refine Calls.mono (Hc.out) ?_
    rintro _ w1 ⟨vl, rfl, ho1, hr1, he1⟩
    dsimp only
    obtain ⟨al, cl, rfl⟩ := ho1.form
    have c2 := hr1.c2
    have Hr1 := Lib.hid hr1
    have He1 := Lib.hid he1
    clear ho1 hr1 he1 Hc
    repeat' (first | go_values | go_skip | go_guarded | go_step | go_upon)
    go_end0
    exact ⟨rfl, _, _, _, Hr1.out, by rw [HE.out]; simp [wideL], Else2.of1 He1.out, p, v, HBB.out.els He1.out hgq, fun h0 => absurd h0 (by rw [HE.out]; unfold errS; rw [if_pos H3.out]; exact H3.out)⟩
  subst h3
  clear hb
  by_cases h4 : l.length = 4
  rotate_left
  · rw [if_pos ⟨rfl, h4⟩] at HE
    have e1 : ((l.length : Int) == 4) = false := beq_false_of_ne (by omega)
    have e2 : ((l.length : Int) != 4) = true := by rw [bne_iff_ne]; omega
    obtain ⟨n, hn⟩ : ∃ n, n = l.length := ⟨_, rfl⟩
    rw [← hn] at e1 e2
    clear h4
    go_enter Try.func76, Try.ntmps76
    repeat' (first | go_values | go_skip | go_guarded | go_step | go_upon)
    refine Calls.mono (Hc.out) ?_
    rintro _ w1 ⟨vl, rfl, ho1, hr1, he1⟩
    dsimp only
    obtain ⟨al, cl, rfl⟩ := ho1.form
    rw [cutL_len, ← hn]
    have c2 := hr1.c2
    have f2 := hr1.free 2
    have Hr1 := Lib.hid hr1
    have He1 := Lib.hid he1
    clear ho1 hr1 he1 Hc hn
    repeat' (first | go_values | go_skip | go_guarded | go_step | go_upon)
    go_end0
    exact ⟨rfl, _, _, _, Hr1.out.set2 21, by rw [HE.out, Bool.false_or], (Else2.of1 He1.out).setG _ _, p, v, (HBB.out.els He1.out hgq).setG hgq, fun h0 => absurd h0 (by rw [HE.out]; unfold errS; simp)⟩
  rw [if_neg (by simp [h4])] at HE
  obtain ⟨x0, x1, x2, x3, rfl⟩ : ∃ a b c d, l = [a, b, c, d] := by
    match l, h4 with
    | [a, b, c, d], _ => exact ⟨a, b, c, d, rfl⟩
  clear h4
  go_enter Try.func76, Try.ntmps76
  repeat' (first | go_values | go_skip | go_guarded | go_step | go_upon)
  refine Calls.mono (Hc.out) ?_
  rintro _ w1 ⟨vl, rfl, ho1, hr1, he1⟩
  dsimp only
  obtain ⟨al, cl, rfl, hcap, hcell⟩ := ho1.rd
  have hob : ∀ b off, al = some ⟨b, off, none⟩ → w.heap.size ≤ b := fun b off e => ho1.below (by rw [e]; rfl)
  rcases hcell with hcell | ⟨b, off, rfl, hbw, hcell⟩
  · simp [cutL] at hcell
  have hbw0 := hob b off rfl
  have hx0 := hcell 0 (by simp [cutL])
  have hx1 := hcell 1 (by simp [cutL])
  have hx2 := hcell 2 (by simp [cutL])
  have hx3 := hcell 3 (by simp [cutL])
  simp only [cutL, List.map_cons, List.map_nil, List.getD_cons_zero, List.getD_cons_succ, Nat.add_zero, List.length_cons, List.length_nil, Nat.zero_add, Nat.reduceAdd] at hx0 hx1 hx2 hx3 hcap HP ⊢
  generalize cutI x0 = y0 at *
  generalize cutI x1 = y1 at *
  generalize cutI x2 = y2 at *
  generalize cutI x3 = y3 at *
  have c2 := hr1.c2
  have Hr1 := Lib.hid hr1
  have He1 := Lib.hid he1
  have HQ1 := Lib.hid (HBB.out.els he1 hgq)
  have q0 : ∀ nq : GW (Else q w1), nq.1.cell? ⟨b, off, none⟩ = some (.int .i64 y0) := fun nq => by rw [World.cell?_of_block (w := w1) (nq.2.block b hbw (by omega))]; exact hx0
  have q1 : ∀ nq : GW (Else q w1), nq.1.cell? ⟨b, off + 1, none⟩ = some (.int .i64 y1) := fun nq => by rw [World.cell?_of_block (w := w1) (nq.2.block b hbw (by omega))]; exact hx1
  have q2 : ∀ nq : GW (Else q w1), nq.1.cell? ⟨b, off + 2, none⟩ = some (.int .i64 y2) := fun nq => by rw [World.cell?_of_block (w := w1) (nq.2.block b hbw (by omega))]; exact hx2
  have q3 : ∀ nq : GW (Else q w1), nq.1.cell? ⟨b, off + 3, none⟩ = some (.int .i64 y3) := fun nq => by rw [World.cell?_of_block (w := w1) (nq.2.block b hbw (by omega))]; exact hx3
  clear ho1 hr1 he1 Hc hob hcell hx0 hx1 hx2 hx3
  repeat' (go_not_at_region 4; first | go_values | go_skip | go_guarded | go_step | go_upon)
  refine wp_region_anyG (by kernel_rfl) (Else q w1) ?_
  refine tkC 0 rfl ?_
  refine tkC 1 rfl ?_
  refine tkC 2 rfl ?_
  refine tkC 3 rfl ?_
  refine tkC 4 rfl ?_
  refine tkC 5 rfl ?_
  refine tkC 6 rfl ?_
  refine tkC 7 rfl ?_
  refine tkC 8 rfl ?_
  refine tkC 9 rfl ?_
  refine tkC 10 rfl ?_
  refine tkC 11 rfl ?_
  refine tkC 12 rfl ?_
  refine tkC 13 rfl ?_
  refine tkC 14 rfl ?_
  refine tkC 15 rfl ?_
  clear q0 q1 q2 q3
  refine tkC 16 rfl ?_
  refine tkC 17 rfl ?_
  refine genG (fun W => PBox W q p v ∧ Else q w1 W) ⟨HQ1.out.keep ((Below.refl _ _).drew), Else.of_below ((Below.refl _ _).drew)⟩ ?_
  rintro W2 ⟨hq, he⟩
  have HQ2 := Lib.hid hq
  have HE2 := Lib.hid he
  clear hq he HQ1
  have cc := HQ2.out.cell 0
  have ff := HQ2.out.free 0
  refine wpAnyC_ready (CG.of (HE2.out)) (rs := [18]) (by kernel_rfl) (by simp) ?_
  refine (AllReadyC.cons rfl (fun K hK => ?_) AllReadyC.nil)
  go_simp
  refine hK _ _ ?_
  clear hK K
  refine genG (fun W => PBox W q { p with grow := y0 } v ∧ Else q w1 W) ⟨HQ2.out.set0 _, HE2.out.setCell _ _⟩ ?_
  rintro W3 ⟨hq, he⟩
  have HQ3 := Lib.hid hq
  have HE3 := Lib.hid he
  clear hq he cc ff HQ2 HE2
  refine tkC 19 rfl ?_
  refine tkC 20 rfl ?_
  have cc := HQ3.out.cell 1
  have ff := HQ3.out.free 1
  refine wpAnyC_ready (CG.of (HE3.out)) (rs := [21]) (by kernel_rfl) (by simp) ?_
  refine (AllReadyC.cons rfl (fun K hK => ?_) AllReadyC.nil)
  go_simp
  refine hK _ _ ?_
  clear hK K
  refine genG (fun W => PBox W q { p with grow := y0, rest := y1 } v ∧ Else q w1 W) ⟨HQ3.out.set1 _, HE3.out.setCell _ _⟩ ?_
  rintro W4 ⟨hq, he⟩
  have HQ4 := Lib.hid hq
  have HE4 := Lib.hid he
  clear hq he cc ff HQ3 HE3
  refine tkC 22 rfl ?_
  refine tkC 23 rfl ?_
  have cc := HQ4.out.cell 2
  have ff := HQ4.out.free 2
  refine wpAnyC_ready (CG.of (HE4.out)) (rs := [24]) (by kernel_rfl) (by simp) ?_
  refine (AllReadyC.cons rfl (fun K hK => ?_) AllReadyC.nil)
  go_simp
  refine hK _ _ ?_
  clear hK K
  refine genG (fun W => PBox W q { p with grow := y0, rest := y1, extra := y2 } v ∧ Else q w1 W) ⟨HQ4.out.set2 _, HE4.out.setCell _ _⟩ ?_
  rintro W5 ⟨hq, he⟩
  have HQ5 := Lib.hid hq
  have HE5 := Lib.hid he
  clear hq he cc ff HQ4 HE4
  refine tkC 25 rfl ?_
  refine tkC 26 rfl ?_
  have cc := HQ5.out.cell 3
  have ff := HQ5.out.free 3
  refine wpAnyC_ready (CG.of (HE5.out)) (rs := [27]) (by kernel_rfl) (by simp) ?_
  refine (AllReadyC.cons rfl (fun K hK => ?_) AllReadyC.nil)
  go_simp
  refine hK _ _ ?_
  clear hK K
  refine genG (fun W => PBox W q { p with grow := y0, rest := y1, extra := y2, signs := y3 } v ∧ Else q w1 W) ⟨HQ5.out.set3 _, HE5.out.setCell _ _⟩ ?_
  rintro W6 ⟨hq, he⟩
  have HQ6 := Lib.hid hq
  have HE6 := Lib.hid he
  clear hq he cc ff HQ5 HE5
  refine wpAnyC_done (by kernel_rfl) (CG.of (HE6.out)) (by go_simp <;> with_reducible rfl) ?_
  repeat' (first | go_values | go_skip | go_guarded | go_step | go_upon)
  go_end0
  exact ⟨rfl, _, _, _, HE6.out.row Hr1.out (by omega), by rw [HE.out, Bool.false_or], (Else2.of1 He1.out).trans ⟨HE6.out.os, HE6.out.tape, HE6.out.output, HE6.out.size, fun k hk _ h2 => HE6.out.block k hk h2⟩, _, v, HQ6.out, fun _ => ⟨HP.out.symm, rfl⟩⟩
end Go.Proofs.Ytbomloodllddaaa
/- Walks: the sections of code and of texts are read (load.sections). Conditions: the text is of at most 10^15 bytes; reader and program lie in variables of their own. -/
namespace Go.Proofs.Ytbomloodllddaaa
open Go.RowKit
set_option maxRecDepth 100000 in
set_option maxHeartbeats 1000000 in
theorem sec_two (g q : Nat) (hgq : g ≠ q) (s : List UInt8) (hs : s.length ≤ 1000000000000000) (p : Prg) (v : PV) (w : World) (HB : PBox w q p v) (h : RdAt w g s 0 0 false) :
    Calls Try.prog 78 #[.pointer (some ⟨g, 0, none⟩), .pointer (some ⟨q, 0, none⟩)] w (SecDone g q s 1 p w fun w' v' => v' = { v with vc := v'.vc } ∧ OwnR icL 5 w.heap.size 118 w' v'.vc (getI s).2) := by
  have Hc := Lib.hid (isa_GetO s hs w)
  have HE : Hid (secE 1 s = (getI s).1) := Lib.hid rfl
  have HP : Hid (secP 1 s p = { p with code := (getI s).2 }) := Lib.hid rfl
  have hsz := arr_size s
  have hlen : (⟨s.toArray⟩ : ByteArray).size = s.length := hsz
  generalize getI s = r at Hc HE HP ⊢
  obtain ⟨r1, r2⟩ := r
  dsimp only at Hc HE HP ⊢
  have HBB := Lib.hid HB
  have Hr := Lib.hid h
  have c0 := h.c0
  have hgl := h.lt
  have hql := HB.lt
  clear h HB
  unfold SecDone
  generalize secE 1 s = E at HE ⊢
  generalize secP 1 s p = P at HP ⊢
  go_enter Try.func78, Try.ntmps78
  repeat' (first | go_values | go_skip | go_guarded | go_step | go_upon)
  refine Calls.mono (Hc.out) ?_
  rintro _ w1 ⟨vl, rfl, ho1, hb1⟩
  dsimp only
  have Hr1 := Lib.hid (Hr.out.keep hb1)
  have HB1 := Lib.hid (HBB.out.keep hb1)
  obtain ⟨al, cl, hvl, _, _⟩ := ho1.form
  subst hvl
  have Ho1 := Lib.hid ho1
  have Hb1 := Lib.hid hb1
  have d0 := Hr1.out.c0
  have d1 := Hr1.out.c1
  have d2 := Hr1.out.c2
  have f1 := Hr1.out.free 1
  have f2 := Hr1.out.free 2
  have k4 : w1.cell? ⟨q, 4, none⟩ = some v.vc := HB1.out.cell 4
  have f4 := HB1.out.free 4
  clear ho1 hb1 Hc c0 Hr HBB
  repeat' (first | go_values | go_skip | go_guarded | go_step | go_upon)
  go_end0
  have hq2 := HB1.out.set4 (.slice al r2.length cl) r2
  have e2 := ((Else2.of1 (g := g) (q := q) (Else.of_below Hb1.out)).setQ 4 (.slice al r2.length cl)).setG 2 (.int .i64 r1)
  have hr2 := ((Hr1.out.setQ (o := 4) (u := .slice al r2.length cl) hgq).set2 r1).set1 s.length
  have ho2 : OwnR icL 5 w.heap.size 118 (((w1.setCell ⟨q, 4, none⟩ (.slice al r2.length cl)).setCell ⟨g, 2, none⟩ (.int .i64 r1)).setCell ⟨g, 1, none⟩ (.int .i64 s.length)) (.slice al r2.length cl) r2 :=
    ((Ho1.out.setOther (fun k hk => by have := (Ho1.out.below hk).1; omega)).setOther (fun k hk => by have := (Ho1.out.below hk).1; omega)).setOther (fun k hk => by have := (Ho1.out.below hk).1; omega)
  exact ⟨rfl, _, _, _, hr2, by rw [HE.out]; unfold errS; by_cases h0 : r1 = 0 <;> simp [h0], e2.setG 1 _, _, _, (hq2.setG hgq).setG hgq, fun _ => ⟨HP.out.symm, rfl, ho2⟩⟩
end Go.Proofs.Ytbomloodllddaaa
/- Walk: the section of texts is read (load.sections). Conditions: the text is of at most 10^15 bytes; reader and program lie in variables of their own. -/
namespace Go.Proofs.Ytbomloodllddaaa
open Go.RowKit
theorem genUw {P : Program} {md : Region.Mode} {ops : Array Oper} {C : World → Prop} {u : Nat} {Q : Exit → Act → World → Prop} {fuel : Nat} {listed : Array Bool} {a : Act} {w : World} (F : World → Prop) (hF : F w) (h : ∀ w', F w' → wpAnyU P md ops C u Q fuel listed a w') : wpAnyU P md ops C u Q fuel listed a w := h w hF
theorem info_str25 : (Try.prog.info? 9).map (fun i => (i.zero, i.size, i.bytes)) = some (some (.string ⟨#[]⟩), 1, 16) := by kernel_rfl
theorem strC_one25 (l : List UInt8) : ∀ u ∈ strC l, u.oneCell' = true := fun u hu => by
  simp [strC] at hu; subst hu; rfl
theorem row_new {α : Type} {f : α → List Value} {sz : Nat} (w : World) (x : α) (e : TypeId) (hf : (f x).length = sz) (cs : Array Value) (hcs : cs = (f x).toArray) : RowOf f sz (w.alloc (.cells cs e)) (.slice (some ⟨w.heap.size, 0, none⟩) 1 1) [x] := by
  subst hcs
  refine ⟨some ⟨w.heap.size, 0, none⟩, 1, rfl, Nat.le_refl _, by unfold maxLen; omega, by simp [hf], .inr ⟨w.heap.size, 0, rfl, by simp, fun i hi => ?_⟩⟩
  rw [Nat.zero_add, cell_of_row _ w.heap.size i _ e (0, 0) (Go.heap_alloc_new w _)]
  simp
theorem gett_cases (s : List UInt8) (hs : s.length ≤ 1000000000000000) (a : Int) : I64 (gett s a 4096).2.1 ∧ (gett s a 4096).1.length ≤ 4096 := by
  rcases vget_cases s a with ⟨e, hv, he⟩ | ⟨m, k, n, rfl, hk, hmk, hp, hn, hv⟩
  · rw [gett_bad hv (by omega)]; exact ⟨(show I64 0 from i64_small (by omega)), by simp⟩
  · by_cases h1 : max (4096 : Int) 0 < (n : Int)
    · rw [gett_long hv h1]; exact ⟨(show I64 0 from i64_small (by omega)), by simp⟩
    · by_cases h2 : (s.length : Int) - ((m : Int) + k + 1) < n
      · rw [gett_short hv h1 h2]; exact ⟨(show I64 0 from i64_small (by omega)), by simp⟩
      · have hv' : vget s m = (n, ((m + k + 1 : Nat) : Int), 0) := by rw [hv]; push_cast; rfl
        rw [gett_ok hv' h1 (by push_cast; omega)]
        refine ⟨?_, ?_⟩
        · show I64 (((m + k + 1 : Nat) : Int) + n)
          unfold I64; omega
        · show (List.take n _).length ≤ 4096
          rw [List.length_take]; omega
theorem rdC_le (s : List UInt8) (most : Nat) : (rdC s most).1 ≤ most := by
  unfold rdC
  split
  · exact Nat.zero_le _
  · split
    · exact Nat.zero_le _
    · omega
theorem rdC_i64 (s : List UInt8) (hs : s.length ≤ 1000000000000000) (most : Nat) : I64 (rdC s most).2.1 := by
  unfold rdC
  split
  · exact (show I64 0 from i64_small (by omega))
  · split
    · exact (show I64 0 from i64_small (by omega))
    · exact vgetI_i64 hs 0
/-- the loop of texts -/
structure XS (g q : Nat) (s : List UInt8) (p : Prg) (v : PV) (w : World) (R : List (List UInt8) × Int × Int) (m : Nat) (a bad : Int) (l : List (List UInt8)) (vx : Value) (w' : World) : Prop where
  rd : RdAt w' g s a bad false
  box : PBox w' q { p with texts := l } { v with vx := vx }
  own : OwnR strC 1 w.heap.size 9 w' vx l
  els : Else2 g q w w'
  at' : I64 a
  len : l.length + m ≤ 4097
  good : bad = 0 → aheadX l (textsF s m a) = R ∧ (∀ x ∈ l, x.length ≤ 4096) ∧ l.length + m ≤ 4096
  wrong : bad ≠ 0 → R = ([], 0, bad)
set_option maxRecDepth 100000 in
set_option maxHeartbeats 2000000 in
theorem sec_four (g q : Nat) (hgq : g ≠ q) (s : List UInt8) (hs : s.length ≤ 1000000000000000) (p : Prg) (v : PV) (w : World) (HB : PBox w q p v) (h : RdAt w g s 0 0 false) (hp : p.texts = []) (hv : v.vx = .slice none 0 0) :
    Calls Try.prog 83 #[.pointer (some ⟨g, 0, none⟩), .pointer (some ⟨q, 0, none⟩)] w (SecDone g q s 3 p w fun w' v' => v' = { v with vx := v'.vx } ∧ OwnR strC 1 w.heap.size 9 w' v'.vx (sec4F s).1 ∧ ∀ x ∈ (sec4F s).1, x.length ≤ 4096) := by
  have Hc := Lib.hid (rd_count g s hs 4096 (by omega) w h)
  have HE : Hid (secE 3 s = errS s.length (sec4F s).2.1 (sec4F s).2.2 false) := Lib.hid rfl
  have HP : Hid (secP 3 s p = { p with texts := (sec4F s).1 }) := Lib.hid rfl
  have HR : sec4F s = if (rdC s 4096).2.2 ≠ 0 then ([], 0, (rdC s 4096).2.2) else textsF s (rdC s 4096).1 (rdC s 4096).2.1 := rfl
  have hcl := rdC_le s 4096
  have hci := rdC_i64 s hs 4096
  rw [show ((4096 : Nat) : Int) = 4096 from rfl] at Hc
  generalize rdC s 4096 = c at Hc HR hcl hci
  obtain ⟨n, a0, b0⟩ := c
  dsimp only at Hc HR hcl hci
  generalize sec4F s = R at HE HP HR ⊢
  have hgl := h.lt
  have hql := HB.lt
  have hX0 : ∀ w1, RdAt w1 g s a0 b0 false → Else g w w1 → XS g q s p v w R n a0 b0 [] v.vx w1 := fun w1 hr he => by
    refine ⟨hr, ?_, by rw [hv]; exact OwnR.nil, Else2.of1 he, hci, by simp; omega, fun h0 => ⟨?_, by simp, by simp; omega⟩, fun h0 => by rw [HR, if_pos h0]⟩
    · have := HB.els he hgq
      rw [← hp]; exact this
    · rw [HR, if_neg (by simpa using h0), aheadX_nil]
  have HX0 := Lib.hid hX0
  have Hgt := Lib.hid (gett_cases s hs)
  clear HR hX0 hp hv hci h HB
  unfold SecDone
  generalize secE 3 s = E at HE ⊢
  generalize secP 3 s p = P at HP ⊢
  have hgw := hgl
  go_enter Try.func83, Try.ntmps83
  repeat' (first | go_values | go_skip | go_guarded | go_step | go_upon)
  refine Calls.mono (Hc.out) ?_
  rintro _ w1 ⟨rfl, hr1, he1⟩
  dsimp only
  have HX1 := Lib.hid (HX0.out w1 hr1 he1)
  clear hr1 he1 Hc HX0
  repeat' (first | go_values | go_skip | go_guarded | go_step | go_upon)
  go_loopw [4] (fun s4 wr => ∃ (m : Nat) (a bad : Int) (l : List (List UInt8)) (vx : Value), s4 = .int .i64 m ∧ Hid (XS g q s p v w R m a bad l vx wr)) (fun s4 _ => (intOf s4).toNat)
  case atStart => exact ⟨n, _, _, _, _, rfl, HX1⟩
  case round =>
    clear HX1
    obtain ⟨m, a, bad, l, vx, rfl, HX⟩ := hrel
    have c2 := HX.out.rd.c2
    have hml := HX.out.len
    by_cases h0 : bad = 0
    · subst h0
      rcases Nat.eq_zero_or_pos m with rfl | hm
      · have hR : Hid (R = (l, a, 0)) := Lib.hid (by rw [← ((HX.out.good rfl).1)]; exact aheadX_zero s l a)
        have hT := Lib.hid (HX.out.good rfl).2.1
        repeat' (first | go_values | go_skip | go_guarded | go_step | go_upon)
        go_end0
        refine ⟨rfl, a, 0, false, HX.out.rd, by rw [HE.out, hR.out], HX.out.els, _, _, HX.out.box, fun _ => ⟨by rw [HP.out, hR.out], rfl, by rw [hR.out]; exact HX.out.own, by rw [hR.out]; exact hT.out⟩⟩
      · obtain ⟨k, rfl⟩ : ∃ k, m = k + 1 := ⟨m - 1, by omega⟩
        have Hx := Lib.hid fun W (hW : RdAt W g s a 0 false) => rd_text g s hs a false HX.out.at' W hW
        obtain ⟨hgi, hgl4⟩ := Hgt.out a
        obtain ⟨r, hr⟩ : ∃ r, r = gett s a 4096 := ⟨_, rfl⟩
        rw [← hr] at Hx hgi hgl4
        have Hg1 : Hid (r.2.2 ≠ 0 → R = ([], 0, r.2.2)) := Lib.hid fun h => by rw [← (HX.out.good rfl).1, aheadX_bad l (by rw [← hr]; exact h), hr]
        have Hg2 : Hid (r.2.2 = 0 → aheadX (l ++ [r.1]) (textsF s k r.2.1) = R) := Lib.hid fun h => by rw [← (HX.out.good rfl).1, aheadX_step l (by rw [← hr]; exact h), hr]
        have hll := (HX.out.good rfl).2.2
        have Hll := Lib.hid (HX.out.good rfl).2.1
        clear hr
        obtain ⟨r1, r2, r3⟩ := r
        dsimp only at Hx hgi hgl4 Hg1 Hg2
        obtain ⟨xa, xc, hvx, _, _⟩ := HX.out.own.form
        subst hvx
        obtain ⟨vx, hvx⟩ : ∃ vx, vx = Value.slice xa l.length xc := ⟨_, rfl⟩
        rw [← hvx] at HX
        obtain ⟨C, hC⟩ : ∃ C : World → Prop, C = fun W => PBox W q { p with texts := l } { v with vx := vx } := ⟨_, rfl⟩
        have Hmk : Hid (∀ W, PBox W q { p with texts := l } { v with vx := vx } → C W) := Lib.hid (fun W h => by rw [hC]; exact h)
        have hC' : ∀ W, C W → PBox W q { p with texts := l } { v with vx := vx } := fun W h => by rw [hC] at h; exact h
        have q0 : ∀ nq : GW C, nq.1.cell? ⟨q, 6, none⟩ = some (.slice xa l.length xc) := fun nq => by
          rw [← hvx]; exact (hC' _ nq.2).cell 6
        clear hC hC'
        have hwr : w.heap.size ≤ wr.heap.size := HX.out.els.size
        repeat' (go_not_at_region 3; first | go_values | go_skip | go_guarded | go_step | go_upon)
        refine wp_region_anyU (by kernel_rfl) C 11 ?_
        refine tkU 0 rfl ?_
        refine tkU 1 rfl ?_
        refine tkU 2 rfl ?_
        refine tkU 3 rfl ?_
        refine tkU 4 rfl ?_
        refine tkU 5 rfl ?_
        clear q0
        refine genUw (fun W => Below wr.heap.size wr W) ((Below.refl _ _).drew) ?_
        intro W0 hb0
        have HB0 := Lib.hid (HX.out.box.keep hb0)
        have HR0 := Lib.hid (HX.out.rd.keep hb0)
        have HO0 : Hid (OwnR strC 1 w.heap.size 9 W0 vx l) := Lib.hid (HX.out.own.keep hb0 (Nat.le_refl _))
        have HE0 : Hid (Else2 g q w W0) := Lib.hid (HX.out.els.trans (Else2.of1 (Else.of_below hb0)))
        clear hb0
        refine wpAnyU_ready (CG.of (Hmk.out _ HB0.out)) (rs := [6]) (by kernel_rfl) (by simp) ?_
        refine (AllReadyU.cons rfl (fun K hK => ?_) AllReadyU.nil)
        go_simp
        refine Calls.mono ((Hx.out W0 HR0.out)) ?_
        rintro _ W1 ⟨rfl, hr1, he1⟩
        dsimp only
        refine hK _ _ ?_
        clear hK K
        have HB1 := Lib.hid (HB0.out.els he1 hgq)
        have HR1 := Lib.hid hr1
        have HO1 : Hid (OwnR strC 1 w.heap.size 9 W1 vx l) := Lib.hid (HO0.out.els he1 HR0.out (by decide))
        have HE1 : Hid (Else2 g q w W1) := Lib.hid (HE0.out.trans (Else2.of1 he1))
        clear hr1 he1 HB0 HR0 HO0 HE0
        refine wpAnyU_ready (CG.of (Hmk.out _ HB1.out)) (rs := [7]) (by kernel_rfl) (by simp) ?_
        refine (AllReadyU.cons rfl (fun K hK => ?_) AllReadyU.nil)
        go_simp
        refine hK _ _ ?_
        clear hK K
        have hab : Below W1.heap.size W1 (W1.alloc (.cells #[.string ⟨r1.toArray⟩] 9)) := (Below.refl _ _).alloc (Nat.le_refl _) _
        refine genUw (fun W => PBox W q { p with texts := l } { v with vx := vx } ∧ RdAt W g s r2 r3 false ∧ OwnR strC 1 w.heap.size 9 W vx l ∧ Else2 g q w W ∧ RowOf strC 1 W (.slice (some ⟨W1.heap.size, 0, none⟩) 1 1) [r1]) ⟨HB1.out.keep hab, HR1.out.keep hab, HO1.out.keep hab (Nat.le_refl _), HE1.out.trans (Else2.of1 (Else.of_below hab)), row_new W1 r1 _ rfl _ rfl⟩ ?_
        rintro W2 ⟨hb2, hr2, ho2, he2, hrow⟩
        clear hab HB1 HR1 HO1 HE1
        refine wpAnyU_ready (CG.of (Hmk.out _ hb2)) (rs := [8]) (by kernel_rfl) (by simp) ?_
        refine (AllReadyU.cons rfl (fun K hK => ?_) AllReadyU.nil)
        rw [hvx] at ho2
        refine step_of rfl (app_rowW (f := strC) (sz := 1) 16 strC_len25 (fun y _ => strC_one25 y) Try.underlying24 info_str25 rfl (.tmp 22) (.tmp 25) rfl rfl hrow ho2 he2.size (by simp; omega) (by unfold maxLen; simp; omega) ?_)
        intro v1 W3 ho3 hg3
        refine hK _ _ ?_
        clear hK K
        have hnq : ∀ k, (Value.slice xa l.length xc).ownBlock = some k → w.heap.size ≤ k ∧ k ≠ q ∧ k ≠ g := fun k hk => by
          have h1 := ho2.below hk
          exact ⟨h1.1, by omega, by omega⟩
        have hB3 : PBox W3 q { p with texts := l } { v with vx := vx } := grown_obj hg3 hb2 fun e => (hnq q e).2.1 rfl
        have hR3 : RdAt W3 g s r2 r3 false := grown_obj hg3 hr2 fun e => (hnq g e).2.2 rfl
        have hE3 : Else2 g q w W3 := he2.belowB (grown_below hg3 he2.size fun k hk => (hnq k hk).1)
        clear hb2 hr2 ho2 he2 hrow hg3 hnq
        obtain ⟨a1, c1, e1, _, _⟩ := ho3.form
        rw [show (l ++ [r1]).length = l.length + 1 from by simp] at e1
        subst e1
        have o1 : W3.cell? ⟨q, 6, none⟩ = some vx := hB3.cell 6
        have f1 := hB3.free 6
        refine wpAnyU_ready (CG.of (Hmk.out _ hB3)) (rs := [9]) (by kernel_rfl) (by simp) ?_
        refine (AllReadyU.cons rfl (fun K hK => ?_) AllReadyU.nil)
        go_simp
        refine hK _ _ ?_
        clear hK K
        refine tkU 10 rfl ?_
        refine wpAnyU_ready (CG.of (Hmk.out _ hB3)) (rs := [11]) (by kernel_rfl) (by simp) ?_
        refine (AllReadyU.cons rfl (fun K hK => ?_) AllReadyU.nil)
        go_simp
        refine hK _ _ ?_
        clear hK K
        refine genUw (fun W => XS g q s p v w R k r2 r3 (l ++ [r1]) (.slice a1 (l.length + 1) c1) W) ⟨hR3.setQ hgq, hB3.set6 (.slice a1 (l.length + 1) c1) (l ++ [r1]), ho3.setOther (fun k hk => by have := (ho3.below hk).1; omega), hE3.setQ _ _, hgi, by simp; omega, fun h => ⟨Hg2.out h, fun x hx => ?_, by simp; omega⟩, Hg1.out⟩ ?_
        · rcases List.mem_append.1 hx with hx | hx
          · exact Hll.out x hx
          · simp at hx; rw [hx]; exact hgl4
        clear o1 f1 hB3 hR3 hE3 ho3
        intro W4 hx4
        have HX4 := Lib.hid hx4
        clear hx4
        refine wpAnyU_done (by kernel_rfl) (by kernel_rfl) (by go_simp <;> with_reducible rfl) ?_
        repeat' (first | go_values | go_skip | go_guarded | go_step | go_upon)
        go_roundw
        case rel => exact ⟨k, _, _, _, _, by go_num, HX4⟩
        case measure => simp [intOf]
    · have e1 : (bad == 0) = false := beq_false_of_ne h0
      have H0 := Lib.hid h0
      clear h0
      rcases Nat.eq_zero_or_pos m with rfl | hm
      all_goals
       repeat' (first | go_values | go_skip | go_guarded | go_step | go_upon)
       go_end0
       have h0 := H0.out
       have hR : Hid (R = ([], 0, bad)) := Lib.hid (HX.out.wrong h0)
       refine ⟨rfl, a, bad, false, HX.out.rd, by rw [HE.out, hR.out]; unfold errS; rw [if_pos h0, if_pos h0], HX.out.els, _, _, HX.out.box, fun h => absurd h (by rw [HE.out, hR.out]; unfold errS; rw [if_pos h0]; exact h0)⟩
end Go.Proofs.Ytbomloodllddaaa
