/- Walk: instructions are written as lines (isa.Text). Conditions: a row of instructions; strconv's table is as it is laid. -/
import Derived.Test.YtpelngkhipcneaaDoorIsaLine
namespace Go.Proofs.YtpelngkhipcneaaDoor
open Go.RowKit
theorem tab10_belowB {B : Nat} {w w' : World} (hG : 3 < B) (h : Tab10 w) (hb : Below B w w') : Tab10 w' := by
  have hg : Tryd.prog.globalNamed "internal/strconv.uint64pow10" = some 3 := by kernel_rfl
  unfold Tab10 Lib.TabIs World.var? at h ⊢
  rw [hg] at h ⊢
  simp only [Option.bind_some] at h ⊢
  rw [hb.block _ hG]; exact h
theorem tab10_lt {w : World} (h : Tab10 w) : 3 < w.heap.size := by
  have hg : Tryd.prog.globalNamed "internal/strconv.uint64pow10" = some 3 := by kernel_rfl
  unfold Tab10 Lib.TabIs World.var? at h
  rw [hg] at h
  simp only [Option.bind_some] at h
  rcases Nat.lt_or_ge 3 w.heap.size with h' | h'
  · exact h'
  · rw [Array.getElem?_eq_none h'] at h; simp at h
/-- a Builder with its text, and the table -/
structure PT (gb : Nat) (w0 : World) (t : List UInt8) (w : World) : Prop where
  ps : PS w0.heap.size gb w0 t w
  tab : Tab10 w
  low : 3 < gb
theorem PT.step {gb : Nat} {w0 w w' : World} {t : List UInt8} (h : PT gb w0 t w) (hb : Below w.heap.size w w') : PT gb w0 t w' := ⟨h.ps.step hb, tab10_below h.tab hb, h.low⟩
theorem pt_calls {P : Program} {f : FuncId} {args : Array Value} {r : Value} {gb : Nat} {w0 w : World} {t : List UInt8} (h : PT gb w0 t w) (hc : Calls P f args w fun e w' => e = .returned r ∧ Below w.heap.size w w') :
    Calls P f args w fun e w' => e = .returned r ∧ PT gb w0 t w' := hc.mono fun _ _ ⟨he, hb⟩ => ⟨he, h.step hb⟩
theorem pt_write {gb : Nat} {w0 w : World} {t : List UInt8} (h : PT gb w0 t w) (s : ByteArray) (hlen : t.length + s.size ≤ 140737488355328) :
    Calls Tryd.prog 17 #[.pointer (some ⟨gb, 0, none⟩), .string s] w fun e w' => e = .returned (.tuple #[.int .i64 s.size, .nilIface]) ∧ PT gb w0 (t ++ s.data.toList) w' :=
  (bld_WriteString gb gb t s w h.ps.bld hlen (Nat.le_of_lt h.ps.bld.lt)).mono fun _ _ ⟨he, hb, hbl, _⟩ => ⟨he, ⟨h.ps.bel.trans (hbl.mono h.ps.hB), hb, h.ps.hB⟩, tab10_belowB h.low h.tab hbl, h.low⟩
/-- what Text tells -/
def textI (l : List (Nat → Int)) : List UInt8 × Int := if allI l = 0 then (textTo l l.length, 0) else ([], allI l)
theorem nl_add (a : List UInt8) : (⟨a.toArray⟩ : ByteArray) ++ ⟨#[10]⟩ = ⟨(a ++ [10]).toArray⟩ := by
  rw [show (⟨#[10]⟩ : ByteArray) = ⟨[(10 : UInt8)].toArray⟩ from rfl, ba_add]
set_option maxRecDepth 100000 in
set_option maxHeartbeats 4000000 in
theorem isa_Text (v : Value) (l : List (Nat → Int)) (w : World) (h : RowOf icL 5 w v l) (hT : Tab10 w) :
    Calls Tryd.prog 9 #[v] w fun e w' => e = .returned (.tuple #[.string ⟨(textI l).1.toArray⟩, .int .i64 (textI l).2]) ∧ Below w.heap.size w w' := by
  have HA := Lib.hid (isa_right v l w h)
  have Hrow := Lib.hid h
  have HT := Lib.hid hT
  clear h hT
  obtain ⟨e1, he1⟩ : ∃ e, e = allI l := ⟨_, rfl⟩
  rw [← he1] at HA
  by_cases hz : e1 = 0
  · subst hz
    have hP : textI l = (textTo l l.length, 0) := by unfold textI; rw [if_pos he1.symm]
    obtain ⟨hn4, hall⟩ := allI_zero he1.symm
    rw [hP]
    clear hP he1
    obtain ⟨a, cap, hv, hcap, hmx, hcell⟩ := Hrow.out.open icL_len
    have Hall := Lib.hid hall
    obtain ⟨n, hn⟩ : ∃ n, l.length = n := ⟨_, rfl⟩
    rw [hn] at hcap hcell hv hn4 ⊢
    have Hn := Lib.hid hn
    unfold maxLen at hmx
    subst hv
    have Hlen : Hid (∀ k, (textTo l k).length ≤ 303104) := Lib.hid fun k => textTo_len hall (by omega) k
    have hT0 := Lib.hid (textTo_zero l)
    clear hn hn4 hall Hrow
    go_enter Tryd.func9, Tryd.ntmps9
    repeat' (first | go_values | go_skip | go_guarded | go_step | go_upon)
    refine Calls.mono (HA.out) ?_
    rintro _ w1 ⟨rfl, hb1⟩
    dsimp only
    have Hb1 := Lib.hid hb1
    have Hfr := Lib.hid (Bld.fresh w1)
    have hs1 := hb1.size
    clear hb1 HA
    repeat' (first | go_values | go_skip | go_guarded | go_step | go_upon)
    obtain ⟨gb, hgb⟩ : ∃ g, g = w1.heap.size := ⟨_, rfl⟩
    obtain ⟨w2, hw2⟩ : ∃ w2, w2 = w1.alloc (.cells #[.pointer none, .slice none 0 0] 37) := ⟨_, rfl⟩
    have HP2 : Hid (PT gb w (textTo l 0) w2) := Lib.hid ⟨⟨by rw [hw2]; exact Hb1.out.alloc hs1 _, by rw [hw2, hgb, hT0.out]; exact Hfr.out, by omega⟩, by rw [hw2]; exact tab10_below (tab10_below HT.out Hb1.out) ((Below.refl _ _).alloc (Nat.le_refl _) _), by have := tab10_lt HT.out; omega⟩
    rw [← hgb, ← hw2]
    clear Hfr Hb1 hgb hs1 hw2 w1 HT hT0
    go_loopw [15] (fun s15 wr => ∃ k : Nat, s15 = .int .i64 k ∧ k ≤ n ∧ Hid (PT gb w (textTo l k) wr)) (fun s15 _ => n - (intOf s15).toNat)
    case atStart => exact ⟨0, rfl, Nat.zero_le _, HP2⟩
    case round =>
      clear HP2
      obtain ⟨k, rfl, hk, H⟩ := hrel
      by_cases hlt : k < n
      · rcases hcell with h0 | ⟨b, off, rfl, hbB, hcell⟩
        · omega
        obtain ⟨c0, c1, c2, c3, c4⟩ := Row5p.cells hcell k (by rw [Hn.out]; exact hlt)
        have hok := all_at Hall.out (k := k) (by rw [Hn.out]; exact hlt)
        have Hsc := Lib.hid (textTo_succ l k (by rw [Hn.out]; exact hlt))
        clear hcell
        rw [← H.out.ps.bel.cell (show b < w.heap.size from hbB)] at c0 c1 c2 c3 c4
        generalize l.getD k (fun _ => 0) = x at c0 c1 c2 c3 c4 hok Hsc
        have hbx : Below wr.heap.size wr (wr.alloc (.cells (ic x) 49)) := (Below.refl _ _).alloc (Nat.le_refl _) _
        have HX := Lib.hid (H.out.step hbx)
        have HLn := Lib.hid fun w hT => isa_line x hok w hT
        have hll := lineL_len hok
        have hq := arrP_size (lineL x)
        generalize lineL x = ln at HLn hll hq Hsc
        have hnl := nl_add ln
        have hln2 := Hlen.out k
        clear hbx hok H
        repeat' (first | go_values | go_skip | go_guarded | go_step | go_upon)
        refine Calls.mono (pt_calls HX.out (HLn.out _ HX.out.tab)) ?_
        rintro _ w3 ⟨rfl, hP3⟩
        dsimp only
        have HP3 := Lib.hid hP3
        clear hP3 HX c0 c1 c2 c3 c4
        repeat' (first | go_values | go_skip | go_guarded | go_step | go_upon)
        refine Calls.mono (pt_write HP3.out _ (by rw [arrP_size, List.length_append]; simp; omega)) ?_
        rintro _ w4 ⟨rfl, hP4⟩
        dsimp only
        rw [arrP_list, ← Hsc.out] at hP4
        have HP4 := Lib.hid hP4
        clear hP4 HP3
        repeat' (first | go_values | go_skip | go_guarded | go_step | go_upon)
        go_roundw
        case rel => exact ⟨k + 1, by go_num, hlt, HP4⟩
        case measure => simp [intOf]; omega
      · obtain rfl : k = n := by omega
        have HS := Lib.hid (bld_String gb gb (textTo l k) wr H.out.ps.bld (Nat.le_of_lt H.out.ps.bld.lt))
        repeat' (first | go_values | go_skip | go_guarded | go_step | go_upon)
        refine Calls.mono (HS.out) ?_
        rintro _ w5 ⟨rfl, hb5⟩
        dsimp only
        repeat' (first | go_values | go_skip | go_guarded | go_step | go_upon)
        go_ret2
        exact ⟨rfl, H.out.ps.bel.trans (hb5.mono H.out.ps.hB)⟩
  · have hP : textI l = ([], e1) := by unfold textI; rw [if_neg (by rw [← he1]; exact hz), he1]
    rw [hP]
    have hne : (e1 != 0) = true := by simpa using hz
    clear hP he1 hz
    go_enter Tryd.func9, Tryd.ntmps9
    repeat' (first | go_values | go_skip | go_guarded | go_step | go_upon)
    refine Calls.mono (HA.out) ?_
    rintro _ w1 ⟨rfl, hb1⟩
    dsimp only
    repeat' (first | go_values | go_skip | go_guarded | go_step | go_upon)
    go_ret2
    exact ⟨rfl, hb1⟩
end Go.Proofs.YtpelngkhipcneaaDoor
