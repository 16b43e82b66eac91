/- Walk: instructions as lines, by the reference (P21.3). Conditions: a row of instructions; strconv's table is as it is laid. -/
import Derived.Test.YtpelngkhipcneaaDoorIsaRefLine
import Derived.Test.YtpelngkhipcneaaDoorIsaRefAll
namespace Go.Proofs.YtpelngkhipcneaaDoor
open Go.RowKit
structure BT (w0 : World) (w : World) : Prop where
  bel : Below w0.heap.size w0 w
  tab : Tab10 w
theorem BT.step {w0 w w' : World} (h : BT w0 w) (hb : Below w.heap.size w w') : BT w0 w' := ⟨h.bel.trans (hb.mono h.bel.size), tab10_below h.tab hb⟩
theorem bt_calls {P : Program} {f : FuncId} {args : Array Value} {r : Value} {w0 w : World} (h : BT w0 w) (hc : Calls P f args w fun e w' => e = .returned r ∧ Below w.heap.size w w') :
    Calls P f args w fun e w' => e = .returned r ∧ BT w0 w' := hc.mono fun _ _ ⟨he, hb⟩ => ⟨he, h.step hb⟩
theorem str_nl (a b : List UInt8) : Value.string (((⟨a.toArray⟩ : ByteArray) ++ ⟨b.toArray⟩) ++ ⟨#[10]⟩) = .string ⟨(a ++ (b ++ [10])).toArray⟩ := by
  rw [ba_add a b, nl_add, List.append_assoc]
set_option maxRecDepth 100000 in
set_option maxHeartbeats 4000000 in
theorem rg_Text (v : Value) (l : List (Nat → Int)) (w : World) (h : RowOf icL 5 w v l) (hT : Tab10 w) :
    Calls Tryd.prog 10 #[v] w fun e w' => e = .returned (.tuple #[.string ⟨(textI l).1.toArray⟩, .int .i64 (textI l).2]) ∧ Below w.heap.size w w' := by
  have HA := Lib.hid (rg_All v l w h)
  have Hrow := Lib.hid h
  have HT := Lib.hid hT
  clear h hT
  obtain ⟨e1, he1⟩ : ∃ e, e = allI l := ⟨_, rfl⟩
  rw [← he1] at HA
  by_cases hz : e1 = 0
  · subst hz
    have hP : textI l = (textTo l l.length, 0) := by unfold textI; rw [if_pos he1.symm]
    obtain ⟨hn4, hall⟩ := allI_zero he1.symm
    rw [hP]
    clear hP he1
    obtain ⟨a, cap, hv, hcap, hmx, hcell⟩ := Hrow.out.open icL_len
    have Hall := Lib.hid hall
    obtain ⟨n, hn⟩ : ∃ n, l.length = n := ⟨_, rfl⟩
    rw [hn] at hcap hcell hv hn4 ⊢
    have Hn := Lib.hid hn
    unfold maxLen at hmx
    subst hv
    have Hlen : Hid (∀ k, (textTo l k).length ≤ 303104) := Lib.hid fun k => textTo_len hall (by omega) k
    have hT0 := Lib.hid (textTo_zero l)
    clear hn hn4 hall Hrow
    go_enter Tryd.func10, Tryd.ntmps10
    repeat' (first | go_values | go_skip | go_guarded | go_step | go_upon)
    refine Calls.mono (HA.out) ?_
    rintro _ w1 ⟨rfl, hb1⟩
    dsimp only
    have HP2 : Hid (BT w w1) := Lib.hid ⟨hb1, tab10_below HT.out hb1⟩
    clear hb1 HA HT
    repeat' (first | go_values | go_skip | go_guarded | go_step | go_upon)
    go_loopw [5, 15] (fun s5 s15 wr => ∃ k : Nat, s15 = .int .i64 k ∧ k ≤ n ∧ s5 = .string ⟨(textTo l k).toArray⟩ ∧ Hid (BT w wr)) (fun _ s15 _ => n - (intOf s15).toNat)
    case atStart => exact ⟨0, rfl, Nat.zero_le _, by rw [hT0.out], HP2⟩
    case round =>
      clear HP2
      obtain ⟨k, rfl, hk, rfl, H⟩ := hrel
      by_cases hlt : k < n
      · rcases hcell with h0 | ⟨b, off, rfl, hbB, hcell⟩
        · omega
        obtain ⟨c0, c1, c2, c3, c4⟩ := Row5p.cells hcell k (by rw [Hn.out]; exact hlt)
        have hok := all_at Hall.out (k := k) (by rw [Hn.out]; exact hlt)
        have Hsc := Lib.hid (textTo_succ l k (by rw [Hn.out]; exact hlt))
        clear hcell
        rw [← H.out.bel.cell (show b < w.heap.size from hbB)] at c0 c1 c2 c3 c4
        generalize l.getD k (fun _ => 0) = x at c0 c1 c2 c3 c4 hok Hsc
        have hbx : Below wr.heap.size wr (wr.alloc (.cells (ic x) 49)) := (Below.refl _ _).alloc (Nat.le_refl _) _
        have HX := Lib.hid (H.out.step hbx)
        have HLn := Lib.hid fun w hT => ref_Line x hok w hT
        have hll := lineL_len hok
        have hq := arrP_size (lineL x)
        generalize lineL x = ln at HLn hll hq Hsc
        have hln2 := Hlen.out k
        have hq2 := arrP_size (textTo l k)
        generalize textTo l k = tk at Hsc hln2 hq2 ⊢
        clear hbx hok H
        repeat' (first | go_values | go_skip | go_guarded | go_step | go_upon)
        refine Calls.mono (bt_calls HX.out (HLn.out _ HX.out.tab)) ?_
        rintro _ w3 ⟨rfl, hP3⟩
        dsimp only
        have HP3 := Lib.hid hP3
        clear hP3 HX c0 c1 c2 c3 c4
        repeat' (first | go_values | go_skip | go_guarded | go_step | go_upon)
        go_roundw
        case rel => exact ⟨k + 1, by go_num, hlt, by rw [Hsc.out]; exact str_nl _ _, HP3⟩
        case measure => simp [intOf]; omega
      · obtain rfl : k = n := by omega
        repeat' (first | go_values | go_skip | go_guarded | go_step | go_upon)
        go_ret2
        exact ⟨rfl, H.out.bel⟩
  · have hP : textI l = ([], e1) := by unfold textI; rw [if_neg (by rw [← he1]; exact hz), he1]
    rw [hP]
    have hne : (e1 != 0) = true := by simpa using hz
    clear hP he1 hz
    go_enter Tryd.func10, Tryd.ntmps10
    repeat' (first | go_values | go_skip | go_guarded | go_step | go_upon)
    refine Calls.mono (HA.out) ?_
    rintro _ w1 ⟨rfl, hb1⟩
    dsimp only
    repeat' (first | go_values | go_skip | go_guarded | go_step | go_upon)
    go_ret2
    exact ⟨rfl, hb1⟩
end Go.Proofs.YtpelngkhipcneaaDoor
