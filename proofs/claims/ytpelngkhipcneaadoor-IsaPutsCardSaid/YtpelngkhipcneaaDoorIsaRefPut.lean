/- Walk: instructions as bytes, by the reference (P21.1). Conditions: a row of instructions. -/
import Derived.Test.YtpelngkhipcneaaDoorIsaRefText
import Derived.Test.YtpelngkhipcneaaDoorWireRefPut
namespace Go.Proofs.YtpelngkhipcneaaDoor
open Go.RowKit
/-- an instruction in a later variable -/
structure IG (gi : Nat) (w0 : World) (x : Nat → Int) (w : World) : Prop where
  bel : Below w0.heap.size w0 w
  ins : InsAt w gi x
theorem IG.step {gi : Nat} {w0 w w' : World} {x : Nat → Int} (h : IG gi w0 x w) (hb : Below w.heap.size w w') : IG gi w0 x w' := ⟨h.bel.trans (hb.mono h.bel.size), h.ins.keep hb⟩
theorem ig_calls {P : Program} {f : FuncId} {args : Array Value} {r : Value} {gi : Nat} {w0 w : World} {x : Nat → Int} (h : IG gi w0 x w) (hc : Calls P f args w fun e w' => e = .returned r ∧ Below w.heap.size w w') :
    Calls P f args w fun e w' => e = .returned r ∧ IG gi w0 x w' := hc.mono fun _ _ ⟨he, hb⟩ => ⟨he, h.step hb⟩
def pf (x : Nat → Int) (y : Nat) : List UInt8 := vput (x (pos y)).toNat
set_option maxRecDepth 100000 in
set_option maxHeartbeats 4000000 in
theorem rg_Put (v : Value) (l : List (Nat → Int)) (w : World) (h : RowOf icL 5 w v l) :
    Calls Tryd.prog 8 #[v] w fun e w' => e = .returned (.tuple #[.string ⟨(putI l).1.toArray⟩, .int .i64 (putI l).2]) ∧ Below w.heap.size w w' := by
  have HA := Lib.hid (rg_All v l w h)
  have Hrow := Lib.hid h
  clear h
  obtain ⟨e1, he1⟩ : ∃ e, e = allI l := ⟨_, rfl⟩
  rw [← he1] at HA
  by_cases hz : e1 = 0
  · subst hz
    have hP : putI l = (putTo l l.length, 0) := by unfold putI; rw [if_pos he1.symm]
    obtain ⟨hn4, hall⟩ := allI_zero he1.symm
    rw [hP]
    clear hP he1
    obtain ⟨a, cap, hv, hcap, hmx, hcell⟩ := Hrow.out.open icL_len
    have Hall := Lib.hid hall
    obtain ⟨n, hn⟩ : ∃ n, l.length = n := ⟨_, rfl⟩
    rw [hn] at hcap hcell hv hn4 ⊢
    have Hn := Lib.hid hn
    unfold maxLen at hmx
    subst hv
    have Hlen : Hid (∀ k, (putTo l k).length ≤ 163850) := Lib.hid fun k => putTo_len hall (by omega) k
    have hku := u64_small (n := n) (by omega)
    have hkw : IntKind.u64.wrap (n : Int) = n := wu64 (by omega) hku
    have hT0 : Hid (vput n = putTo l 0) := Lib.hid (by rw [putTo_zero, hn])
    clear hn hn4 hall Hrow
    go_enter Tryd.func8, Tryd.ntmps8
    repeat' (first | go_values | go_skip | go_guarded | go_step | go_upon)
    refine Calls.mono (HA.out) ?_
    rintro _ w1 ⟨rfl, hb1⟩
    dsimp only
    have Hb1 := Lib.hid hb1
    clear hb1 HA
    repeat' (first | go_values | go_skip | go_guarded | go_step | go_upon)
    refine Calls.mono (ref_Put n _ hku) ?_
    rintro _ w2 ⟨rfl, hb2⟩
    dsimp only
    have HP2 : Hid (Below w.heap.size w w2) := Lib.hid (Hb1.out.trans (hb2.mono Hb1.out.size))
    rw [hT0.out]
    clear hb2 Hb1 hT0 hkw hku w1
    repeat' (first | go_values | go_skip | go_guarded | go_step | go_upon)
    go_loopw [5, 20] (fun s5 s20 wr => ∃ k : Nat, s20 = .int .i64 k ∧ k ≤ n ∧ s5 = .string ⟨(putTo l k).toArray⟩ ∧ Hid (Below w.heap.size w wr)) (fun _ s20 _ => n - (intOf s20).toNat)
    case atStart => exact ⟨0, rfl, Nat.zero_le _, rfl, HP2⟩
    case round =>
      clear HP2
      obtain ⟨k, rfl, hk, rfl, H⟩ := hrel
      by_cases hlt : k < n
      · rcases hcell with h0 | ⟨b, off, rfl, hbB, hcell⟩
        · omega
        obtain ⟨c0, c1, c2, c3, c4⟩ := Row5p.cells hcell k (by rw [Hn.out]; exact hlt)
        have hok := all_at Hall.out (k := k) (by rw [Hn.out]; exact hlt)
        have Hsc := Lib.hid (putTo_succ l k (by rw [Hn.out]; exact hlt))
        clear hcell
        rw [← H.out.cell (show b < w.heap.size from hbB)] at c0 c1 c2 c3 c4
        generalize l.getD k (fun _ => 0) = x at c0 c1 c2 c3 c4 hok Hsc
        obtain ⟨o, ho⟩ : ∃ o : Nat, x 0 = (o : Int) := ⟨(x 0).toNat, by have := okI_op hok; omega⟩
        have ho1 : 1 ≤ o ∧ o ≤ 17 := by have := okI_op hok; omega
        have Hin : Hid (∀ y ∈ letr o, 0 ≤ x (pos y) ∧ x (pos y) ≤ (mst y : Int)) := Lib.hid fun y hy => okI_in hok (by rw [ho]; exact hy)
        have Hxb : Hid (insB x = vput o ++ (letr o).flatMap (pf x)) := Lib.hid (by unfold insB; rw [ho]; rfl)
        have e0 : ic x = #[.int .i64 (o : Int), .int .i64 (x 1), .int .i64 (x 2), .int .i64 (x 3), .int .i64 (x 4)] := by unfold ic; rw [ho]
        have Ho := Lib.hid ho
        rw [ho] at c0
        clear ho hok
        have hou := u64_small (n := o) (by omega)
        have hvo := vput_len10 hou
        have hq1 := arrP_size (vput o)
        have hlk := Hlen.out k
        have hq2 := arrP_size (putTo l k)
        have HFd := Lib.hid (ref_Fields o ho1.1 ho1.2)
        have Hlet := Lib.hid (letr_is o)
        have hl3 := letr_len o
        have hbx : Below wr.heap.size wr (wr.alloc (.cells #[.int .i64 (o : Int), .int .i64 (x 1), .int .i64 (x 2), .int .i64 (x 3), .int .i64 (x 4)] 49)) := (Below.refl _ _).alloc (Nat.le_refl _) _
        obtain ⟨gi, hgi⟩ : ∃ g, g = wr.heap.size := ⟨_, rfl⟩
        have HI0 : Hid (IG gi w x (wr.alloc (.cells #[.int .i64 (o : Int), .int .i64 (x 1), .int .i64 (x 2), .int .i64 (x 3), .int .i64 (x 4)] 49))) := Lib.hid ⟨H.out.trans (hbx.mono H.out.size), by rw [hgi, ← e0]; exact InsAt.new wr x⟩
        obtain ⟨T0, hT0⟩ : ∃ T0, T0 = putTo l k ++ vput o := ⟨_, rfl⟩
        have HT1 : Hid (putTo l (k + 1) = T0 ++ (letr o).flatMap (pf x)) := Lib.hid (by rw [Hsc.out, Hxb.out, hT0, List.append_assoc])
        have HTl : Hid (T0.length ≤ 163860) := Lib.hid (by rw [hT0, List.length_append]; omega)
        have HTe : Hid ((⟨(putTo l k).toArray⟩ : ByteArray) ++ ⟨(vput o).toArray⟩ = ⟨T0.toArray⟩) := Lib.hid (by rw [hT0, ba_add])
        clear hbx Hsc Hxb hT0
        generalize putTo l k = pk at hlk hq2 HTe ⊢
        repeat' (first | go_values | go_skip | go_guarded | go_step | go_upon)
        refine Calls.mono (ig_calls HI0.out (ref_Put o _ hou)) ?_
        rintro _ w3 ⟨rfl, g3⟩
        dsimp only
        have K3 := Lib.hid g3
        rw [← hgi]
        clear hgi g3 HI0 H c0 c1 c2 c3 c4
        repeat' (first | go_values | go_skip | go_guarded | go_step | go_upon)
        rw [HTe.out]
        clear HTe hq1 hq2 hvo hlk
        generalize letr o = lt at Hlet Hin HT1 HFd hl3
        have htz : (bsT (lt.map rlet)).size = lt.length := by rw [bsT_size, List.length_map]
        have HB : Hid (∀ k (hk : k < lt.length) (h : k < (bsT (lt.map rlet)).size), ((bsT (lt.map rlet))[k]'h).toNat = rlet lt[k]) := Lib.hid fun k hk h => bsT_rlet lt k hk h Hlet.out
        generalize bsT (lt.map rlet) = tx at HFd htz HB
        go_loopw [5, 8] (fun s5 s8 wi => ∃ j : Nat, s8 = .int .i64 j ∧ j ≤ lt.length ∧ s5 = .string ⟨(T0 ++ (lt.take j).flatMap (pf x)).toArray⟩ ∧ Hid (IG gi w x wi)) (fun _ s8 _ => lt.length - (intOf s8).toNat)
        case atStart => exact ⟨0, rfl, Nat.zero_le _, by simp, K3⟩
        case round =>
          clear K3
          obtain ⟨j, rfl, hjl, rfl, G⟩ := hrel
          have hc0 := G.out.ins.cell 0 (by decide)
          rw [Ho.out] at hc0
          by_cases hjs : j < lt.length
          · obtain ⟨y, hy⟩ : ∃ y, y = lt[j] := ⟨_, rfl⟩
            have hkt : j < tx.size := by rw [htz]; exact hjs
            have hx8 : (tx[j]'hkt).toNat = rlet y := by rw [HB.out j hjs hkt, hy]
            have hyl : y ∈ lt := by rw [hy]; exact List.getElem_mem hjs
            have hyi := Hlet.out y hyl
            have htk : lt.take (j + 1) = lt.take j ++ [y] := by rw [List.take_succ_eq_append_getElem hjs, hy]
            obtain ⟨hz0, hz1⟩ := Hin.out y hyl
            have hz2 := mst_le y
            have Htn : Hid ((T0 ++ (lt.take j).flatMap (pf x)) ++ pf x y = T0 ++ (lt.take (j + 1)).flatMap (pf x)) := Lib.hid (by rw [htk, List.flatMap_append, List.append_assoc]; simp)
            obtain ⟨F1, hF1⟩ : ∃ F, F = T0 ++ (lt.take (j + 1)).flatMap (pf x) := ⟨_, rfl⟩
            rw [← hF1] at Htn
            have HF1 := Lib.hid hF1
            clear hF1
            have hF0 : (T0 ++ (lt.take j).flatMap (pf x)).length ≤ 163900 := by
              have h1 := flatMap_len (pf x) 10 (lt.take j) fun z hz => vput_len10 (u64_small (by
                have h2 := Hin.out z (List.mem_of_mem_take hz)
                have h3 := mst_le z
                omega))
              have h4 : (lt.take j).length ≤ 3 := by rw [List.length_take]; omega
              have := HTl.out
              rw [List.length_append]; omega
            generalize (T0 ++ (lt.take j).flatMap (pf x)) = F0 at Htn hF0 ⊢
            unfold pf at Htn
            have HV := Lib.hid (ref_Value x y hyi)
            obtain ⟨c, hc⟩ : ∃ c : Nat, x (pos y) = (c : Int) := ⟨(x (pos y)).toNat, by omega⟩
            rw [hc] at HV Htn hz1
            rw [Int.toNat_natCast] at Htn
            have hcu := u64_small (n := c) (by omega)
            have hcw : IntKind.u64.wrap (c : Int) = c := wu64 (by omega) hcu
            have hvc := vput_len10 hcu
            have HP := Lib.hid fun w => ref_Put c w hcu
            generalize vput c = vc at HP Htn hvc
            have hq1 := arrP_size vc
            have hq2 := arrP_size F0
            obtain ⟨d, hd⟩ : ∃ d, d = rlet y := ⟨_, rfl⟩
            rw [← hd] at hx8 HV
            have hdl : d < 128 := by rw [hd]; exact rlet_lt hyi
            clear htk hy hyl hd hz0 hz1 hz2 hc
            repeat' (first | go_values | go_skip | go_guarded | go_step | go_upon)
            refine Calls.mono (ig_calls G.out (HFd.out _)) ?_
            rintro _ w4 ⟨rfl, g4⟩
            dsimp only
            have K4 := Lib.hid g4
            clear hc0 g4 G
            have q0 : ∀ nq : WB w4, nq.1.cell? ⟨gi, 0, none⟩ = some (.int .i64 (o : Int)) := fun nq => by rw [← Ho.out]; exact (K4.out.ins.keep nq.2).cell 0 (by decide)
            have q1 : ∀ nq : WB w4, nq.1.cell? ⟨gi, 1, none⟩ = some (.int .i64 (x 1)) := fun nq => (K4.out.ins.keep nq.2).cell 1 (by decide)
            have q2 : ∀ nq : WB w4, nq.1.cell? ⟨gi, 2, none⟩ = some (.int .i64 (x 2)) := fun nq => (K4.out.ins.keep nq.2).cell 2 (by decide)
            have q3 : ∀ nq : WB w4, nq.1.cell? ⟨gi, 3, none⟩ = some (.int .i64 (x 3)) := fun nq => (K4.out.ins.keep nq.2).cell 3 (by decide)
            have q4 : ∀ nq : WB w4, nq.1.cell? ⟨gi, 4, none⟩ = some (.int .i64 (x 4)) := fun nq => (K4.out.ins.keep nq.2).cell 4 (by decide)
            unfold vI at HV
            rw [Ho.out] at HV
            repeat' (first | go_values | go_skip | go_guarded | go_step | go_upon)
            refine wp_region_wb (by kernel_rfl) (by kernel_rfl) w4 (Below.refl _ _) ?_
            repeat (go_big_quiet_step ((first | (go_at_call 23; exact calls_wb (HFd.out _)) | (go_at_call 24; exact calls_wb (HV.out _)) | (go_at_call 22; exact calls_wb (HP.out _)))))
            refine wpQuiet_nil ?_
            rintro _ ⟨nq, rfl⟩
            have hnq := nq.2
            clear q0 q1 q2 q3 q4
            have K5 := Lib.hid (K4.out.step hnq)
            clear K4 hnq
            repeat' (first | go_values | go_skip | go_guarded | go_step | go_upon)
            go_roundw
            case rel => exact ⟨j + 1, by go_num, hjs, by rw [← HF1.out, ← Htn.out, ba_add], K5⟩
            case measure => simp [intOf]; omega
          · obtain rfl : j = lt.length := by omega
            rw [List.take_length]
            repeat' (first | go_values | go_skip | go_guarded | go_step | go_upon)
            refine Calls.mono (ig_calls G.out (HFd.out _)) ?_
            rintro _ w4 ⟨rfl, g4⟩
            dsimp only
            have K4 := Lib.hid g4
            clear hc0 g4 G
            repeat' (first | go_values | go_skip | go_guarded | go_step | go_upon)
            go_roundw
            case rel => exact ⟨k + 1, by go_num, hlt, by rw [HT1.out], Lib.hid K4.out.bel⟩
            case measure => simp [intOf]; omega
      · obtain rfl : k = n := by omega
        repeat' (first | go_values | go_skip | go_guarded | go_step | go_upon)
        go_ret2
        exact ⟨rfl, H.out⟩
  · have hP : putI l = ([], e1) := by unfold putI; rw [if_neg (by rw [← he1]; exact hz), he1]
    rw [hP]
    have hne : (e1 != 0) = true := by simpa using hz
    clear hP he1 hz
    go_enter Tryd.func8, Tryd.ntmps8
    repeat' (first | go_values | go_skip | go_guarded | go_step | go_upon)
    refine Calls.mono (HA.out) ?_
    rintro _ w1 ⟨rfl, hb1⟩
    dsimp only
    repeat' (first | go_values | go_skip | go_guarded | go_step | go_upon)
    go_ret2
    exact ⟨rfl, hb1⟩
end Go.Proofs.YtpelngkhipcneaaDoor
