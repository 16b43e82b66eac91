/- Walk: an instruction's line, by the reference (P21.3). Condition: the instruction may be; strconv's table is as it is laid. -/
import Derived.Test.YtpelngkhipcneaaDoorIsaText
import Derived.Test.YtpelngkhipcneaaDoorIsaRefWord
namespace Go.Proofs.YtpelngkhipcneaaDoor
open Go.RowKit
theorem lq_calls {P : Program} {f : FuncId} {args : Array Value} {r : Value} {w0 w : World} {x : Nat → Int} (h : LQ w0 x w) (hc : Calls P f args w fun e w' => e = .returned r ∧ Below w.heap.size w w') :
    Calls P f args w fun e w' => e = .returned r ∧ LQ w0 x w' := hc.mono fun _ _ ⟨he, hb⟩ => ⟨he, h.step hb⟩
theorem sp_add (a : List UInt8) : (⟨a.toArray⟩ : ByteArray) ++ ⟨#[32]⟩ = ⟨(a ++ [32]).toArray⟩ := by
  rw [show (⟨#[32]⟩ : ByteArray) = ⟨[(32 : UInt8)].toArray⟩ from rfl, ba_add]
theorem str4 (a b c : List UInt8) : Value.string ((((⟨a.toArray⟩ : ByteArray) ++ ⟨#[32]⟩) ++ ⟨b.toArray⟩) ++ ⟨c.toArray⟩) = .string ⟨(a ++ (32 :: (b ++ c))).toArray⟩ := by
  rw [show (⟨#[32]⟩ : ByteArray) = ⟨[(32 : UInt8)].toArray⟩ from rfl, ba_add, ba_add, ba_add]; simp
set_option maxRecDepth 100000 in
set_option maxHeartbeats 4000000 in
theorem ref_Line (x : Nat → Int) (hok : okI x = true) (w : World) (hT : Tab10 w) :
    Calls Tryd.prog 26 #[vI x] w fun e w' => e = .returned (.string ⟨(lineL x).toArray⟩) ∧ Below w.heap.size w w' := by
  obtain ⟨o, ho⟩ : ∃ o : Nat, x 0 = (o : Int) := ⟨(x 0).toNat, by have := okI_op hok; omega⟩
  have ho1 : 1 ≤ o ∧ o ≤ 17 := by have := okI_op hok; omega
  have Hin : Hid (∀ y ∈ letr o, 0 ≤ x (pos y) ∧ x (pos y) ≤ (mst y : Int)) := Lib.hid fun y hy => okI_in hok (by rw [ho]; exact hy)
  have HX : Hid (lineL x = (wrd o).map u8 ++ (letr o).flatMap (lf x)) := Lib.hid (by unfold lineL; rw [ho]; rfl)
  have HWd : Hid (∀ w, Calls Tryd.prog 36 #[.int .i64 (x 0)] w fun e w' => e = .returned (.string (bsT (wrd o))) ∧ Below w.heap.size w w') := Lib.hid (by rw [ho]; exact fun w => ref_Word o ho1.1 ho1.2 w)
  have HFd : Hid (∀ w, Calls Tryd.prog 23 #[.int .i64 (x 0)] w fun e w' => e = .returned (.string (bsT ((letr o).map rlet))) ∧ Below w.heap.size w w') := Lib.hid (by rw [ho]; exact fun w => ref_Fields o ho1.1 ho1.2 w)
  have HL0 : Hid (LQ w x (w.alloc (.cells (ic x) 49))) := Lib.hid ⟨(Below.refl _ _).alloc (Nat.le_refl _) _, InsAt.new w x, tab10_below hT ((Below.refl _ _).alloc (Nat.le_refl _) _)⟩
  have Hlet := Lib.hid (letr_is o)
  have hl3 := letr_len o
  obtain ⟨T0, hT0⟩ : ∃ T0, T0 = (wrd o).map u8 := ⟨_, rfl⟩
  have hT0l : T0.length ≤ 4 := by rw [hT0, List.length_map]; exact wrd_len o
  have hT0' : bsT (wrd o) = ⟨T0.toArray⟩ := by rw [hT0]; rfl
  rw [← hT0] at HX
  rw [hT0'] at HWd
  clear hT0 hT0' ho hok hT ho1
  generalize letr o = lt at Hlet Hin HX HFd hl3
  have htz : (bsT (lt.map rlet)).size = lt.length := by rw [bsT_size, List.length_map]
  have HB : Hid (∀ k (hk : k < lt.length) (h : k < (bsT (lt.map rlet)).size), ((bsT (lt.map rlet))[k]'h).toNat = rlet lt[k]) := Lib.hid fun k hk h => bsT_rlet lt k hk h Hlet.out
  generalize bsT (lt.map rlet) = tx at HFd htz HB
  go_enter Tryd.func26, Tryd.ntmps26
  repeat' (first | go_values | go_skip | go_guarded | go_step | go_upon)
  refine Calls.mono (lq_calls HL0.out (HWd.out _)) ?_
  rintro _ w1 ⟨rfl, hL1⟩
  dsimp only
  have HL1 := Lib.hid hL1
  clear hL1 HL0 HWd
  repeat' (first | go_values | go_skip | go_guarded | go_step | go_upon)
  go_loopw [3, 4] (fun s3 s4 wi => ∃ j : Nat, s4 = .int .i64 j ∧ j ≤ lt.length ∧ s3 = .string ⟨(T0 ++ (lt.take j).flatMap (lf x)).toArray⟩ ∧ Hid (LQ w x wi)) (fun _ s4 _ => lt.length - (intOf s4).toNat)
  case atStart => exact ⟨0, rfl, Nat.zero_le _, by simp, HL1⟩
  case round =>
    clear HL1
    obtain ⟨j, rfl, hjl, rfl, G⟩ := hrel
    have hc0 := G.out.ins.cell 0 (by decide)
    by_cases hjs : j < lt.length
    · obtain ⟨y, hy⟩ : ∃ y, y = lt[j] := ⟨_, rfl⟩
      have hkt : j < tx.size := by rw [htz]; exact hjs
      have hx8 : (tx[j]'hkt).toNat = rlet y := by rw [HB.out j hjs hkt, hy]
      have hyl : y ∈ lt := by rw [hy]; exact List.getElem_mem hjs
      have hyi := Hlet.out y hyl
      have htk : lt.take (j + 1) = lt.take j ++ [y] := by rw [List.take_succ_eq_append_getElem hjs, hy]
      obtain ⟨hz0, hz1⟩ := Hin.out y hyl
      have hz2 := mst_le y
      have Htn : Hid ((T0 ++ (lt.take j).flatMap (lf x)) ++ lf x y = T0 ++ (lt.take (j + 1)).flatMap (lf x)) := Lib.hid (by rw [htk, List.flatMap_append, List.append_assoc]; simp)
      obtain ⟨F1, hF1⟩ : ∃ F, F = T0 ++ (lt.take (j + 1)).flatMap (lf x) := ⟨_, rfl⟩
      rw [← hF1] at Htn
      have HF1 := Lib.hid hF1
      clear hF1
      have hF0 : (T0 ++ (lt.take j).flatMap (lf x)).length ≤ 200 := by
        have h1 := flatMap_len (lf x) 23 (lt.take j) fun z hz => by
          have h2 := Hin.out z (List.mem_of_mem_take hz)
          have h3 := mst_le z
          have h4 := Lib.itoa_length_le (x (pos z)) (by omega) (by omega)
          have h5 := sgn_len z
          simp [lf, sgB]; omega
        have h4 : (lt.take j).length ≤ 3 := by rw [List.length_take]; omega
        rw [List.length_append]; omega
      generalize (T0 ++ (lt.take j).flatMap (lf x)) = F0 at Htn hF0 ⊢
      unfold lf at Htn
      have HS := Lib.hid (ref_sign y hyi)
      have HV := Lib.hid (ref_Value x y hyi)
      have hsg : bsT (sgn y) = ⟨(sgB y).toArray⟩ := rfl
      rw [hsg] at HS
      clear hsg
      generalize x (pos y) = c at HV Htn hz0 hz1
      have HI := Lib.hid fun w (hT : Tab10 w) => itoa_c c hz0 (by omega) w hT
      have hsl : (sgB y).length ≤ 1 := by unfold sgB; rw [List.length_map]; exact sgn_len y
      have hil := Lib.itoa_length_le c (by omega) (by omega)
      generalize sgB y = sg at HS Htn hsl
      generalize Lib.itoa c = ic' at HI Htn hil
      have hq1 := arrP_size sg
      have hq2 := arrP_size F0
      have hq3 := arrP_size ic'
      obtain ⟨d, hd⟩ : ∃ d, d = rlet y := ⟨_, rfl⟩
      rw [← hd] at hx8 HS HV
      have hdl : d < 128 := by rw [hd]; exact rlet_lt hyi
      clear htk hy hyl hd hz0 hz1 hz2
      repeat' (first | go_values | go_skip | go_guarded | go_step | go_upon)
      refine Calls.mono (lq_calls G.out (HFd.out _)) ?_
      rintro _ w2 ⟨rfl, g2⟩
      dsimp only
      have hc2 := g2.ins.cell 0 (by decide)
      have K2 := Lib.hid g2
      clear hc0 g2 G
      repeat' (first | go_values | go_skip | go_guarded | go_step | go_upon)
      refine Calls.mono (lq_calls K2.out (HFd.out _)) ?_
      rintro _ w3 ⟨rfl, g3⟩
      dsimp only
      have K3 := Lib.hid g3
      clear hc2 g3 K2
      have q0 : ∀ nq : WB w3, ∀ k, k < 5 → nq.1.cell? ⟨w.heap.size, k, none⟩ = some (.int .i64 (x k)) := fun nq => (K3.out.ins.keep nq.2).cell
      repeat' (first | go_values | go_skip | go_guarded | go_step | go_upon)
      refine wp_region_wb (by kernel_rfl) (by kernel_rfl) w3 (Below.refl _ _) ?_
      repeat (go_big_quiet_step ((first | (go_at_call 37; exact calls_wb_same (HS.out _)) | (go_at_call 24; exact calls_wb (HV.out _)) | (go_at_call 35; exact calls_wb (HI.out _ (tab10_below K3.out.tab (Subtype.property _)))))))
      refine wpQuiet_nil ?_
      rintro _ ⟨nq, rfl⟩
      have hnq := nq.2
      clear q0
      have K4 := Lib.hid (K3.out.step hnq)
      clear K3 hnq
      repeat' (first | go_values | go_skip | go_guarded | go_step | go_upon)
      go_roundw
      case rel => exact ⟨j + 1, by go_num, hjs, by rw [← HF1.out, ← Htn.out]; exact str4 _ _ _, K4⟩
      case measure => simp [intOf]; omega
    · obtain rfl : j = lt.length := by omega
      rw [List.take_length]
      repeat' (first | go_values | go_skip | go_guarded | go_step | go_upon)
      refine Calls.mono (lq_calls G.out (HFd.out _)) ?_
      rintro _ w2 ⟨rfl, g2⟩
      dsimp only
      have K2 := Lib.hid g2
      clear hc0 g2 G
      repeat' (first | go_values | go_skip | go_guarded | go_step | go_upon)
      go_ret
      exact ⟨ret_s HX.out.symm, K2.out.bel⟩
end Go.Proofs.YtpelngkhipcneaaDoor
